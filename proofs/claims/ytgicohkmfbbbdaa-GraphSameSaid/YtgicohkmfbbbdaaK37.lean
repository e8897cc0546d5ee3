/- GrbS, joined. -/
import Derived.Test.YtgicohkmfbbbdaaK30
import Derived.Test.YtgicohkmfbbbdaaK17
import Derived.Test.YtgicohkmfbbbdaaK36
section
namespace Go.Proofs.Ytgicohkmfbbbdaa.Gr
open _root_.Go.Proofs.Ytgicohkmfbbbdaa.Mark (ltID sortID cmpID)
open _root_.Go.Proofs.Ytgicohkmfbbbdaa.Attr (rightI rightI_iff guardI eqlI_any neqI_any guardJ eqlJ_any neqJ_any guardF eqlF_any neqF_any eq7)
open _root_.Go.Proofs.Ytgicohkmfbbbdaa.Ref (rowD flatD cellsD cellsD_len elemD IA findD find_any rowJ rowJ_snoc infoJ sortedD sortedD_len sortedD_get sortedD_own sortedD_sorted leadsN_any LnPost)
open Go.RowKit
open Attr (A8 thro)
set_option linter.unusedSimpArgs false
set_option linter.unusedVariables false
attribute [-go_sem] run_eql_struct run_neq_struct run_eqGuard_agg
attribute [local go_sem] guardI eqlI_any neqI_any guardJ eqlJ_any neqJ_any guardF eqlF_any neqF_any
open _root_.Go.Proofs.Ytgicohkmfbbbdaa.Attr (guardB_at eqlB_at neqB_at eqA eqA_iff)
attribute [local go_sem] guardB_at eqlB_at neqB_at
section
variable {P : Program} {ops : Array Oper} {rest : List Oper} {o : Oper} {a : Act} {Q : Exit → Act → World → Prop} {w : World}
/-- a beginning of a row, wherever it lies -/
theorem wpList_slice_any {t e : TypeId} {i : TypeInfo} {x hi' : Operand} {g off n cap k : Nat} (hg : o.guard = none) (hop : o.op = .slice t x none (some hi') none) (ht : P.underlying t = some (.slice e)) (hi : P.info? e = some i) (hx : a.eval x = .slice (some ⟨g, off, none⟩) n cap) (hh : a.eval hi' = .int .i64 (k : Int))
    (hk : k ≤ cap) (hK : wpList P ops Q rest (a.put o.dst (.slice (some ⟨g, off, none⟩) k cap)) w) : wpList P ops Q (o :: rest) a w := by
  have hz : ∀ w, (sizeOf e).run P w = .ok i.size w := fun w => by simp [sizeOf, typeInfo, hi]
  refine wpList_val hg (w' := w) ?_ hK
  have hrun : (Instr.sliceAt t (.slice (some ⟨g, off, none⟩) n cap) none (some (.int .i64 (k : Int))) none).run P w = .ok (.slice (some ⟨g, off, none⟩) k cap) w := by
    simp [Instr.sliceAt, Instr.slice, run_underlying ht, Instr.sliceBounds, run_sliceBound, hz, Result.andThen, show (k : Int) ≤ cap by omega, Addr.add]
  simp [execOp, hop, hx, hh, hrun, Result.andThen]
end
theorem infoN : (Try.prog.info? 67).isSome = true := by kernel_rfl
theorem idx_mem {l : List I2} {x : I2} (h : x ∈ l) : ∃ i : Nat, idxI l x = i ∧ l[i]? = some x := by
  refine ⟨l.idxOf x, ?_, by rw [List.getElem?_eq_getElem (List.idxOf_lt_length_of_mem h), List.getElem_idxOf]⟩
  unfold idxI
  rw [if_pos h]
theorem idx_get {l : List I2} {x : I2} (h : 0 ≤ idxI l x) : ∃ i : Nat, idxI l x = i ∧ l[i]? = some x := by
  by_cases hx : x ∈ l
  · exact idx_mem hx
  · rw [idxI_no hx] at h
    omega
theorem same_place {l : List IA} (hcon : ∀ x a b, (x, a) ∈ l → (x, b) ∈ l → a = b) {es es' : List IA} {f f' : F7} {out out' : List I2} (h : Pl (fun x a => (x, a) ∈ l) es f out) (h' : Pl (fun x a => (x, a) ∈ l) es' f' out') {p q : I2} {a : A8} (hp : (p, a) ∈ l) (hc : covB a q = true)
    (hi : 0 ≤ idxI out p) (hm : 0 ≤ idxI out' p) : ¬ idxI out q < 0 ∧ ¬ idxI out' q < 0 ∧ decide (idxI out p < idxI out q) = decide (idxI out' p < idxI out' q) := by
  obtain ⟨i, ei, gi⟩ := idx_get hi
  obtain ⟨m, em, gm⟩ := idx_get hm
  unfold covB at hc
  rw [Bool.and_eq_true, rightI_iff, decide_eq_true_eq] at hc
  obtain ⟨⟨h1, h2, h3, h4⟩, hd⟩ := hc
  have hrt : RtI q := ⟨h1, by omega, h3, h4⟩
  have r1 := h.covers hcon (List.mem_of_getElem? gi) hp hrt hd
  have r2 := h'.covers hcon (List.mem_of_getElem? gm) hp hrt hd
  obtain ⟨k, ek, gk⟩ := idx_mem (h.shut (List.mem_of_getElem? gi) r1)
  obtain ⟨n, en, gn⟩ := idx_mem (h'.shut (List.mem_of_getElem? gm) r2)
  have hs := Pl.same hcon h h' gi gk gm gn r1
  rw [ei, ek, em, en]
  refine ⟨by omega, by omega, ?_⟩
  rw [Bool.eq_iff_iff, decide_eq_true_eq, decide_eq_true_eq]
  constructor
  · intro q; have := hs.1 (by omega); omega
  · intro q; have := hs.2 (by omega); omega
def NoTwo (l : List IA) (i : Nat) : Prop := ∀ (a b : Nat) e e', b < a → a < i → l[a]? = some e → l[b]? = some e' → e.1 = e'.1 → e.2 = e'.2
theorem NoTwo.all {l : List IA} (h : NoTwo l l.length) : ∀ x a b, (x, a) ∈ l → (x, b) ∈ l → a = b := by
  intro x a b ha hb
  obtain ⟨i, hi, e1⟩ := List.mem_iff_getElem.1 ha
  obtain ⟨k, hk, e2⟩ := List.mem_iff_getElem.1 hb
  have g1 : l[i]? = some (x, a) := by rw [List.getElem?_eq_getElem hi, e1]
  have g2 : l[k]? = some (x, b) := by rw [List.getElem?_eq_getElem hk, e2]
  rcases Nat.lt_trichotomy i k with q | q | q
  · exact (h k i _ _ q hk g2 g1 rfl).symm
  · subst q
    rw [g1] at g2
    cases g2
    rfl
  · exact h i k _ _ q hi g1 g2 rfl
def C1Rel (w : World) (l : List IA) (x1 x2 : Value) (o1 o2 : List I2) (k : Nat) (u : Value) (wr : World) : Prop :=
  ∃ i : Nat, u = .int .i64 i ∧ i + k = l.length ∧ NoTwo l i ∧ At [Part.old w] w [rowI2 x1 o1, rowI2 x2 o2, Part.old w] wr
def C2Rel (w : World) (l : List IA) (x1 x2 : Value) (o1 o2 : List I2) (b13 i : Nat) (r t s d0 d1 d2 d3 d4 d5 d6 : Int) (k : Nat) (u : Value) (wr : World) : Prop :=
  ∃ j : Nat, u = .int .i64 j ∧ j + k = i ∧ (∀ (b : Nat) e', b < j → l[b]? = some e' → (r, t) = e'.1 → (⟨s, d0, d1, d2, d3, d4, d5, d6⟩ : A8) = e'.2) ∧ At [Part.old w] w [Part.cells b13 [.int .i64 r, .int .i64 t, .int .i64 s, .int .i64 d0, .int .i64 d1, .int .i64 d2, .int .i64 d3, .int .i64 d4, .int .i64 d5, .int .i64 d6] 67, rowI2 x1 o1, rowI2 x2 o2, Part.old w] wr
def C3Rel (w : World) (l : List IA) (x1 x2 : Value) (o1 o2 : List I2) (k : Nat) (u : Value) (wr : World) : Prop :=
  ∃ i : Nat, u = .int .i64 i ∧ i + k = l.length ∧ At [Part.old w] w [rowI2 x1 o1, rowI2 x2 o2, Part.old w] wr
def C4Rel (w : World) (l : List IA) (x1 x2 : Value) (o1 o2 : List I2) (b17 : Nat) (r t s d0 d1 d2 d3 d4 d5 d6 : Int) (k : Nat) (u : Value) (wr : World) : Prop :=
  ∃ j : Nat, u = .int .i64 j ∧ j + k = l.length ∧ At [Part.old w] w [Part.cells b17 [.int .i64 r, .int .i64 t, .int .i64 s, .int .i64 d0, .int .i64 d1, .int .i64 d2, .int .i64 d3, .int .i64 d4, .int .i64 d5, .int .i64 d6] 67, rowI2 x1 o1, rowI2 x2 o2, Part.old w] wr
def CutP (w : World) (b17 b19 : Nat) (c1 c2 : List Value) (x1 x2 : Value) (o1 o2 o : List I2) (p q : I2) (u v : Value) (wc : World) : Prop :=
  u = .int .i64 (idxI o p) ∧ v = .int .i64 (idxI o q) ∧ At [Part.old w] w [Part.cells b17 c1 67, Part.cells b19 c2 67, rowI2 x1 o1, rowI2 x2 o2, Part.old w] wc
set_option maxRecDepth 100000 in
set_option maxHeartbeats 16000000 in
theorem same_law {w : World} {v av bv : Value} {l : List IA} {xs ys : List Int} (hl0 : ReadsD (Part.old w) v l) (hcp : ∀ ax n c, v = .slice ax n c → n ≤ c) (hokl : ∀ n ∈ l, okD n.1) (hlen : l.length ≤ 9223372036854775807)
    (hxs0 : ReadsI (Part.old w) av xs) (hxl : xs.length ≤ 9223372036854775807) (hys0 : ReadsI (Part.old w) bv ys) (hyl : ys.length ≤ 9223372036854775807) :
    Calls Try.prog 6 #[v, av, bv] w fun e w' => e = .returned (.bool true) ∧ Below w.heap.size w w' := by
  have hm : Try.prog.follows .mixedOrders = true := by kernel_rfl
  obtain ⟨iN, hiN⟩ := Option.isSome_iff_exists.1 infoN
  have hA := old_start w
  obtain ⟨ax, cap, rfl, _, _⟩ := hl0 w (hA.get .here)
  obtain ⟨ay, cay, rfl, _, _⟩ := hxs0 w (hA.get .here)
  obtain ⟨az, caz, rfl, _, _⟩ := hys0 w (hA.get .here)
  have hcap := hcp _ _ _ rfl
  have hl0' := Lib.hid hl0
  have hokl' := Lib.hid hokl
  have hxs' := Lib.hid hxs0
  have hys' := Lib.hid hys0
  clear hl0 hokl hxs0 hys0 hcp
  (try simp only [uA] at hA); have hF := hA.facts; (try simp only [fZ] at hF)
  go_enter Try.func6, Try.ntmps6
  go_wp2_with (first | ((with_reducible refine gst ?_); refine wS hA ?_; clear hF hA; intro w1 hA; (try simp only [uA] at hA); have hF := hA.facts; (try simp only [fZ] at hF)) | ((with_reducible refine gbx ?_); refine wB hA ?_; clear hF hA; intro b1 w1 hA hb1; (try simp only [uA] at hA); have hF := hA.facts; (try simp only [fZ] at hF)))
  refine (anchor_any _).mono ?_
  rintro e w1 ⟨rfl, hxx⟩
  have hB := hA.ext hxx
  clear hxx
  clear hF hA; have hA := hB; clear hB
  try simp only [List.cons_append, List.nil_append] at hA
  (try simp only [uA] at hA); have hF := hA.facts; (try simp only [fZ] at hF)
  by_cases h16 : l.length ≤ 16
  · by_cases h40 : xs.length ≤ 40
    · by_cases h41 : ys.length ≤ 40
      · have hgl : ¬ (16 : Int) < l.length := by omega
        have hga : ¬ (40 : Int) < xs.length := by omega
        have hgb : ¬ (40 : Int) < ys.length := by omega
        go_wp2_with (first | ((with_reducible refine gst ?_); refine wS hA ?_; clear hF hA; intro w1 hA; (try simp only [uA] at hA); have hF := hA.facts; (try simp only [fZ] at hF)) | ((with_reducible refine gbx ?_); refine wB hA ?_; clear hF hA; intro b1 w1 hA hb1; (try simp only [uA] at hA); have hF := hA.facts; (try simp only [fZ] at hF)))
        refine (built_any (R := Part.old w) (v := .slice ax l.length cap) (l := l) (hA.sep1 (A := Part.old w) (by repeat (first | exact Sel.here | apply Sel.there))) hl0'.out (by omega) hokl'.out).mono ?_
        rintro e w4 ⟨p, m, u, rfl, hT⟩
        have hB := hA.call1 (A := Part.old w) (by repeat (first | exact Sel.here | apply Sel.there)) hT
        clear hT
        clear hF hA; have hA := hB; clear hB
        try simp only [List.cons_append, List.nil_append] at hA
        (try simp only [uA] at hA); have hF := hA.facts; (try simp only [fZ] at hF)
        go_wp2_with (first | ((with_reducible refine gst ?_); refine wS hA ?_; clear hF hA; intro w1 hA; (try simp only [uA] at hA); have hF := hA.facts; (try simp only [fZ] at hF)) | ((with_reducible refine gbx ?_); refine wB hA ?_; clear hF hA; intro b1 w1 hA hb1; (try simp only [uA] at hA); have hF := hA.facts; (try simp only [fZ] at hF)))
        refine (played_any (R := Part.old w) (v := .slice ax l.length cap) (ov := .slice ay xs.length cay) (l := l) (xs := xs) (hA.sep1 (A := Part.old w) (by repeat (first | exact Sel.here | apply Sel.there))) hl0'.out (by omega) hokl'.out hxs'.out (by omega)).mono ?_
        rintro e w5 ⟨x1, es1, f1, o1, rfl, hp1, hT⟩
        have hB := hA.call1 (A := Part.old w) (by repeat (first | exact Sel.here | apply Sel.there)) hT
        clear hT
        clear hF hA; have hA := hB; clear hB
        try simp only [List.cons_append, List.nil_append] at hA
        (try simp only [uA] at hA); have hF := hA.facts; (try simp only [fZ] at hF)
        go_wp2_with (first | ((with_reducible refine gst ?_); refine wS hA ?_; clear hF hA; intro w1 hA; (try simp only [uA] at hA); have hF := hA.facts; (try simp only [fZ] at hF)) | ((with_reducible refine gbx ?_); refine wB hA ?_; clear hF hA; intro b1 w1 hA hb1; (try simp only [uA] at hA); have hF := hA.facts; (try simp only [fZ] at hF)))
        refine (played_any (R := Part.old w) (v := .slice ax l.length cap) (ov := .slice az ys.length caz) (l := l) (xs := ys) (hA.sep1 (A := Part.old w) (by repeat (first | exact Sel.here | apply Sel.there))) hl0'.out (by omega) hokl'.out hys'.out (by omega)).mono ?_
        rintro e w6 ⟨x2, es2, f2, o2, rfl, hp2, hT⟩
        have hB := hA.call1 (A := Part.old w) (by repeat (first | exact Sel.here | apply Sel.there)) hT
        clear hT
        clear hF hA; have hA := hB; clear hB
        try simp only [List.cons_append, List.nil_append] at hA
        (try simp only [uA] at hA); have hF := hA.facts; (try simp only [fZ] at hF)
        have hol1 := hp1.len.2
        have hol2 := hp2.len.2
        have hp1' := Lib.hid hp1
        have hp2' := Lib.hid hp2
        clear hp1 hp2
        go_wp2_with (first | ((with_reducible refine gst ?_); refine wS hA ?_; clear hF hA; intro w1 hA; (try simp only [uA] at hA); have hF := hA.facts; (try simp only [fZ] at hF)) | ((with_reducible refine gbx ?_); refine wB hA ?_; clear hF hA; intro b1 w1 hA hb1; (try simp only [uA] at hA); have hF := hA.facts; (try simp only [fZ] at hF)))
        try go_frame
        have hB : At [Part.old w] w [rowI2 x1 o1, rowI2 x2 o2, Part.old w] _ := hA.pick (by repeat (first | exact Picks.nil | refine Picks.cons (by repeat (first | exact Sel.here | apply Sel.there)) ?_))
        clear hF hA
        go_loopg [55] l.length (C1Rel w l x1 x2 o1 o2)
        case atStart => exact ⟨0, rfl, by omega, fun a b e e' _ h => absurd h (by omega), hB⟩
        case round =>
          obtain ⟨i, rfl, hik, hno, hA⟩ := hrel
          have hno' := Lib.hid hno
          clear hB hno
          by_cases hi : i < l.length
          · obtain ⟨e1, hx1⟩ : ∃ e, l[i]? = some e := ⟨_, List.getElem?_eq_getElem hi⟩
            obtain ⟨b0, off0, hax, hce⟩ := row_elemG cellsD_len (by omega) (hl0'.out _ (hA.get (A := Part.old w) (by repeat (first | exact Sel.here | apply Sel.there)))) hx1
            subst hax
            have hx1' := Lib.hid hx1
            clear hx1
            obtain ⟨⟨r, t⟩, s, d0, d1, d2, d3, d4, d5, d6⟩ := e1
            have hr1' := Lib.hid (show ∀ (k : Nat) u, ([.int .i64 r, .int .i64 t, .int .i64 s, .int .i64 d0, .int .i64 d1, .int .i64 d2, .int .i64 d3, .int .i64 d4, .int .i64 d5, .int .i64 d6] : List Value)[k]? = some u → wr.cell? ⟨b0, off0 + i * 10 + k, none⟩ = some u from hce)
            clear hce
            have hiI : (i : Int) < l.length := by omega
            have hic : i ≤ cap := by omega
            have hikG : i + 1 + (gk - 1) = l.length ∧ gk - 1 < gk := by omega
            obtain ⟨G, hG⟩ : ∃ G, gk - 1 = G := ⟨_, rfl⟩
            rw [hG] at hikG
            have hGk := Lib.hid hikG
            clear hG hik hikG
            (try simp only [uA] at hA); have hF := hA.facts; (try simp only [fZ] at hF)
            go_wp2_with (first | ((with_reducible refine gal ?_); refine wA 67 (.agg #[.int .i64 0, .int .i64 0, .int .i64 0, .int .i64 0, .int .i64 0, .int .i64 0, .int .i64 0, .int .i64 0, .int .i64 0, .int .i64 0]) [.int .i64 0, .int .i64 0, .int .i64 0, .int .i64 0, .int .i64 0, .int .i64 0, .int .i64 0, .int .i64 0, .int .i64 0, .int .i64 0] hA ?_; clear hF hA; intro b13 w1 hA hb13; (try simp only [uA] at hA); have hF := hA.facts; (try simp only [fZ] at hF)) | ((with_reducible show wpList _ _ _ ({ dst := some 59, op := Op.load _ _, type := _, pos := _, after := _, guard := _ } :: _) _ _); refine wpList_loadRow_at (vs := [.int .i64 r, .int .i64 t, .int .i64 s, .int .i64 d0, .int .i64 d1, .int .i64 d2, .int .i64 d3, .int .i64 d4, .int .i64 d5, .int .i64 d6]) rfl rfl (by (try simp only [Act.eval, eV]) <;> exact rfl) hr1'.out (by kernel_rfl) (by kernel_rfl) ?_) | ((with_reducible show wpList _ _ _ ({ dst := some 62, op := Op.slice _ _ _ _ _, type := _, pos := _, after := _, guard := _ } :: _) _ _); refine wpList_slice_any (k := i) rfl rfl Try.underlying22 hiN (by (try simp only [Act.eval, eV]) <;> exact rfl) (by (try simp only [Act.eval, eV]) <;> exact rfl) hic ?_) | ((with_reducible refine gst ?_); refine wS hA ?_; clear hF hA; intro w1 hA; (try simp only [uA] at hA); have hF := hA.facts; (try simp only [fZ] at hF)) | ((with_reducible refine gbx ?_); refine wB hA ?_; clear hF hA; intro b1 w1 hA hb1; (try simp only [uA] at hA); have hF := hA.facts; (try simp only [fZ] at hF)))
            try go_frame
            clear hF
            go_loopg [64] i (C2Rel w l x1 x2 o1 o2 b13 i r t s d0 d1 d2 d3 d4 d5 d6)
            case atStart => exact ⟨0, rfl, by omega, fun b e' h => absurd h (by omega), hA.pick (by repeat (first | exact Picks.nil | refine Picks.cons (by repeat (first | exact Sel.here | apply Sel.there)) ?_))⟩
            case round =>
              obtain ⟨j, rfl, hjk, hnj, hB⟩ := hrel
              have hnj' := Lib.hid hnj
              clear hA hnj; have hA := hB; clear hB
              by_cases hj : j < i
              · obtain ⟨e2, hx2⟩ : ∃ e, l[j]? = some e := ⟨_, List.getElem?_eq_getElem (by omega)⟩
                have hce := reads_held hl0'.out hx2 _ (hA.get (A := Part.old w) (by repeat (first | exact Sel.here | apply Sel.there)))
                have hx2' := Lib.hid hx2
                clear hx2
                obtain ⟨⟨r2, t2⟩, s2, g0, g1, g2, g3, g4, g5, g6⟩ := e2
                have hr2' := Lib.hid (show ∀ (k : Nat) u, ([.int .i64 r2, .int .i64 t2, .int .i64 s2, .int .i64 g0, .int .i64 g1, .int .i64 g2, .int .i64 g3, .int .i64 g4, .int .i64 g5, .int .i64 g6] : List Value)[k]? = some u → wr.cell? ⟨b0, off0 + j * 10 + k, none⟩ = some u from hce)
                clear hce
                have hjI : (j : Int) < i := by omega
                have hnx := Lib.hid (show ((r, t) = (r2, t2) → (⟨s, d0, d1, d2, d3, d4, d5, d6⟩ : A8) = (⟨s2, g0, g1, g2, g3, g4, g5, g6⟩ : A8)) → ∀ (b : Nat) e', b < j + 1 → l[b]? = some e' → (r, t) = e'.1 → (⟨s, d0, d1, d2, d3, d4, d5, d6⟩ : A8) = e'.2 from fun h b e' hb he q => by
                  rcases Nat.lt_or_eq_of_le (Nat.le_of_lt_succ hb) with c | c
                  · exact hnj'.out b e' c he q
                  · subst c
                    rw [hx2'.out] at he
                    cases he
                    exact h q)
                by_cases hid : r = r2 ∧ t = t2
                · have hid2 : (decide (r = r2) && decide (t = t2)) = true := by simpa using hid
                  clear hid
                  obtain ⟨dd, hdd⟩ : ∃ z, eqA (⟨s, d0, d1, d2, d3, d4, d5, d6⟩ : A8) (⟨s2, g0, g1, g2, g3, g4, g5, g6⟩ : A8) = z := ⟨_, rfl⟩
                  cases dd
                  · have hF := hA.facts
                    (try simp only [uA] at hA); have hF := hA.facts; (try simp only [fZ] at hF)
                    go_wp2_with (first | ((with_reducible refine gal ?_); refine wA 67 (.agg #[.int .i64 0, .int .i64 0, .int .i64 0, .int .i64 0, .int .i64 0, .int .i64 0, .int .i64 0, .int .i64 0, .int .i64 0, .int .i64 0]) [.int .i64 0, .int .i64 0, .int .i64 0, .int .i64 0, .int .i64 0, .int .i64 0, .int .i64 0, .int .i64 0, .int .i64 0, .int .i64 0] hA ?_; clear hF hA; intro b15 w1 hA hb15; (try simp only [uA] at hA); have hF := hA.facts; (try simp only [fZ] at hF)) | ((with_reducible show wpList _ _ _ ({ dst := some 67, op := Op.load _ _, type := _, pos := _, after := _, guard := _ } :: _) _ _); refine wpList_loadRow_at (vs := [.int .i64 r2, .int .i64 t2, .int .i64 s2, .int .i64 g0, .int .i64 g1, .int .i64 g2, .int .i64 g3, .int .i64 g4, .int .i64 g5, .int .i64 g6]) rfl rfl (by (try simp only [Act.eval, eV]) <;> exact rfl) hr2'.out (by kernel_rfl) (by kernel_rfl) ?_) | ((with_reducible show wpList _ _ _ ({ dst := some 69, op := Op.load _ _, type := _, pos := _, after := _, guard := _ } :: _) _ _); refine wpList_loadCut_at (b := b13) (vs := [.int .i64 r, .int .i64 t]) rfl rfl (by (try simp only [Act.eval, eV]) <;> exact rfl) hA (by repeat (first | exact Sel.here | apply Sel.there)) rfl (by kernel_rfl) (by kernel_rfl) ?_) | ((with_reducible show wpList _ _ _ ({ dst := some 71, op := Op.load _ _, type := _, pos := _, after := _, guard := _ } :: _) _ _); refine wpList_loadCut_at (b := b15) (vs := [.int .i64 r2, .int .i64 t2]) rfl rfl (by (try simp only [Act.eval, eV]) <;> exact rfl) hA (by repeat (first | exact Sel.here | apply Sel.there)) rfl (by kernel_rfl) (by kernel_rfl) ?_) | ((with_reducible show wpList _ _ _ ({ dst := some 75, op := Op.load _ _, type := _, pos := _, after := _, guard := _ } :: _) _ _); refine wpList_loadCut_at (b := b13) (vs := [.int .i64 s, .int .i64 d0, .int .i64 d1, .int .i64 d2, .int .i64 d3, .int .i64 d4, .int .i64 d5, .int .i64 d6]) rfl rfl (by (try simp only [Act.eval, eV]) <;> exact rfl) hA (by repeat (first | exact Sel.here | apply Sel.there)) rfl (by kernel_rfl) (by kernel_rfl) ?_) | ((with_reducible show wpList _ _ _ ({ dst := some 77, op := Op.load _ _, type := _, pos := _, after := _, guard := _ } :: _) _ _); refine wpList_loadCut_at (b := b15) (vs := [.int .i64 s2, .int .i64 g0, .int .i64 g1, .int .i64 g2, .int .i64 g3, .int .i64 g4, .int .i64 g5, .int .i64 g6]) rfl rfl (by (try simp only [Act.eval, eV]) <;> exact rfl) hA (by repeat (first | exact Sel.here | apply Sel.there)) rfl (by kernel_rfl) (by kernel_rfl) ?_) | ((with_reducible refine gst ?_); refine wS hA ?_; clear hF hA; intro w1 hA; (try simp only [uA] at hA); have hF := hA.facts; (try simp only [fZ] at hF)) | ((with_reducible refine gbx ?_); refine wB hA ?_; clear hF hA; intro b1 w1 hA hb1; (try simp only [uA] at hA); have hF := hA.facts; (try simp only [fZ] at hF)))
                    go_ret
                    exact ⟨rfl, below_old hA (by repeat (first | exact Sel.here | apply Sel.there))⟩
                  · have hF := hA.facts
                    (try simp only [uA] at hA); have hF := hA.facts; (try simp only [fZ] at hF)
                    go_wp2_with (first | ((with_reducible refine gal ?_); refine wA 67 (.agg #[.int .i64 0, .int .i64 0, .int .i64 0, .int .i64 0, .int .i64 0, .int .i64 0, .int .i64 0, .int .i64 0, .int .i64 0, .int .i64 0]) [.int .i64 0, .int .i64 0, .int .i64 0, .int .i64 0, .int .i64 0, .int .i64 0, .int .i64 0, .int .i64 0, .int .i64 0, .int .i64 0] hA ?_; clear hF hA; intro b15 w1 hA hb15; (try simp only [uA] at hA); have hF := hA.facts; (try simp only [fZ] at hF)) | ((with_reducible show wpList _ _ _ ({ dst := some 67, op := Op.load _ _, type := _, pos := _, after := _, guard := _ } :: _) _ _); refine wpList_loadRow_at (vs := [.int .i64 r2, .int .i64 t2, .int .i64 s2, .int .i64 g0, .int .i64 g1, .int .i64 g2, .int .i64 g3, .int .i64 g4, .int .i64 g5, .int .i64 g6]) rfl rfl (by (try simp only [Act.eval, eV]) <;> exact rfl) hr2'.out (by kernel_rfl) (by kernel_rfl) ?_) | ((with_reducible show wpList _ _ _ ({ dst := some 69, op := Op.load _ _, type := _, pos := _, after := _, guard := _ } :: _) _ _); refine wpList_loadCut_at (b := b13) (vs := [.int .i64 r, .int .i64 t]) rfl rfl (by (try simp only [Act.eval, eV]) <;> exact rfl) hA (by repeat (first | exact Sel.here | apply Sel.there)) rfl (by kernel_rfl) (by kernel_rfl) ?_) | ((with_reducible show wpList _ _ _ ({ dst := some 71, op := Op.load _ _, type := _, pos := _, after := _, guard := _ } :: _) _ _); refine wpList_loadCut_at (b := b15) (vs := [.int .i64 r2, .int .i64 t2]) rfl rfl (by (try simp only [Act.eval, eV]) <;> exact rfl) hA (by repeat (first | exact Sel.here | apply Sel.there)) rfl (by kernel_rfl) (by kernel_rfl) ?_) | ((with_reducible show wpList _ _ _ ({ dst := some 75, op := Op.load _ _, type := _, pos := _, after := _, guard := _ } :: _) _ _); refine wpList_loadCut_at (b := b13) (vs := [.int .i64 s, .int .i64 d0, .int .i64 d1, .int .i64 d2, .int .i64 d3, .int .i64 d4, .int .i64 d5, .int .i64 d6]) rfl rfl (by (try simp only [Act.eval, eV]) <;> exact rfl) hA (by repeat (first | exact Sel.here | apply Sel.there)) rfl (by kernel_rfl) (by kernel_rfl) ?_) | ((with_reducible show wpList _ _ _ ({ dst := some 77, op := Op.load _ _, type := _, pos := _, after := _, guard := _ } :: _) _ _); refine wpList_loadCut_at (b := b15) (vs := [.int .i64 s2, .int .i64 g0, .int .i64 g1, .int .i64 g2, .int .i64 g3, .int .i64 g4, .int .i64 g5, .int .i64 g6]) rfl rfl (by (try simp only [Act.eval, eV]) <;> exact rfl) hA (by repeat (first | exact Sel.here | apply Sel.there)) rfl (by kernel_rfl) (by kernel_rfl) ?_) | ((with_reducible refine gst ?_); refine wS hA ?_; clear hF hA; intro w1 hA; (try simp only [uA] at hA); have hF := hA.facts; (try simp only [fZ] at hF)) | ((with_reducible refine gbx ?_); refine wB hA ?_; clear hF hA; intro b1 w1 hA hb1; (try simp only [uA] at hA); have hF := hA.facts; (try simp only [fZ] at hF)))
                    go_roundg (gk - 1)
                    case measure => omega
                    case rel => exact ⟨j + 1, by simp, by omega, hnx.out fun _ => eqA_iff.1 hdd, hA.pick (by repeat (first | exact Picks.nil | refine Picks.cons (by repeat (first | exact Sel.here | apply Sel.there)) ?_))⟩
                · have hid2 : (decide (r = r2) && decide (t = t2)) = false := by
                    cases hq : (decide (r = r2) && decide (t = t2)) with
                    | false => rfl
                    | true => exact absurd (by simpa using hq) hid
                  have hid' := Lib.hid hid
                  clear hid
                  (try simp only [uA] at hA); have hF := hA.facts; (try simp only [fZ] at hF)
                  go_wp2_with (first | ((with_reducible refine gal ?_); refine wA 67 (.agg #[.int .i64 0, .int .i64 0, .int .i64 0, .int .i64 0, .int .i64 0, .int .i64 0, .int .i64 0, .int .i64 0, .int .i64 0, .int .i64 0]) [.int .i64 0, .int .i64 0, .int .i64 0, .int .i64 0, .int .i64 0, .int .i64 0, .int .i64 0, .int .i64 0, .int .i64 0, .int .i64 0] hA ?_; clear hF hA; intro b15 w1 hA hb15; (try simp only [uA] at hA); have hF := hA.facts; (try simp only [fZ] at hF)) | ((with_reducible show wpList _ _ _ ({ dst := some 67, op := Op.load _ _, type := _, pos := _, after := _, guard := _ } :: _) _ _); refine wpList_loadRow_at (vs := [.int .i64 r2, .int .i64 t2, .int .i64 s2, .int .i64 g0, .int .i64 g1, .int .i64 g2, .int .i64 g3, .int .i64 g4, .int .i64 g5, .int .i64 g6]) rfl rfl (by (try simp only [Act.eval, eV]) <;> exact rfl) hr2'.out (by kernel_rfl) (by kernel_rfl) ?_) | ((with_reducible show wpList _ _ _ ({ dst := some 69, op := Op.load _ _, type := _, pos := _, after := _, guard := _ } :: _) _ _); refine wpList_loadCut_at (b := b13) (vs := [.int .i64 r, .int .i64 t]) rfl rfl (by (try simp only [Act.eval, eV]) <;> exact rfl) hA (by repeat (first | exact Sel.here | apply Sel.there)) rfl (by kernel_rfl) (by kernel_rfl) ?_) | ((with_reducible show wpList _ _ _ ({ dst := some 71, op := Op.load _ _, type := _, pos := _, after := _, guard := _ } :: _) _ _); refine wpList_loadCut_at (b := b15) (vs := [.int .i64 r2, .int .i64 t2]) rfl rfl (by (try simp only [Act.eval, eV]) <;> exact rfl) hA (by repeat (first | exact Sel.here | apply Sel.there)) rfl (by kernel_rfl) (by kernel_rfl) ?_) | ((with_reducible show wpList _ _ _ ({ dst := some 75, op := Op.load _ _, type := _, pos := _, after := _, guard := _ } :: _) _ _); refine wpList_loadCut_at (b := b13) (vs := [.int .i64 s, .int .i64 d0, .int .i64 d1, .int .i64 d2, .int .i64 d3, .int .i64 d4, .int .i64 d5, .int .i64 d6]) rfl rfl (by (try simp only [Act.eval, eV]) <;> exact rfl) hA (by repeat (first | exact Sel.here | apply Sel.there)) rfl (by kernel_rfl) (by kernel_rfl) ?_) | ((with_reducible show wpList _ _ _ ({ dst := some 77, op := Op.load _ _, type := _, pos := _, after := _, guard := _ } :: _) _ _); refine wpList_loadCut_at (b := b15) (vs := [.int .i64 s2, .int .i64 g0, .int .i64 g1, .int .i64 g2, .int .i64 g3, .int .i64 g4, .int .i64 g5, .int .i64 g6]) rfl rfl (by (try simp only [Act.eval, eV]) <;> exact rfl) hA (by repeat (first | exact Sel.here | apply Sel.there)) rfl (by kernel_rfl) (by kernel_rfl) ?_) | ((with_reducible refine gst ?_); refine wS hA ?_; clear hF hA; intro w1 hA; (try simp only [uA] at hA); have hF := hA.facts; (try simp only [fZ] at hF)) | ((with_reducible refine gbx ?_); refine wB hA ?_; clear hF hA; intro b1 w1 hA hb1; (try simp only [uA] at hA); have hF := hA.facts; (try simp only [fZ] at hF)))
                  go_roundg (gk - 1)
                  case measure => omega
                  case rel => exact ⟨j + 1, by simp, by omega, hnx.out fun q => absurd (by cases q; exact ⟨rfl, rfl⟩) hid'.out, hA.pick (by repeat (first | exact Picks.nil | refine Picks.cons (by repeat (first | exact Sel.here | apply Sel.there)) ?_))⟩
              · have hjI : ¬ (j : Int) < i := by omega
                have hij : j = i := by omega
                have hno2 := Lib.hid (show NoTwo l (i + 1) from fun a b e e' hb ha h1 h2 q => by
                  rcases Nat.lt_or_eq_of_le (Nat.le_of_lt_succ ha) with c | c
                  · exact hno'.out a b e e' hb c h1 h2 q
                  · subst c
                    rw [hx1'.out] at h1
                    cases h1
                    exact hnj'.out b e' (by omega) h2 q)
                (try simp only [uA] at hA); have hF := hA.facts; (try simp only [fZ] at hF)
                go_wp2_with (first | ((with_reducible refine gst ?_); refine wS hA ?_; clear hF hA; intro w1 hA; (try simp only [uA] at hA); have hF := hA.facts; (try simp only [fZ] at hF)) | ((with_reducible refine gbx ?_); refine wB hA ?_; clear hF hA; intro b1 w1 hA hb1; (try simp only [uA] at hA); have hF := hA.facts; (try simp only [fZ] at hF)))
                go_roundg G
                case measure => exact hGk.out.2
                case rel => exact ⟨i + 1, by simp, hGk.out.1, hno2.out, hA.pick (by repeat (first | exact Picks.nil | refine Picks.cons (by repeat (first | exact Sel.here | apply Sel.there)) ?_))⟩
          · have hii : i = l.length := by omega
            subst hii
            have hcon := Lib.hid hno'.out.all
            have hiI : ¬ ((l.length : Nat) : Int) < l.length := by omega
            (try simp only [uA] at hA); have hF := hA.facts; (try simp only [fZ] at hF)
            go_wp2_with (first | ((with_reducible refine gst ?_); refine wS hA ?_; clear hF hA; intro w1 hA; (try simp only [uA] at hA); have hF := hA.facts; (try simp only [fZ] at hF)) | ((with_reducible refine gbx ?_); refine wB hA ?_; clear hF hA; intro b1 w1 hA hb1; (try simp only [uA] at hA); have hF := hA.facts; (try simp only [fZ] at hF)))
            try go_frame
            clear hF hno'
            go_loopg [84] l.length (C3Rel w l x1 x2 o1 o2)
            case atStart => exact ⟨0, rfl, by omega, hA.pick (by repeat (first | exact Picks.nil | refine Picks.cons (by repeat (first | exact Sel.here | apply Sel.there)) ?_))⟩
            case round =>
              obtain ⟨i, rfl, hik, hB⟩ := hrel
              clear hA; have hA := hB; clear hB
              by_cases hi : i < l.length
              · obtain ⟨e1, hx1⟩ : ∃ e, l[i]? = some e := ⟨_, List.getElem?_eq_getElem hi⟩
                obtain ⟨b0, off0, hax, hce⟩ := row_elemG cellsD_len (by omega) (hl0'.out _ (hA.get (A := Part.old w) (by repeat (first | exact Sel.here | apply Sel.there)))) hx1
                subst hax
                have hmem := Lib.hid (List.mem_of_getElem? hx1)
                clear hx1
                obtain ⟨⟨r, t⟩, s, d0, d1, d2, d3, d4, d5, d6⟩ := e1
                have hr1' := Lib.hid (show ∀ (k : Nat) u, ([.int .i64 r, .int .i64 t, .int .i64 s, .int .i64 d0, .int .i64 d1, .int .i64 d2, .int .i64 d3, .int .i64 d4, .int .i64 d5, .int .i64 d6] : List Value)[k]? = some u → wr.cell? ⟨b0, off0 + i * 10 + k, none⟩ = some u from hce)
                clear hce
                have hiI : (i : Int) < l.length := by omega
                have hikG : i + 1 + (gk - 1) = l.length ∧ gk - 1 < gk := by omega
                obtain ⟨G, hG⟩ : ∃ G, gk - 1 = G := ⟨_, rfl⟩
                rw [hG] at hikG
                have hGk := Lib.hid hikG
                clear hG hik hikG
                (try simp only [uA] at hA); have hF := hA.facts; (try simp only [fZ] at hF)
                go_wp2_with (first | ((with_reducible refine gal ?_); refine wA 67 (.agg #[.int .i64 0, .int .i64 0, .int .i64 0, .int .i64 0, .int .i64 0, .int .i64 0, .int .i64 0, .int .i64 0, .int .i64 0, .int .i64 0]) [.int .i64 0, .int .i64 0, .int .i64 0, .int .i64 0, .int .i64 0, .int .i64 0, .int .i64 0, .int .i64 0, .int .i64 0, .int .i64 0] hA ?_; clear hF hA; intro b17 w1 hA hb17; (try simp only [uA] at hA); have hF := hA.facts; (try simp only [fZ] at hF)) | ((with_reducible show wpList _ _ _ ({ dst := some 87, op := Op.load _ _, type := _, pos := _, after := _, guard := _ } :: _) _ _); refine wpList_loadRow_at (vs := [.int .i64 r, .int .i64 t, .int .i64 s, .int .i64 d0, .int .i64 d1, .int .i64 d2, .int .i64 d3, .int .i64 d4, .int .i64 d5, .int .i64 d6]) rfl rfl (by (try simp only [Act.eval, eV]) <;> exact rfl) hr1'.out (by kernel_rfl) (by kernel_rfl) ?_) | ((with_reducible refine gst ?_); refine wS hA ?_; clear hF hA; intro w1 hA; (try simp only [uA] at hA); have hF := hA.facts; (try simp only [fZ] at hF)) | ((with_reducible refine gbx ?_); refine wB hA ?_; clear hF hA; intro b1 w1 hA hb1; (try simp only [uA] at hA); have hF := hA.facts; (try simp only [fZ] at hF)))
                try go_frame
                clear hF
                go_loopg [90] l.length (C4Rel w l x1 x2 o1 o2 b17 r t s d0 d1 d2 d3 d4 d5 d6)
                case atStart => exact ⟨0, rfl, by omega, hA.pick (by repeat (first | exact Picks.nil | refine Picks.cons (by repeat (first | exact Sel.here | apply Sel.there)) ?_))⟩
                case round =>
                  obtain ⟨j, rfl, hjk, hB⟩ := hrel
                  clear hA; have hA := hB; clear hB
                  by_cases hj : j < l.length
                  · obtain ⟨e2, hx2⟩ : ∃ e, l[j]? = some e := ⟨_, List.getElem?_eq_getElem hj⟩
                    have hce := reads_held hl0'.out hx2 _ (hA.get (A := Part.old w) (by repeat (first | exact Sel.here | apply Sel.there)))
                    clear hx2
                    obtain ⟨⟨r2, t2⟩, s2, g0, g1, g2, g3, g4, g5, g6⟩ := e2
                    have hr2' := Lib.hid (show ∀ (k : Nat) u, ([.int .i64 r2, .int .i64 t2, .int .i64 s2, .int .i64 g0, .int .i64 g1, .int .i64 g2, .int .i64 g3, .int .i64 g4, .int .i64 g5, .int .i64 g6] : List Value)[k]? = some u → wr.cell? ⟨b0, off0 + j * 10 + k, none⟩ = some u from hce)
                    clear hce
                    have hjI : (j : Int) < l.length := by omega
                    (try simp only [uA] at hA); have hF := hA.facts; (try simp only [fZ] at hF)
                    go_upto_region 25 with (first | ((with_reducible refine gal ?_); refine wA 67 (.agg #[.int .i64 0, .int .i64 0, .int .i64 0, .int .i64 0, .int .i64 0, .int .i64 0, .int .i64 0, .int .i64 0, .int .i64 0, .int .i64 0]) [.int .i64 0, .int .i64 0, .int .i64 0, .int .i64 0, .int .i64 0, .int .i64 0, .int .i64 0, .int .i64 0, .int .i64 0, .int .i64 0] hA ?_; clear hF hA; intro b19 w1 hA hb19; (try simp only [uA] at hA); have hF := hA.facts; (try simp only [fZ] at hF)) | ((with_reducible show wpList _ _ _ ({ dst := some 93, op := Op.load _ _, type := _, pos := _, after := _, guard := _ } :: _) _ _); refine wpList_loadRow_at (vs := [.int .i64 r2, .int .i64 t2, .int .i64 s2, .int .i64 g0, .int .i64 g1, .int .i64 g2, .int .i64 g3, .int .i64 g4, .int .i64 g5, .int .i64 g6]) rfl rfl (by (try simp only [Act.eval, eV]) <;> exact rfl) hr2'.out (by kernel_rfl) (by kernel_rfl) ?_) | ((with_reducible refine gst ?_); refine wS hA ?_; clear hF hA; intro w1 hA; (try simp only [uA] at hA); have hF := hA.facts; (try simp only [fZ] at hF)) | ((with_reducible refine gbx ?_); refine wB hA ?_; clear hF hA; intro b1 w1 hA hb1; (try simp only [uA] at hA); have hF := hA.facts; (try simp only [fZ] at hF)))
                    try go_frame
                    go_cut [20, 21] from 94 to 101 (CutP w b17 b19 [.int .i64 r, .int .i64 t, .int .i64 s, .int .i64 d0, .int .i64 d1, .int .i64 d2, .int .i64 d3, .int .i64 d4, .int .i64 d5, .int .i64 d6] [.int .i64 r2, .int .i64 t2, .int .i64 s2, .int .i64 g0, .int .i64 g1, .int .i64 g2, .int .i64 g3, .int .i64 g4, .int .i64 g5, .int .i64 g6] x1 x2 o1 o2 o1 (r, t) (r2, t2))
                    case first =>
                      have hB := hA.drew
                      clear hF hA; have hA := hB; clear hB
                      refine wp_region_held (S := fun w' => BlockIs w' b17 [.int .i64 r, .int .i64 t, .int .i64 s, .int .i64 d0, .int .i64 d1, .int .i64 d2, .int .i64 d3, .int .i64 d4, .int .i64 d5, .int .i64 d6] 67 ∧ BlockIs w' b19 [.int .i64 r2, .int .i64 t2, .int .i64 s2, .int .i64 g0, .int .i64 g1, .int .i64 g2, .int .i64 g3, .int .i64 g4, .int .i64 g5, .int .i64 g6] 67) hm ?_
                      change wpAnyH _ _ _ _ _ 10 _ _ (World.drew _)
                      generalize World.drew _ = wd at *
                      have hS0 := (⟨hA.get (A := Part.cells b17 [.int .i64 r, .int .i64 t, .int .i64 s, .int .i64 d0, .int .i64 d1, .int .i64 d2, .int .i64 d3, .int .i64 d4, .int .i64 d5, .int .i64 d6] 67) (by repeat (first | exact Sel.here | apply Sel.there)), hA.get (A := Part.cells b19 [.int .i64 r2, .int .i64 t2, .int .i64 s2, .int .i64 g0, .int .i64 g1, .int .i64 g2, .int .i64 g3, .int .i64 g4, .int .i64 g5, .int .i64 g6] 67) (by repeat (first | exact Sel.here | apply Sel.there))⟩ : (fun w' => BlockIs w' b17 [.int .i64 r, .int .i64 t, .int .i64 s, .int .i64 d0, .int .i64 d1, .int .i64 d2, .int .i64 d3, .int .i64 d4, .int .i64 d5, .int .i64 d6] 67 ∧ BlockIs w' b19 [.int .i64 r2, .int .i64 t2, .int .i64 s2, .int .i64 g0, .int .i64 g1, .int .i64 g2, .int .i64 g3, .int .i64 g4, .int .i64 g5, .int .i64 g6] 67) wd)
                      refine tP 0 94 (x1) (s := hS0) (h := ?_)
                      try go_frame
                      refine tP 1 95 (.pointer (some ⟨b17, 0, none⟩)) (s := hS0) (h := ?_)
                      try go_frame
                      refine tZ 2 96 (.agg #[.int .i64 r, .int .i64 t]) (r := (fun w' hS => run_load_row (ty := 38) (n := 2) (b := b17) (j := 0) rfl (by exact rfl) hS.1 (by kernel_rfl) (by kernel_rfl) rfl rfl)) (s := hS0) (h := ?_)
                      try go_frame
                      refine tP 4 98 (x1) (s := hS0) (h := ?_)
                      try go_frame
                      refine tP 5 99 (.pointer (some ⟨b19, 0, none⟩)) (s := hS0) (h := ?_)
                      try go_frame
                      refine tZ 6 100 (.agg #[.int .i64 r2, .int .i64 t2]) (r := (fun w' hS => run_load_row (ty := 38) (n := 2) (b := b19) (j := 0) rfl (by exact rfl) hS.2 (by kernel_rfl) (by kernel_rfl) rfl rfl)) (s := hS0) (h := ?_)
                      try go_frame
                      refine wpAnyH_one (i := 3) (by kernel_rfl) ?_
                      refine opCall_at (i := 3) (d := some 97) (R := fun u w' => u = .int .i64 (idxI o1 (r, t)) ∧ At [rowI2 x1 o1] _ [rowI2 x1 o1] w') rfl rfl (by kernel_rfl) (fn := 28) (args := #[x1, .agg #[.int .i64 r, .int .i64 t]]) (by simp [execOp, go_sem, Act.eval, Act.put]) ((place_any (hA.sep1 (A := rowI2 x1 o1) (by repeat (first | exact Sel.here | apply Sel.there))) (r, t) (by omega)).mono fun e w' ⟨he, hT⟩ => ⟨_, he, rfl, hT⟩) ?_
                      rintro _ wc3 ⟨rfl, hT⟩
                      have hB := hA.call1 (A := rowI2 x1 o1) (by repeat (first | exact Sel.here | apply Sel.there)) hT
                      clear hT
                      simp only [List.cons_append, List.nil_append] at hB
                      have hS0 := (⟨hB.get (A := Part.cells b17 [.int .i64 r, .int .i64 t, .int .i64 s, .int .i64 d0, .int .i64 d1, .int .i64 d2, .int .i64 d3, .int .i64 d4, .int .i64 d5, .int .i64 d6] 67) (by repeat (first | exact Sel.here | apply Sel.there)), hB.get (A := Part.cells b19 [.int .i64 r2, .int .i64 t2, .int .i64 s2, .int .i64 g0, .int .i64 g1, .int .i64 g2, .int .i64 g3, .int .i64 g4, .int .i64 g5, .int .i64 g6] 67) (by repeat (first | exact Sel.here | apply Sel.there))⟩ : (fun w' => BlockIs w' b17 [.int .i64 r, .int .i64 t, .int .i64 s, .int .i64 d0, .int .i64 d1, .int .i64 d2, .int .i64 d3, .int .i64 d4, .int .i64 d5, .int .i64 d6] 67 ∧ BlockIs w' b19 [.int .i64 r2, .int .i64 t2, .int .i64 s2, .int .i64 g0, .int .i64 g1, .int .i64 g2, .int .i64 g3, .int .i64 g4, .int .i64 g5, .int .i64 g6] 67) wc3)
                      clear hA; have hA := hB; clear hB
                      refine ⟨hS0, ?_⟩
                      try go_frame
                      refine wpAnyH_one (i := 7) (by kernel_rfl) ?_
                      refine opCall_at (i := 7) (d := some 101) (R := fun u w' => u = .int .i64 (idxI o1 (r2, t2)) ∧ At [rowI2 x1 o1] _ [rowI2 x1 o1] w') rfl rfl (by kernel_rfl) (fn := 28) (args := #[x1, .agg #[.int .i64 r2, .int .i64 t2]]) (by simp [execOp, go_sem, Act.eval, Act.put]) ((place_any (hA.sep1 (A := rowI2 x1 o1) (by repeat (first | exact Sel.here | apply Sel.there))) (r2, t2) (by omega)).mono fun e w' ⟨he, hT⟩ => ⟨_, he, rfl, hT⟩) ?_
                      rintro _ wc7 ⟨rfl, hT⟩
                      have hB := hA.call1 (A := rowI2 x1 o1) (by repeat (first | exact Sel.here | apply Sel.there)) hT
                      clear hT
                      simp only [List.cons_append, List.nil_append] at hB
                      have hS0 := (⟨hB.get (A := Part.cells b17 [.int .i64 r, .int .i64 t, .int .i64 s, .int .i64 d0, .int .i64 d1, .int .i64 d2, .int .i64 d3, .int .i64 d4, .int .i64 d5, .int .i64 d6] 67) (by repeat (first | exact Sel.here | apply Sel.there)), hB.get (A := Part.cells b19 [.int .i64 r2, .int .i64 t2, .int .i64 s2, .int .i64 g0, .int .i64 g1, .int .i64 g2, .int .i64 g3, .int .i64 g4, .int .i64 g5, .int .i64 g6] 67) (by repeat (first | exact Sel.here | apply Sel.there))⟩ : (fun w' => BlockIs w' b17 [.int .i64 r, .int .i64 t, .int .i64 s, .int .i64 d0, .int .i64 d1, .int .i64 d2, .int .i64 d3, .int .i64 d4, .int .i64 d5, .int .i64 d6] 67 ∧ BlockIs w' b19 [.int .i64 r2, .int .i64 t2, .int .i64 s2, .int .i64 g0, .int .i64 g1, .int .i64 g2, .int .i64 g3, .int .i64 g4, .int .i64 g5, .int .i64 g6] 67) wc7)
                      clear hA; have hA := hB; clear hB
                      refine ⟨hS0, ?_⟩
                      try go_frame
                      refine tP 8 20 (.int .i64 (idxI o1 (r, t))) (s := hS0) (h := ?_)
                      try go_frame
                      refine tP 9 21 (.int .i64 (idxI o1 (r2, t2))) (s := hS0) (h := ?_)
                      try go_frame
                      refine wpAnyH_done (by kernel_rfl) ?_ _
                      try go_frame
                      go_wp2_with fail
                      go_meet
                      case rel => exact ⟨rfl, rfl, hA.pick (by repeat (first | exact Picks.nil | refine Picks.cons (by repeat (first | exact Sel.here | apply Sel.there)) ?_))⟩
                    case rest =>
                      clear hF hA
                      obtain ⟨rfl, rfl, hA⟩ := hcut
                      (try simp only [uA] at hA); have hF := hA.facts; (try simp only [fZ] at hF)
                      go_upto_region 26 with (first | ((with_reducible refine gst ?_); refine wS hA ?_; clear hF hA; intro w1 hA; (try simp only [uA] at hA); have hF := hA.facts; (try simp only [fZ] at hF)) | ((with_reducible refine gbx ?_); refine wB hA ?_; clear hF hA; intro b1 w1 hA hb1; (try simp only [uA] at hA); have hF := hA.facts; (try simp only [fZ] at hF)))
                      try go_frame
                      go_cut [22, 23] from 102 to 109 (CutP w b17 b19 [.int .i64 r, .int .i64 t, .int .i64 s, .int .i64 d0, .int .i64 d1, .int .i64 d2, .int .i64 d3, .int .i64 d4, .int .i64 d5, .int .i64 d6] [.int .i64 r2, .int .i64 t2, .int .i64 s2, .int .i64 g0, .int .i64 g1, .int .i64 g2, .int .i64 g3, .int .i64 g4, .int .i64 g5, .int .i64 g6] x1 x2 o1 o2 o2 (r, t) (r2, t2))
                      case first =>
                        have hB := hA.drew
                        clear hF hA; have hA := hB; clear hB
                        refine wp_region_held (S := fun w' => BlockIs w' b17 [.int .i64 r, .int .i64 t, .int .i64 s, .int .i64 d0, .int .i64 d1, .int .i64 d2, .int .i64 d3, .int .i64 d4, .int .i64 d5, .int .i64 d6] 67 ∧ BlockIs w' b19 [.int .i64 r2, .int .i64 t2, .int .i64 s2, .int .i64 g0, .int .i64 g1, .int .i64 g2, .int .i64 g3, .int .i64 g4, .int .i64 g5, .int .i64 g6] 67) hm ?_
                        change wpAnyH _ _ _ _ _ 10 _ _ (World.drew _)
                        generalize World.drew _ = wd at *
                        have hS0 := (⟨hA.get (A := Part.cells b17 [.int .i64 r, .int .i64 t, .int .i64 s, .int .i64 d0, .int .i64 d1, .int .i64 d2, .int .i64 d3, .int .i64 d4, .int .i64 d5, .int .i64 d6] 67) (by repeat (first | exact Sel.here | apply Sel.there)), hA.get (A := Part.cells b19 [.int .i64 r2, .int .i64 t2, .int .i64 s2, .int .i64 g0, .int .i64 g1, .int .i64 g2, .int .i64 g3, .int .i64 g4, .int .i64 g5, .int .i64 g6] 67) (by repeat (first | exact Sel.here | apply Sel.there))⟩ : (fun w' => BlockIs w' b17 [.int .i64 r, .int .i64 t, .int .i64 s, .int .i64 d0, .int .i64 d1, .int .i64 d2, .int .i64 d3, .int .i64 d4, .int .i64 d5, .int .i64 d6] 67 ∧ BlockIs w' b19 [.int .i64 r2, .int .i64 t2, .int .i64 s2, .int .i64 g0, .int .i64 g1, .int .i64 g2, .int .i64 g3, .int .i64 g4, .int .i64 g5, .int .i64 g6] 67) wd)
                        refine tP 0 102 (x2) (s := hS0) (h := ?_)
                        try go_frame
                        refine tP 1 103 (.pointer (some ⟨b17, 0, none⟩)) (s := hS0) (h := ?_)
                        try go_frame
                        refine tZ 2 104 (.agg #[.int .i64 r, .int .i64 t]) (r := (fun w' hS => run_load_row (ty := 38) (n := 2) (b := b17) (j := 0) rfl (by exact rfl) hS.1 (by kernel_rfl) (by kernel_rfl) rfl rfl)) (s := hS0) (h := ?_)
                        try go_frame
                        refine tP 4 106 (x2) (s := hS0) (h := ?_)
                        try go_frame
                        refine tP 5 107 (.pointer (some ⟨b19, 0, none⟩)) (s := hS0) (h := ?_)
                        try go_frame
                        refine tZ 6 108 (.agg #[.int .i64 r2, .int .i64 t2]) (r := (fun w' hS => run_load_row (ty := 38) (n := 2) (b := b19) (j := 0) rfl (by exact rfl) hS.2 (by kernel_rfl) (by kernel_rfl) rfl rfl)) (s := hS0) (h := ?_)
                        try go_frame
                        refine wpAnyH_one (i := 3) (by kernel_rfl) ?_
                        refine opCall_at (i := 3) (d := some 105) (R := fun u w' => u = .int .i64 (idxI o2 (r, t)) ∧ At [rowI2 x2 o2] _ [rowI2 x2 o2] w') rfl rfl (by kernel_rfl) (fn := 28) (args := #[x2, .agg #[.int .i64 r, .int .i64 t]]) (by simp [execOp, go_sem, Act.eval, Act.put]) ((place_any (hA.sep1 (A := rowI2 x2 o2) (by repeat (first | exact Sel.here | apply Sel.there))) (r, t) (by omega)).mono fun e w' ⟨he, hT⟩ => ⟨_, he, rfl, hT⟩) ?_
                        rintro _ wc3 ⟨rfl, hT⟩
                        have hB := hA.call1 (A := rowI2 x2 o2) (by repeat (first | exact Sel.here | apply Sel.there)) hT
                        clear hT
                        simp only [List.cons_append, List.nil_append] at hB
                        have hS0 := (⟨hB.get (A := Part.cells b17 [.int .i64 r, .int .i64 t, .int .i64 s, .int .i64 d0, .int .i64 d1, .int .i64 d2, .int .i64 d3, .int .i64 d4, .int .i64 d5, .int .i64 d6] 67) (by repeat (first | exact Sel.here | apply Sel.there)), hB.get (A := Part.cells b19 [.int .i64 r2, .int .i64 t2, .int .i64 s2, .int .i64 g0, .int .i64 g1, .int .i64 g2, .int .i64 g3, .int .i64 g4, .int .i64 g5, .int .i64 g6] 67) (by repeat (first | exact Sel.here | apply Sel.there))⟩ : (fun w' => BlockIs w' b17 [.int .i64 r, .int .i64 t, .int .i64 s, .int .i64 d0, .int .i64 d1, .int .i64 d2, .int .i64 d3, .int .i64 d4, .int .i64 d5, .int .i64 d6] 67 ∧ BlockIs w' b19 [.int .i64 r2, .int .i64 t2, .int .i64 s2, .int .i64 g0, .int .i64 g1, .int .i64 g2, .int .i64 g3, .int .i64 g4, .int .i64 g5, .int .i64 g6] 67) wc3)
                        clear hA; have hA := hB; clear hB
                        refine ⟨hS0, ?_⟩
                        try go_frame
                        refine wpAnyH_one (i := 7) (by kernel_rfl) ?_
                        refine opCall_at (i := 7) (d := some 109) (R := fun u w' => u = .int .i64 (idxI o2 (r2, t2)) ∧ At [rowI2 x2 o2] _ [rowI2 x2 o2] w') rfl rfl (by kernel_rfl) (fn := 28) (args := #[x2, .agg #[.int .i64 r2, .int .i64 t2]]) (by simp [execOp, go_sem, Act.eval, Act.put]) ((place_any (hA.sep1 (A := rowI2 x2 o2) (by repeat (first | exact Sel.here | apply Sel.there))) (r2, t2) (by omega)).mono fun e w' ⟨he, hT⟩ => ⟨_, he, rfl, hT⟩) ?_
                        rintro _ wc7 ⟨rfl, hT⟩
                        have hB := hA.call1 (A := rowI2 x2 o2) (by repeat (first | exact Sel.here | apply Sel.there)) hT
                        clear hT
                        simp only [List.cons_append, List.nil_append] at hB
                        have hS0 := (⟨hB.get (A := Part.cells b17 [.int .i64 r, .int .i64 t, .int .i64 s, .int .i64 d0, .int .i64 d1, .int .i64 d2, .int .i64 d3, .int .i64 d4, .int .i64 d5, .int .i64 d6] 67) (by repeat (first | exact Sel.here | apply Sel.there)), hB.get (A := Part.cells b19 [.int .i64 r2, .int .i64 t2, .int .i64 s2, .int .i64 g0, .int .i64 g1, .int .i64 g2, .int .i64 g3, .int .i64 g4, .int .i64 g5, .int .i64 g6] 67) (by repeat (first | exact Sel.here | apply Sel.there))⟩ : (fun w' => BlockIs w' b17 [.int .i64 r, .int .i64 t, .int .i64 s, .int .i64 d0, .int .i64 d1, .int .i64 d2, .int .i64 d3, .int .i64 d4, .int .i64 d5, .int .i64 d6] 67 ∧ BlockIs w' b19 [.int .i64 r2, .int .i64 t2, .int .i64 s2, .int .i64 g0, .int .i64 g1, .int .i64 g2, .int .i64 g3, .int .i64 g4, .int .i64 g5, .int .i64 g6] 67) wc7)
                        clear hA; have hA := hB; clear hB
                        refine ⟨hS0, ?_⟩
                        try go_frame
                        refine tP 8 22 (.int .i64 (idxI o2 (r, t))) (s := hS0) (h := ?_)
                        try go_frame
                        refine tP 9 23 (.int .i64 (idxI o2 (r2, t2))) (s := hS0) (h := ?_)
                        try go_frame
                        refine wpAnyH_done (by kernel_rfl) ?_ _
                        try go_frame
                        go_wp2_with fail
                        go_meet
                        case rel => exact ⟨rfl, rfl, hA.pick (by repeat (first | exact Picks.nil | refine Picks.cons (by repeat (first | exact Sel.here | apply Sel.there)) ?_))⟩
                      case rest =>
                        clear hF hA
                        obtain ⟨rfl, rfl, hA⟩ := hcut
                        have hsp := same_place hcon.out hp1'.out hp2'.out (p := (r, t)) (q := (r2, t2)) (a := (⟨s, d0, d1, d2, d3, d4, d5, d6⟩ : A8)) hmem.out
                        (try simp only [uA] at hA); have hF := hA.facts; (try simp only [fZ] at hF)
                        go_wp2_with (first | ((with_reducible show wpList _ _ _ ({ dst := some 111, op := Op.load _ _, type := _, pos := _, after := _, guard := _ } :: _) _ _); refine wpList_loadCut_at (b := b17) (vs := [.int .i64 s, .int .i64 d0, .int .i64 d1, .int .i64 d2, .int .i64 d3, .int .i64 d4, .int .i64 d5, .int .i64 d6]) rfl rfl (by (try simp only [Act.eval, eV]) <;> exact rfl) hA (by repeat (first | exact Sel.here | apply Sel.there)) rfl (by kernel_rfl) (by kernel_rfl) ?_) | ((with_reducible show wpList _ _ _ ({ dst := some 113, op := Op.load _ _, type := _, pos := _, after := _, guard := _ } :: _) _ _); refine wpList_loadCut_at (b := b19) (vs := [.int .i64 r2, .int .i64 t2]) rfl rfl (by (try simp only [Act.eval, eV]) <;> exact rfl) hA (by repeat (first | exact Sel.here | apply Sel.there)) rfl (by kernel_rfl) (by kernel_rfl) ?_) | ((with_reducible refine gst ?_); refine wS hA ?_; clear hF hA; intro w1 hA; (try simp only [uA] at hA); have hF := hA.facts; (try simp only [fZ] at hF)) | ((with_reducible refine gbx ?_); refine wB hA ?_; clear hF hA; intro b1 w1 hA hb1; (try simp only [uA] at hA); have hF := hA.facts; (try simp only [fZ] at hF)))
                        refine (covers_any (⟨s, d0, d1, d2, d3, d4, d5, d6⟩ : A8) (r2, t2) _).mono ?_
                        rintro e w9 ⟨rfl, hxx⟩
                        have hB := hA.ext hxx
                        clear hxx
                        clear hF hA; have hA := hB; clear hB
                        try simp only [List.cons_append, List.nil_append] at hA
                        (try simp only [uA] at hA); have hF := hA.facts; (try simp only [fZ] at hF)
                        generalize idxI o1 (r, t) = zi at *
                        generalize idxI o1 (r2, t2) = zk at *
                        generalize idxI o2 (r, t) = zm at *
                        generalize idxI o2 (r2, t2) = zn at *
                        generalize covB (⟨s, d0, d1, d2, d3, d4, d5, d6⟩ : A8) (r2, t2) = cv at *
                        cases cv
                        · clear hsp
                          go_wp2_with (first | ((with_reducible refine gst ?_); refine wS hA ?_; clear hF hA; intro w1 hA; (try simp only [uA] at hA); have hF := hA.facts; (try simp only [fZ] at hF)) | ((with_reducible refine gbx ?_); refine wB hA ?_; clear hF hA; intro b1 w1 hA hb1; (try simp only [uA] at hA); have hF := hA.facts; (try simp only [fZ] at hF)))
                          go_roundg (gk - 1)
                          case measure => omega
                          case rel => exact ⟨j + 1, by simp, by omega, hA.pick (by repeat (first | exact Picks.nil | refine Picks.cons (by repeat (first | exact Sel.here | apply Sel.there)) ?_))⟩
                        · by_cases hzi : 0 ≤ zi
                          · by_cases hzm : 0 ≤ zm
                            · obtain ⟨hk0, hn0, hdd⟩ := hsp rfl hzi hzm
                              clear hsp
                              by_cases hq1 : zi < zk
                              · have hq2 : zm < zn := of_decide_eq_true (hdd ▸ decide_eq_true hq1)
                                clear hdd
                                go_wp2_with (first | ((with_reducible refine gst ?_); refine wS hA ?_; clear hF hA; intro w1 hA; (try simp only [uA] at hA); have hF := hA.facts; (try simp only [fZ] at hF)) | ((with_reducible refine gbx ?_); refine wB hA ?_; clear hF hA; intro b1 w1 hA hb1; (try simp only [uA] at hA); have hF := hA.facts; (try simp only [fZ] at hF)))
                                go_roundg (gk - 1)
                                case measure => omega
                                case rel => exact ⟨j + 1, by simp, by omega, hA.pick (by repeat (first | exact Picks.nil | refine Picks.cons (by repeat (first | exact Sel.here | apply Sel.there)) ?_))⟩
                              · have hq3 : decide (zi < zk) = false := decide_eq_false hq1
                                have hq4 : decide (zm < zn) = false := by rw [← hdd]; exact hq3
                                have hq5 : (decide (zi < zk) != decide (zm < zn)) = false := by rw [hq3, hq4]; rfl
                                have hq6 : ¬ zm < zn := of_decide_eq_false hq4
                                clear hdd
                                go_wp2_with (first | ((with_reducible refine gst ?_); refine wS hA ?_; clear hF hA; intro w1 hA; (try simp only [uA] at hA); have hF := hA.facts; (try simp only [fZ] at hF)) | ((with_reducible refine gbx ?_); refine wB hA ?_; clear hF hA; intro b1 w1 hA hb1; (try simp only [uA] at hA); have hF := hA.facts; (try simp only [fZ] at hF)))
                                go_roundg (gk - 1)
                                case measure => omega
                                case rel => exact ⟨j + 1, by simp, by omega, hA.pick (by repeat (first | exact Picks.nil | refine Picks.cons (by repeat (first | exact Sel.here | apply Sel.there)) ?_))⟩
                            · clear hsp
                              go_wp2_with (first | ((with_reducible refine gst ?_); refine wS hA ?_; clear hF hA; intro w1 hA; (try simp only [uA] at hA); have hF := hA.facts; (try simp only [fZ] at hF)) | ((with_reducible refine gbx ?_); refine wB hA ?_; clear hF hA; intro b1 w1 hA hb1; (try simp only [uA] at hA); have hF := hA.facts; (try simp only [fZ] at hF)))
                              go_roundg (gk - 1)
                              case measure => omega
                              case rel => exact ⟨j + 1, by simp, by omega, hA.pick (by repeat (first | exact Picks.nil | refine Picks.cons (by repeat (first | exact Sel.here | apply Sel.there)) ?_))⟩
                          · clear hsp
                            go_wp2_with (first | ((with_reducible refine gst ?_); refine wS hA ?_; clear hF hA; intro w1 hA; (try simp only [uA] at hA); have hF := hA.facts; (try simp only [fZ] at hF)) | ((with_reducible refine gbx ?_); refine wB hA ?_; clear hF hA; intro b1 w1 hA hb1; (try simp only [uA] at hA); have hF := hA.facts; (try simp only [fZ] at hF)))
                            go_roundg (gk - 1)
                            case measure => omega
                            case rel => exact ⟨j + 1, by simp, by omega, hA.pick (by repeat (first | exact Picks.nil | refine Picks.cons (by repeat (first | exact Sel.here | apply Sel.there)) ?_))⟩
                  · have hjI : ¬ (j : Int) < l.length := by omega
                    (try simp only [uA] at hA); have hF := hA.facts; (try simp only [fZ] at hF)
                    go_wp2_with (first | ((with_reducible refine gst ?_); refine wS hA ?_; clear hF hA; intro w1 hA; (try simp only [uA] at hA); have hF := hA.facts; (try simp only [fZ] at hF)) | ((with_reducible refine gbx ?_); refine wB hA ?_; clear hF hA; intro b1 w1 hA hb1; (try simp only [uA] at hA); have hF := hA.facts; (try simp only [fZ] at hF)))
                    go_roundg G
                    case measure => exact hGk.out.2
                    case rel => exact ⟨i + 1, by simp, hGk.out.1, hA.pick (by repeat (first | exact Picks.nil | refine Picks.cons (by repeat (first | exact Sel.here | apply Sel.there)) ?_))⟩
              · have hiI : ¬ (i : Int) < l.length := by omega
                (try simp only [uA] at hA); have hF := hA.facts; (try simp only [fZ] at hF)
                go_wp2_with (first | ((with_reducible refine gst ?_); refine wS hA ?_; clear hF hA; intro w1 hA; (try simp only [uA] at hA); have hF := hA.facts; (try simp only [fZ] at hF)) | ((with_reducible refine gbx ?_); refine wB hA ?_; clear hF hA; intro b1 w1 hA hb1; (try simp only [uA] at hA); have hF := hA.facts; (try simp only [fZ] at hF)))
                go_ret
                exact ⟨rfl, below_old hA (by repeat (first | exact Sel.here | apply Sel.there))⟩
      · have hgl : ¬ (16 : Int) < l.length := by omega
        have hga : ¬ (40 : Int) < xs.length := by omega
        have hgb : (40 : Int) < ys.length := by omega
        go_wp2_with (first | ((with_reducible refine gst ?_); refine wS hA ?_; clear hF hA; intro w1 hA; (try simp only [uA] at hA); have hF := hA.facts; (try simp only [fZ] at hF)) | ((with_reducible refine gbx ?_); refine wB hA ?_; clear hF hA; intro b1 w1 hA hb1; (try simp only [uA] at hA); have hF := hA.facts; (try simp only [fZ] at hF)))
        go_ret
        exact ⟨rfl, below_old hA (by repeat (first | exact Sel.here | apply Sel.there))⟩
    · have hgl : ¬ (16 : Int) < l.length := by omega
      have hga : (40 : Int) < xs.length := by omega
      go_wp2_with (first | ((with_reducible refine gst ?_); refine wS hA ?_; clear hF hA; intro w1 hA; (try simp only [uA] at hA); have hF := hA.facts; (try simp only [fZ] at hF)) | ((with_reducible refine gbx ?_); refine wB hA ?_; clear hF hA; intro b1 w1 hA hb1; (try simp only [uA] at hA); have hF := hA.facts; (try simp only [fZ] at hF)))
      go_ret
      exact ⟨rfl, below_old hA (by repeat (first | exact Sel.here | apply Sel.there))⟩
  · have hgl : (16 : Int) < l.length := by omega
    go_wp2_with (first | ((with_reducible refine gst ?_); refine wS hA ?_; clear hF hA; intro w1 hA; (try simp only [uA] at hA); have hF := hA.facts; (try simp only [fZ] at hF)) | ((with_reducible refine gbx ?_); refine wB hA ?_; clear hF hA; intro b1 w1 hA hb1; (try simp only [uA] at hA); have hF := hA.facts; (try simp only [fZ] at hF)))
    go_ret
    exact ⟨rfl, below_old hA (by repeat (first | exact Sel.here | apply Sel.there))⟩
end Go.Proofs.Ytgicohkmfbbbdaa.Gr
end
