/- GrcC, GrcD, joined. -/
import Derived.Test.YtgicohkmfbbbdaaK27
import Derived.Test.YtgicohkmfbbbdaaK25
section
namespace Go.Proofs.Ytgicohkmfbbbdaa.Gr
open _root_.Go.Proofs.Ytgicohkmfbbbdaa.Ref (rowT restB flatB flatB_get Sq Br reads_cell pool_cell tF)
open Go.RowKit
open Tar (mostL most_snoc dpt up up_same up_other DpS DpI Dn)
set_option linter.unusedSimpArgs false
set_option linter.unusedVariables false
attribute [-go_sem] run_eql_struct run_neq_struct run_eqGuard_agg

section
variable {L0 L F : List Part} {w0 w : World} {e : TypeId} {g n : Nat} {xs : List Value}
theorem row_whole (h : At L0 w0 L w) (s : Sel (Part.row e 1 (.slice (some ⟨g, 0, none⟩) n n) n xs) L F) (hn : 0 < n) : xs.length = n ∧ n ≤ maxLen ∧ At L0 w0 (Part.cells g xs e :: F) w := by
  obtain ⟨g2, c, hg, h1, h2, h3, h4, hB⟩ := h.row_open s hn
  cases hg
  rw [List.take_of_length_le (by omega)] at h4
  subst h4
  exact ⟨by omega, h2, hB⟩
theorem whole_row (h : At L0 w0 L w) (s : Sel (Part.cells g xs e) L F) (hl : xs.length = n) (hm : n ≤ maxLen) : At L0 w0 (Part.row e 1 (.slice (some ⟨g, 0, none⟩) n n) n xs :: F) w :=
  h.row_shut s (by omega) (Nat.le_refl _) hm (List.take_of_length_le (by omega))
end
/-- depths as cells -/
def dL (n : Nat) (D : Nat → Nat) : List Value := (List.range n).map fun j => Value.int .i64 (D j : Int)
theorem dL_len (n : Nat) (D : Nat → Nat) : (dL n D).length = n := by simp [dL]
theorem dL_at {n i : Nat} (D : Nat → Nat) (h : i < n) : (dL n D)[i]? = some (.int .i64 (D i : Int)) := by simp [dL, h]
theorem dL_set {n i : Nat} (D : Nat → Nat) (v : Nat) : (dL n D).set i (.int .i64 (v : Int)) = dL n (up D i v) := by
  refine List.ext_getElem? fun j => ?_
  rw [List.getElem?_set]
  unfold dL
  by_cases e : i = j
  · subst e
    by_cases h : i < n <;> simp [h, up_same]
  · by_cases h : j < n <;> simp [h, e, up_other D v (fun q => e q.symm)]
theorem dL_made (n : Nat) : (madeCells (Value.cells (.int .i64 0)) (n * 1)).toList = dL n fun _ => 0 := by
  rw [made_flat (fun k : Nat => [Value.int .i64 (k : Int)]) 1 (fun _ => rfl) 0 (Value.cells (.int .i64 0)) rfl n]
  unfold dL
  induction n with
  | zero => rfl
  | succ n ih => rw [List.replicate_succ', List.flatMap_append, ih, List.range_succ, List.map_append]; rfl
abbrev rowZ (g n : Nat) (D : Nat → Nat) : Part := Part.row 3 1 (.slice (some ⟨g, 0, none⟩) n n) n (dL n D)
def DaRel (w : World) (L0 C : List Part) (g n : Nat) (t : Nat → Nat → Bool) (k : Nat) (u : Value) (wr : World) : Prop :=
  ∃ (r : Nat) (D : Nat → Nat), u = .int .i64 r ∧ r + k = n ∧ DpS n t r 0 D ∧ At L0 w (rowZ g n D :: C) wr
def DbRel (w : World) (L0 C : List Part) (g n : Nat) (t : Nat → Nat → Bool) (r : Nat) (k : Nat) (u : Value) (wr : World) : Prop :=
  ∃ (i : Nat) (D : Nat → Nat), u = .int .i64 i ∧ i + k = n ∧ DpS n t r i D ∧ At L0 w (rowZ g n D :: C) wr
def DcRel (w : World) (L0 C : List Part) (g n : Nat) (t : Nat → Nat → Bool) (r i : Nat) (k : Nat) (u : Value) (wr : World) : Prop :=
  ∃ (q : Nat) (D : Nat → Nat), u = .int .i64 q ∧ q + k = n ∧ DpI n t r i q D ∧ At L0 w (rowZ g n D :: C) wr
def DdRel (w : World) (L0 C : List Part) (g n : Nat) (D : Nat → Nat) (k : Nat) (u1 u2 : Value) (wr : World) : Prop :=
  ∃ i : Nat, u1 = .int .i64 i ∧ u2 = .int .i64 (mostL ((List.range i).map D) : Nat) ∧ i + k = n ∧ At L0 w (rowZ g n D :: C) wr
theorem infoZ : (Try.prog.info? 3).map (fun i => (i.zero, i.size, i.bytes)) = some (some (.int .i64 0), 1, 8) := by kernel_rfl
set_option maxRecDepth 100000 in
set_option maxHeartbeats 8000000 in
theorem deepest_any {w : World} {tv : Value} {T : List Br} {n : Nat} (h : Sep [rowT tv T, restB T] w) (hs : Sq T n) (ht : ∀ i j k, i < n → j < n → k < n → tF T i j = true → tF T j k = true → tF T i k = true) (hn : n ≤ 1000) :
    Calls Try.prog 34 #[tv] w fun e w' => e = .returned (.int .i64 (mostL ((List.range n).map (dpt n (tF T))) : Nat)) ∧ At [rowT tv T, restB T] w [rowT tv T, restB T] w' := by
  obtain ⟨i0, hi0, hz0, hz1, hz2⟩ := info_parts infoZ
  have hA := At.start h
  have hs' := Lib.hid hs
  have ht' := Lib.hid ht
  clear h ht
  obtain ⟨axT, capT, hvT, _, _, _⟩ := hA.row_form (e := 60) (size := 1) (n := T.length) (v := tv) (xs := flatB T) sZ
  subst hvT
  have hT1 := hs.1
  clear hs
  subst hT1
  (try simp only [uA] at hA); have hF := hA.facts; (try simp only [fZ] at hF)
  go_enter Try.func34, Try.ntmps34
  go_wp2_with (first | ((with_reducible refine gms ?_); refine wpList_makeRow_at (e := 3) rfl _ _ rfl Try.underlying63 hi0 hz0 hz1 T.length (by (try simp only [Act.eval, eV]) <;> exact rfl) (by (try simp only [Act.eval, eV]) <;> exact rfl) (by rw [hz2]; omega) (by unfold maxLen; omega) hA ?_; intro g w1 hB; rw [dL_made] at hB; clear hF hA; have hA := hB; clear hB; (try simp only [uA] at hA); have hF := hA.facts; (try simp only [fZ] at hF)) | ((with_reducible refine gst ?_); refine wS hA ?_; clear hF hA; intro w1 hA; (try simp only [uA] at hA); have hF := hA.facts; (try simp only [fZ] at hF)) | ((with_reducible refine gbx ?_); refine wB hA ?_; clear hF hA; intro b1 w1 hA hb1; (try simp only [uA] at hA); have hF := hA.facts; (try simp only [fZ] at hF)))
  try go_frame
  clear hF
  go_loopg [14] T.length (DaRel w [rowT (.slice axT T.length capT) T, restB T] [rowT (.slice axT T.length capT) T, restB T] g T.length (tF T))
  case atStart => exact ⟨0, _, rfl, by omega, DpS.start, hA.pick pZ⟩
  case round =>
    obtain ⟨r, D, rfl, hrk, hD, hB⟩ := hrel
    clear hA; have hA := hB; clear hB
    by_cases hr : r < T.length
    · skip
      have hrG : r + 1 + (gk - 1) = T.length := by omega
      obtain ⟨G, hG⟩ : ∃ G, gk - 1 = G := ⟨_, rfl⟩
      rw [hG] at hrG
      have hGk := Lib.hid (show G < gk from by omega)
      have hrG' := Lib.hid hrG
      have hD' := Lib.hid hD
      clear hG hrG hrk hD
      (try simp only [uA] at hA); have hF := hA.facts; (try simp only [fZ] at hF)
      go_wp2_with (first | ((with_reducible refine gst ?_); refine wS hA ?_; clear hF hA; intro w1 hA; (try simp only [uA] at hA); have hF := hA.facts; (try simp only [fZ] at hF)) | ((with_reducible refine gbx ?_); refine wB hA ?_; clear hF hA; intro b1 w1 hA hb1; (try simp only [uA] at hA); have hF := hA.facts; (try simp only [fZ] at hF)))
      try go_frame
      clear hF
      go_loopg [18] T.length (DbRel w [rowT (.slice axT T.length capT) T, restB T] [rowT (.slice axT T.length capT) T, restB T] g T.length (tF T) r)
      case atStart => exact ⟨0, D, rfl, by omega, hD'.out, hA.pick pZ⟩
      case round =>
        obtain ⟨i, D, rfl, hik, hD, hB⟩ := hrel
        clear hA hD'; have hA := hB; clear hB
        by_cases hi : i < T.length
        · skip
          have hikG : i + 1 + (gk - 1) = T.length := by omega
          obtain ⟨G2, hG2⟩ : ∃ G2, gk - 1 = G2 := ⟨_, rfl⟩
          rw [hG2] at hikG
          have hGk2 := Lib.hid (show G2 < gk from by omega)
          have hikG' := Lib.hid hikG
          clear hG2 hikG hik
          have hiI : (i : Int) < T.length := by omega
          have hD2 := Lib.hid (hD.enter ht'.out hi)
          have hci := dL_at D hi
          obtain ⟨hl, hmx, hB⟩ := row_whole hA sZ (by omega)
          have hst := Lib.hid (show setL (dL T.length D) i [.int .i64 (max (D i : Int) 1)] = dL T.length (up D i (max (D i) 1)) by
            show (dL T.length D).set i _ = _
            rw [show max (D i : Int) 1 = ((max (D i) 1 : Nat) : Int) by omega, dL_set])
          have hle : D i ≤ 1000 := Nat.le_trans (Nat.le_trans (hD.le i hi) (Tar.dpt_n ht'.out hi)) hn
          have hlh := Lib.hid hl
          clear hA hD hl; have hA := hB; clear hB
          (try simp only [uA] at hA); have hF := hA.facts; (try simp only [fZ] at hF)
          go_wp2_with (first | ((with_reducible show wpList _ _ _ ({ dst := none, op := Op.store _ _ _, type := _, pos := _, after := _, guard := _ } :: _) _ _); refine wpList_store_at (b := g) (j := i) (c := dL T.length D) (vs := [.int .i64 (max (D i : Int) 1)]) rfl rfl rfl (by (try simp only [Act.eval, eV]) <;> exact rfl) (by exact rfl) hA sZ (by kernel_rfl) rfl (by show i + 1 ≤ (dL T.length D).length; rw [hlh.out]; omega) ?_; intro w1 hB; rw [hst.out] at hB; clear hF hA; have hA := hB; clear hB; (try simp only [uA] at hA); have hF := hA.facts; (try simp only [fZ] at hF)) | ((with_reducible refine gst ?_); refine wS hA ?_; clear hF hA; intro w1 hA; (try simp only [uA] at hA); have hF := hA.facts; (try simp only [fZ] at hF)) | ((with_reducible refine gbx ?_); refine wB hA ?_; clear hF hA; intro b1 w1 hA hb1; (try simp only [uA] at hA); have hF := hA.facts; (try simp only [fZ] at hF)))
          try go_frame
          have hB := whole_row hA sZ (dL_len ..) hmx
          clear hF hA hci hlh hst hle
          go_loopg [31] T.length (DcRel w [rowT (.slice axT T.length capT) T, restB T] [rowT (.slice axT T.length capT) T, restB T] g T.length (tF T) r i)
          case atStart => exact ⟨0, _, rfl, by omega, hD2.out, hB.pick pZ⟩
          case round =>
            clear hD2
            obtain ⟨q, D, rfl, hqk, hD, hC⟩ := hrel
            clear hB
            by_cases hq : q < T.length
            · skip
              have hqI : (q : Int) < T.length := by omega
              obtain ⟨xi, hxi, hik2⟩ := hs'.out.cell hi hq
              obtain ⟨xq, hxq, hki2⟩ := hs'.out.cell hq hi
              have hli := hs'.out.2 i xi hxi
              have hlq := hs'.out.2 q xq hxq
              obtain ⟨gT, cT, hgT, _, _, _, _, _⟩ := hC.row_open (e := 60) (size := 1) (ax := axT) (cap := capT) (n := T.length) (xs := flatB T) sZ (by omega)
              subst hgT
              have d2 : wr.cell? ⟨gT, i, none⟩ = some xi.v := reads_cell (hC.row_reads (v := .slice (some ⟨gT, 0, none⟩) T.length capT) (n := T.length) (xs := flatB T) sZ) (flatB_get hxi)
              have d3 : wr.cell? ⟨gT, q, none⟩ = some xq.v := reads_cell (hC.row_reads (v := .slice (some ⟨gT, 0, none⟩) T.length capT) (n := T.length) (xs := flatB T) sZ) (flatB_get hxq)
              have d4 := pool_cell hC sZ hxi hik2
              have d5 := pool_cell hC sZ hxq hki2
              obtain ⟨gi, ci, bi⟩ := xi
              obtain ⟨gq, cq, bq⟩ := xq
              simp only [Br.v] at d2 d3 d4 d5 hli hlq
              have hl1 : (q : Int) < bi.length := by omega
              have hl2 : (i : Int) < bq.length := by omega
              obtain ⟨hl0, hmx, hB⟩ := row_whole hC (e := 3) (g := g) (n := T.length) (xs := dL T.length D) sZ (by omega)
              clear hl0
              have hci := dL_at D hi
              have hcq := dL_at D hq
              have hlen := Lib.hid (dL_len T.length D)
              have hle1 : D i ≤ 1000 := Nat.le_trans (Nat.le_trans (hD.le i hi) (Tar.dpt_n ht'.out hi)) hn
              have hle2 : D q ≤ 1000 := Nat.le_trans (Nat.le_trans (hD.le q hq) (Tar.dpt_n ht'.out hq)) hn
              have hD1 := Lib.hid (fun q2 => hD.cell ht'.out hi hq q2)
              have hD2 := Lib.hid (fun q2 => hD.skip q2)
              have hst := Lib.hid (show setL (dL T.length D) i [.int .i64 (max (D i : Int) ((D q : Int) + 1))] = dL T.length (up D i (max (D i) (D q + 1))) by
                show (dL T.length D).set i _ = _
                rw [show max (D i : Int) ((D q : Int) + 1) = ((max (D i) (D q + 1) : Nat) : Int) by omega, dL_set])
              obtain ⟨v1, hv1⟩ : ∃ b, tF T i q = b := ⟨_, rfl⟩
              obtain ⟨v2, hv2⟩ : ∃ b, tF T q i = b := ⟨_, rfl⟩
              rw [hv1] at d4
              rw [hv2] at d5
              have hdn := Lib.hid (show Dn (tF T) i q ↔ v1 = true ∧ v2 = false from by unfold Dn; rw [hv1, hv2])
              clear hv1 hv2 hxi hxq hik2 hki2 hli hlq hD hC; have hA := hB; clear hB
              (try simp only [uA] at hA); have hF := hA.facts; (try simp only [fZ] at hF)
              cases v1
              · go_wp2_with (first | ((with_reducible refine gst ?_); refine wS hA ?_; clear hF hA; intro w1 hA; (try simp only [uA] at hA); have hF := hA.facts; (try simp only [fZ] at hF)) | ((with_reducible refine gbx ?_); refine wB hA ?_; clear hF hA; intro b1 w1 hA hb1; (try simp only [uA] at hA); have hF := hA.facts; (try simp only [fZ] at hF)))
                go_roundg (gk - 1)
                case measure => omega
                case rel =>
                  have hB := whole_row hA (n := T.length) sZ hlen.out hmx
                  exact ⟨q + 1, D, by simp, by omega, hD2.out (fun h => by have := hdn.out.1 h; simp at this), hB.pick pZ⟩
              · cases v2
                · go_wp2_with (first | ((with_reducible refine gst ?_); refine wS hA ?_; clear hF hA; intro w1 hA; (try simp only [uA] at hA); have hF := hA.facts; (try simp only [fZ] at hF)) | ((with_reducible refine gbx ?_); refine wB hA ?_; clear hF hA; intro b1 w1 hA hb1; (try simp only [uA] at hA); have hF := hA.facts; (try simp only [fZ] at hF)))
                  try go_frame
                  (refine wp_region_head 13 (Cl _ _ _) (by kernel_rfl) (by kernel_rfl) (Cl.drew hA) ?_); (simp only [List.take_succ_cons, List.take_zero, List.drop_succ_cons, List.drop_zero]); (have hn1 := Cl.none hA); (have hn2 := Cl.none2 hA); (repeat (first | go_big_quiet_skip | (go_big_quiet_want; (first | (refine quiet_load_at rfl rfl sR (by kernel_rfl) (by first | assumption | exact rfl) ?_; go_frame; go_big_quiet_on) | (go_big_quiet_op; (first | go_big_quiet_on | ((apply Exists.intro); (refine ⟨fun w1 hw => ?_, ?_⟩); (focus ((have hw := Cl.out hw); (fail))); (go_big_quiet_on))))))))
                  (refine wpQuiet_nil ?_); (intro w1 hB); (clear hF hA hn1 hn2); (have hA := Cl.out hB); (clear hB); (try simp only [uA] at hA); have hF := hA.facts; (try simp only [fZ] at hF)
                  go_wp2_with (first | ((with_reducible show wpList _ _ _ ({ dst := none, op := Op.store _ _ _, type := _, pos := _, after := _, guard := _ } :: _) _ _); refine wpList_store_at (b := g) (j := i) (c := dL T.length D) (vs := [.int .i64 (max (D i : Int) ((D q : Int) + 1))]) rfl rfl rfl (by (try simp only [Act.eval, eV]) <;> exact rfl) (by exact rfl) hA sZ (by kernel_rfl) rfl (by show i + 1 ≤ (dL T.length D).length; rw [hlen.out]; omega) ?_; intro w1 hB; rw [hst.out] at hB; clear hF hA; have hA := hB; clear hB; (try simp only [uA] at hA); have hF := hA.facts; (try simp only [fZ] at hF)) | ((with_reducible refine gst ?_); refine wS hA ?_; clear hF hA; intro w1 hA; (try simp only [uA] at hA); have hF := hA.facts; (try simp only [fZ] at hF)) | ((with_reducible refine gbx ?_); refine wB hA ?_; clear hF hA; intro b1 w1 hA hb1; (try simp only [uA] at hA); have hF := hA.facts; (try simp only [fZ] at hF)))
                  go_roundg (gk - 1)
                  case measure => omega
                  case rel =>
                    have hB := whole_row hA (n := T.length) sZ (dL_len ..) hmx
                    exact ⟨q + 1, _, by simp, by omega, hD1.out (hdn.out.2 (by simp)), hB.pick pZ⟩
                · go_wp2_with (first | ((with_reducible refine gst ?_); refine wS hA ?_; clear hF hA; intro w1 hA; (try simp only [uA] at hA); have hF := hA.facts; (try simp only [fZ] at hF)) | ((with_reducible refine gbx ?_); refine wB hA ?_; clear hF hA; intro b1 w1 hA hb1; (try simp only [uA] at hA); have hF := hA.facts; (try simp only [fZ] at hF)))
                  go_roundg (gk - 1)
                  case measure => omega
                  case rel =>
                    have hB := whole_row hA (n := T.length) sZ hlen.out hmx
                    exact ⟨q + 1, D, by simp, by omega, hD2.out (fun h => by have := hdn.out.1 h; simp at this), hB.pick pZ⟩
            · have hq2 : q = T.length := by omega
              subst hq2
              have hD1 := Lib.hid (hD.row ht'.out hi)
              clear hD
              have hA := hC
              clear hC
              (try simp only [uA] at hA); have hF := hA.facts; (try simp only [fZ] at hF)
              go_wp2_with (first | ((with_reducible refine gst ?_); refine wS hA ?_; clear hF hA; intro w1 hA; (try simp only [uA] at hA); have hF := hA.facts; (try simp only [fZ] at hF)) | ((with_reducible refine gbx ?_); refine wB hA ?_; clear hF hA; intro b1 w1 hA hb1; (try simp only [uA] at hA); have hF := hA.facts; (try simp only [fZ] at hF)))
              go_roundg G2
              case measure => exact hGk2.out
              case rel => exact ⟨i + 1, D, by simp, hikG'.out, hD1.out, hA.pick pZ⟩
        · have hi2 : i = T.length := by omega
          subst hi2
          have hD1 := Lib.hid hD.round
          clear hD
          (try simp only [uA] at hA); have hF := hA.facts; (try simp only [fZ] at hF)
          go_wp2_with (first | ((with_reducible refine gst ?_); refine wS hA ?_; clear hF hA; intro w1 hA; (try simp only [uA] at hA); have hF := hA.facts; (try simp only [fZ] at hF)) | ((with_reducible refine gbx ?_); refine wB hA ?_; clear hF hA; intro b1 w1 hA hb1; (try simp only [uA] at hA); have hF := hA.facts; (try simp only [fZ] at hF)))
          go_roundg G
          case measure => exact hGk.out
          case rel => exact ⟨r + 1, D, by simp, hrG'.out, hD1.out, hA.pick pZ⟩
    · have hr2 : r = T.length := by omega
      subst hr2
      have hDe := Lib.hid (fun j hj => hD.done ht'.out (j := j) hj)
      have hDl := Lib.hid (fun j hj => Nat.le_trans (Nat.le_trans (hD.le j hj) (Tar.dpt_n ht'.out hj)) hn)
      clear hD hrk hr
      (try simp only [uA] at hA); have hF := hA.facts; (try simp only [fZ] at hF)
      go_wp2_with (first | ((with_reducible refine gst ?_); refine wS hA ?_; clear hF hA; intro w1 hA; (try simp only [uA] at hA); have hF := hA.facts; (try simp only [fZ] at hF)) | ((with_reducible refine gbx ?_); refine wB hA ?_; clear hF hA; intro b1 w1 hA hb1; (try simp only [uA] at hA); have hF := hA.facts; (try simp only [fZ] at hF)))
      try go_frame
      clear hF
      go_loopg [69, 6] T.length (DdRel w [rowT (.slice axT T.length capT) T, restB T] [rowT (.slice axT T.length capT) T, restB T] g T.length D)
      case atStart => exact ⟨0, rfl, rfl, by omega, hA.pick pZ⟩
      case round =>
        obtain ⟨i, rfl, rfl, hik, hB⟩ := hrel
        clear hA; have hA := hB; clear hB
        by_cases hi : i < T.length
        · skip
          have hiI : (i : Int) < T.length := by omega
          have hml : mostL ((List.range i).map D) ≤ 1000 := Tar.most_le fun d hd => by
            obtain ⟨j, hj, rfl⟩ := List.mem_map.1 hd
            exact hDl.out j (by have := List.mem_range.1 hj; omega)
          have hnx := Lib.hid (show mostL ((List.range (i + 1)).map D) = max (mostL ((List.range i).map D)) (D i) by rw [List.range_succ, List.map_append]; exact most_snoc _ _)
          have hci := dL_at D hi
          have hdl : D i ≤ 1000 := hDl.out i hi
          obtain ⟨_, hmx, hB⟩ := row_whole hA sZ (by omega)
          rename_i hl0
          clear hA hl0; have hA := hB; clear hB
          (try simp only [uA] at hA); have hF := hA.facts; (try simp only [fZ] at hF)
          go_wp2_with (first | ((with_reducible refine gst ?_); refine wS hA ?_; clear hF hA; intro w1 hA; (try simp only [uA] at hA); have hF := hA.facts; (try simp only [fZ] at hF)) | ((with_reducible refine gbx ?_); refine wB hA ?_; clear hF hA; intro b1 w1 hA hb1; (try simp only [uA] at hA); have hF := hA.facts; (try simp only [fZ] at hF)))
          go_roundg (gk - 1)
          case measure => omega
          case rel =>
            have hB := whole_row hA (n := T.length) sZ (dL_len ..) hmx
            exact ⟨i + 1, by simp, by rw [hnx.out]; congr 1; omega, by omega, hB.pick pZ⟩
        · have hi2 : i = T.length := by omega
          subst hi2
          (try simp only [uA] at hA); have hF := hA.facts; (try simp only [fZ] at hF)
          go_wp2_with (first | ((with_reducible refine gst ?_); refine wS hA ?_; clear hF hA; intro w1 hA; (try simp only [uA] at hA); have hF := hA.facts; (try simp only [fZ] at hF)) | ((with_reducible refine gbx ?_); refine wB hA ?_; clear hF hA; intro b1 w1 hA hb1; (try simp only [uA] at hA); have hF := hA.facts; (try simp only [fZ] at hF)))
          go_ret
          refine ⟨?_, hA.pick pZ⟩
          rw [show (List.range T.length).map (dpt T.length (tF T)) = (List.range T.length).map D from List.map_congr_left fun j hj => (hDe.out j (List.mem_range.1 hj)).symm]
          rfl
end Go.Proofs.Ytgicohkmfbbbdaa.Gr
end

section
namespace Go.Proofs.Ytgicohkmfbbbdaa.Gr
open _root_.Go.Proofs.Ytgicohkmfbbbdaa.Mark (ltID sortID)
open _root_.Go.Proofs.Ytgicohkmfbbbdaa.Ref (IA flatD flatD_len cellsD cellsD_len sortedD sortedD_sorted sortedD_names)
open Attr (A8)
open Tar (grpP)
set_option linter.unusedSimpArgs false
set_option linter.unusedVariables false

/-- those of some that are there, with what they have -/
def chF (xs : List IA) (l : List I2) : List IA := l.filterMap fun x => (getA xs x).map fun a => (x, a)
theorem chF_next {xs : List IA} {l : List I2} {i : Nat} {x : I2} (h : l[i]? = some x) : chF xs (l.take (i + 1)) = chF xs (l.take i) ++ (match getA xs x with | some a => [(x, a)] | none => []) := by
  unfold chF
  rw [List.take_add_one, h, List.filterMap_append]
  congr 1
  cases hq : getA xs x <;> simp [hq]
theorem chF_mem {xs : List IA} {l : List I2} {y : IA} : y ∈ chF xs l ↔ y.1 ∈ l ∧ getA xs y.1 = some y.2 := by
  unfold chF
  rw [List.mem_filterMap]
  constructor
  · rintro ⟨x, hx, e⟩
    obtain ⟨a, ha, rfl⟩ := Option.map_eq_some_iff.1 e
    exact ⟨hx, ha⟩
  · rintro ⟨h1, h2⟩
    exact ⟨y.1, h1, by rw [h2]; rfl⟩
theorem chF_len (xs : List IA) (l : List I2) : (chF xs l).length ≤ l.length := List.length_filterMap_le _ _
theorem ch_names {es xs : List IA} (hg : ∀ x, getA xs x = getA es x) (l : List I2) : (sortedD (chF xs l)).map Prod.fst = lstG es l := by
  refine strict_eq (sortedD_sorted (chF xs l)) (lstG_sorted es l) fun x => ?_
  rw [sortedD_names, lstG_mem]
  constructor
  · intro h
    obtain ⟨y, hy, rfl⟩ := List.mem_map.1 h
    obtain ⟨h1, h2⟩ := chF_mem.1 hy
    exact ⟨h1, by rw [← hg, h2]; rfl⟩
  · rintro ⟨h1, h2⟩
    cases hq : getA es x with
    | none => rw [hq] at h2; cases h2
    | some a => exact List.mem_map.2 ⟨(x, a), chF_mem.2 ⟨h1, by rw [hg, hq]⟩, rfl⟩
theorem nxL_same {es xs : List IA} {l : List I2} (h : ∀ x ∈ l, getA xs x = getA es x) (f : F7) : nxL xs f l = nxL es f l := by
  funext i
  unfold nxL
  cases hx : l[i]? with
  | none => rfl
  | some x =>
    have : leadsG xs f x = leadsG es f x := by unfold leadsG; rw [h x (List.mem_of_getElem? hx)]
    simp only [this]
theorem elem_cut3 (l : List IA) {i : Nat} {e : IA} (h : l[i]? = some e) : ((flatD l).drop (i * 10)).take 10 = cellsD e :=
  cut_cells cellsD_len (c := flatD l) (l := l) (by rw [List.take_of_length_le (by rw [flatD_len]; omega)]; rfl) h
/-- where the last one is -/
def lastZ (Lk l : List I2) : Int := match l.getLast? with
  | none => -1
  | some x => (Lk.idxOf x : Nat)
theorem lastZ_snoc (Lk l : List I2) (x : I2) : lastZ Lk (l ++ [x]) = (Lk.idxOf x : Nat) := by simp [lastZ]
theorem last_in {Lk pre gs : List I2} {i : Nat} (h0 : 0 < i) (hi : i ≤ gs.length) : ∃ y ∈ gs, lastZ Lk (pre ++ gs.take i) = (Lk.idxOf y : Nat) := by
  obtain ⟨j, rfl⟩ : ∃ j, i = j + 1 := ⟨i - 1, by omega⟩
  obtain ⟨y, hy⟩ : ∃ y, gs[j]? = some y := ⟨_, List.getElem?_eq_getElem (by omega)⟩
  refine ⟨y, List.mem_of_getElem? hy, ?_⟩
  rw [List.take_add_one, hy, ← List.append_assoc]
  exact lastZ_snoc _ _ _
theorem last_pre (Lk pre : List I2) : lastZ Lk pre = -1 ∨ ∃ y ∈ pre, lastZ Lk pre = (Lk.idxOf y : Nat) := by
  rcases List.eq_nil_or_concat pre with rfl | ⟨l, y, rfl⟩
  · exact .inl rfl
  · exact .inr ⟨y, by simp, by rw [List.concat_eq_append]; exact lastZ_snoc _ _ _⟩
section
variable {es : List IA} {f : F7} {Lk : List I2} {kn : Nat → Nat} {found : Nat} {t : Nat → Nat → Bool} {KG : List (List I2)} (hs : Lk.Pairwise ltID) (hk : Tar.Kn (nxL es f Lk) Lk.length kn found) (ht : ∀ i k, i < Lk.length → k < Lk.length → (t i k = true ↔ Tar.R (nxL es f Lk) i k))
  (hK : KG = (grpP (nxL es f Lk) Lk.length kn (sqE (enL es Lk)) Lk.length []).map (List.map (idsG es Lk)))
include hs hk ht hK
theorem pair_in {g : List I2} (hg : g ∈ KG) {x y : I2} (hx : x ∈ g) (hy : y ∈ g) : t (Lk.idxOf x) (Lk.idxOf y) = true := by
  rw [hK] at hg
  obtain ⟨g0, h0, rfl⟩ := List.mem_map.1 hg
  obtain ⟨_, k, _, h3⟩ := (Tar.grpP_is (sq := sqE (enL es Lk)) hk Lk.length []).one g0 h0
  obtain ⟨a, ha, rfl⟩ := List.mem_map.1 hx
  obtain ⟨b, hb, rfl⟩ := List.mem_map.1 hy
  obtain ⟨a1, a2⟩ := (h3 a).1 ha
  obtain ⟨b1, b2⟩ := (h3 b).1 hb
  rw [ids_idx hs a1, ids_idx hs b1]
  exact (ht a b a1 b1).2 (hk.same a b a1 (a2.trans b2.symm))
theorem pair_out {j : Nat} {g : List I2} (hg : KG[j]? = some g) {x y : I2} (hx : x ∈ g) (hy : y ∈ (KG.take j).flatten) : ¬ (t (Lk.idxOf x) (Lk.idxOf y) = true ∧ t (Lk.idxOf y) (Lk.idxOf x) = true) := by
  rw [hK, List.getElem?_map] at hg
  rw [hK, ← List.map_take] at hy
  have hG := Tar.grpP_is (sq := sqE (enL es Lk)) hk Lk.length []
  generalize grpP (nxL es f Lk) Lk.length kn (sqE (enL es Lk)) Lk.length [] = P at *
  obtain ⟨g0, h0, rfl⟩ := Option.map_eq_some_iff.1 hg
  obtain ⟨hl, e⟩ := List.getElem?_eq_some_iff.1 h0
  obtain ⟨h, hh, hy2⟩ := List.mem_flatten.1 hy
  obtain ⟨h, hh2, rfl⟩ := List.mem_map.1 hh
  obtain ⟨a, ha, rfl⟩ := List.mem_map.1 hx
  obtain ⟨b, hb, rfl⟩ := List.mem_map.1 hy2
  have a1 : a < Lk.length := by
    obtain ⟨_, k, _, h3⟩ := hG.one g0 (List.mem_of_getElem? h0)
    exact ((h3 a).1 ha).1
  have b1 : b < Lk.length := by
    obtain ⟨_, k, _, h3⟩ := hG.one h (List.take_subset _ _ hh2)
    exact ((h3 b).1 hb).1
  have hne : kn b ≠ kn a := by
    have hp := hG.apart
    rw [show P = P.take j ++ g0 :: P.drop (j + 1) by rw [← e, ← List.drop_eq_getElem_cons hl, List.take_append_drop]] at hp
    exact (List.pairwise_append.1 hp).2.2 h hh2 g0 (by simp) b hb a ha
  rw [ids_idx hs a1, ids_idx hs b1, ht a b a1 b1, ht b a b1 a1]
  exact fun q => hne ((hk.both a1 b1).2 q).symm
end
/-- what the law needs to know of the knots -/
structure KnF (Lk : List I2) (n : Nat) (t : Nat → Nat → Bool) (KG : List (List I2)) : Prop where
  pin : ∀ g ∈ KG, ∀ x ∈ g, ∀ y ∈ g, t (Lk.idxOf x) (Lk.idxOf y) = true
  pout : ∀ j g, KG[j]? = some g → ∀ x ∈ g, ∀ y ∈ (KG.take j).flatten, ¬ (t (Lk.idxOf x) (Lk.idxOf y) = true ∧ t (Lk.idxOf y) (Lk.idxOf x) = true)
  mem : ∀ x ∈ KG.flatten, x ∈ Lk
  ne : ∀ g ∈ KG, g ≠ []
  len : KG.flatten.length ≤ n
theorem deep_same {es : List IA} {f : F7} {Lk : List I2} {t : Nat → Nat → Bool} (ht : ∀ i k, i < Lk.length → k < Lk.length → (t i k = true ↔ Tar.R (nxL es f Lk) i k)) : Tar.mostL ((List.range Lk.length).map (Tar.dpt Lk.length t)) = deepG es f Lk := by
  unfold deepG
  congr 1
  refine List.map_congr_left fun i hi => Tar.dpt_congr (fun i k hi hk => ?_) (List.mem_range.1 hi)
  rw [Bool.eq_iff_iff, ht i k hi hk, Tar.tR_iff]
end Go.Proofs.Ytgicohkmfbbbdaa.Gr
end
