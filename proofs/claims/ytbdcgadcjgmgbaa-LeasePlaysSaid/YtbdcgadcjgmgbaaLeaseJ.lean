/- LeasePlays: the law's step, kind 6; any (printed by gen/leasej.py). -/
import Derived.Test.YtbdcgadcjgmgbaaLeaseI
namespace Go.Proofs.Ytbdcgadcjgmgbaa.Lease
open Go.RowKit
set_option linter.unusedSimpArgs false
set_option linter.unusedVariables false

theorem Inv.opened {ss ss' : List Ses} {L : List SR} {PL : List (Value × List AR)} (h : Inv ss L PL) {n : Int} {f : ByteArray} {ttl time : Int} (hc : openRE (findR L n f) (cntR L f) = 0) (ht : Turned ss n f (fun s => s.opened ttl time) ss') : Inv ss' (putR L ((findR L n f).opened ttl time)) PL := by
  have hdd : (findR L n f).dead = false := by
    cases q : (findR L n f).dead
    · rfl
    · simp [openRE, q] at hc
  have hr := h.rel.turned (ga := fun a => a.opened ttl time) ht (fun _ => rfl) (fun s1 a1 r1 _ ea => r1.opened ttl time (by rw [ea]; exact hdd))
  exact h.put hr (fun q hq => hq) (h.found n f)
theorem wpOp_val0 {P : Program} {ops : Array Oper} {Q : Exit → Act → World → Prop} {i : Nat} {o : Oper} {K : Act → World → Prop} {a : Act} {w : World} (ho : ops[i]? = some o) (hw : Region.wanted o (yielded ops a.tmps) = true) {v : Value} (hrun : (execOp a.eval o).run P w = .ok (.value v) w) (hK : K (a.put o.dst v) w) : wpOp P ops Q i K a w := wpOp_val ho hw hrun hK
/-- so many are opened -/
def Rel6 (L0 : List Part) (w : World) (L : List SR) (PL : List (Value × List AR)) (p m bB bO bZ bS bA : Nat) (cO cS cA : List Value) (N : Nat) (k : Nat) (u : Value) (wr : World) : Prop :=
  ∃ (i : Nat) (ss' : List Ses) (v' : Value) (L' : List SR), u = .int .i64 i ∧ i + k = N ∧ At L0 w [BookP p m ss', rowR v' L', poolP PL, Part.cells bB [v'] 31, Part.cells bO cO 36, Part.cells bZ [.slice none 0 0] 31, Part.cells bS cS 44, Part.cells bA cA 48] wr ∧ Inv ss' L' PL ∧ L'.length ≤ L.length + i
set_option maxRecDepth 100000 in
set_option maxHeartbeats 8000000 in
theorem step_6 {w : World} {p m : Nat} {ss : List Ses} {v : Value} {L : List SR} {PL : List (Value × List AR)} (h : Sep [BookP p m ss, rowR v L, poolP PL] w) (hI : Inv ss L PL) (o : OpR) (ho : o.Ok) (hmax : L.length ≤ 100000) :
    Calls Try.prog 7 #[.pointer (some ⟨p, 0, none⟩), .agg #[v], opV 6 o] w (StepOut w p m ss v L PL) := by
  have hA := At.start h
  have hF := hA.facts
  clear h
  obtain ⟨vx, vn, vc, hv, hvn⟩ := hA.row_hid (v := v) (n := L.length) (xs := flatR L) (by with_reducible repeat (first | exact Sel.here | apply Sel.there))
  subst hv
  have hss : ss.length ≤ 100000 := by rw [hI.rel.len]; exact hmax
  obtain ⟨s, hs⟩ : ∃ s, findR L o.num o.foot = s := ⟨_, rfl⟩
  have hs' := Lib.hid hs
  have hrs : RelS (look ss o.num o.foot) s := by rw [← hs]; exact hI.rel.look _ _
  have hpool : (s.tv, s.told) ∈ PL := by rw [← hs]; exact hI.found _ _
  have hsk : s.num = o.num ∧ s.foot = o.foot := by rw [← hs]; exact findR_key
  have hrs' := Lib.hid hrs
  have hpool' := Lib.hid hpool
  have hsk' := Lib.hid hsk
  have hI' := Lib.hid hI
  have ho' := Lib.hid ho
  clear hs hrs hpool hsk hI ho
  obtain ⟨N, hN⟩ : ∃ N : Nat, max (min o.many 40) 0 = (N : Int) := ⟨(max (min o.many 40) 0).toNat, by omega⟩
  have hN300 : N ≤ 40 := by omega
  unfold opV
  go_enter Try.func7, Try.ntmps7
  go_wp2_with (first | (refine wpList_box_at (E := 31) rfl rfl (by (try simp only [Act.eval, Array.getD_eq_getD_getElem?, List.getElem?_toArray, List.getElem?_cons_succ, List.getElem?_cons_zero, Option.getD_some]) <;> exact rfl) (by exact rfl) hA ?_; intro bB w1 hB hbB; clear hF hA; have hA := hB; clear hB; (try simp only [setL, List.set_cons_zero, List.set_cons_succ, List.cons_append, List.nil_append] at hA); (have hF := hA.facts); (try simp only [facts_cons, facts_nil, facts_cells, facts_old, facts_fact, facts_obj, facts_map, facts_iter, and_true, true_and] at hF)) | (refine wpList_box_at (E := 36) rfl rfl (by (try simp only [Act.eval, Array.getD_eq_getD_getElem?, List.getElem?_toArray, List.getElem?_cons_succ, List.getElem?_cons_zero, Option.getD_some]) <;> exact rfl) (by exact rfl) hA ?_; intro bO w1 hB hbO; clear hF hA; have hA := hB; clear hB; (try simp only [setL, List.set_cons_zero, List.set_cons_succ, List.cons_append, List.nil_append] at hA); (have hF := hA.facts); (try simp only [facts_cons, facts_nil, facts_cells, facts_old, facts_fact, facts_obj, facts_map, facts_iter, and_true, true_and] at hF)) | (refine wpList_alloc_at (E := 31) (z := .agg #[.slice none 0 0]) (vs := [.slice none 0 0]) rfl rfl (by kernel_rfl) rfl hA ?_; intro bZ w1 hB hbZ; clear hF hA; have hA := hB; clear hB; (try simp only [setL, List.set_cons_zero, List.set_cons_succ, List.cons_append, List.nil_append] at hA); (have hF := hA.facts); (try simp only [facts_cons, facts_nil, facts_cells, facts_old, facts_fact, facts_obj, facts_map, facts_iter, and_true, true_and] at hF)) | (refine wpList_store_at rfl rfl rfl (by (try simp only [Act.eval, Array.getD_eq_getD_getElem?, List.getElem?_toArray, List.getElem?_cons_succ, List.getElem?_cons_zero, Option.getD_some]) <;> exact rfl) (by exact rfl) hA (by with_reducible repeat (first | exact Sel.here | apply Sel.there)) (by kernel_rfl) rfl (by first | decide | (simp; done) | omega) ?_; intro w1 hB; clear hF hA; have hA := hB; clear hB; (try simp only [setL, List.set_cons_zero, List.set_cons_succ, List.cons_append, List.nil_append] at hA); (have hF := hA.facts); (try simp only [facts_cons, facts_nil, facts_cells, facts_old, facts_fact, facts_obj, facts_map, facts_iter, and_true, true_and] at hF)) | (refine wpList_box_at rfl rfl (by (try simp only [Act.eval, Array.getD_eq_getD_getElem?, List.getElem?_toArray, List.getElem?_cons_succ, List.getElem?_cons_zero, Option.getD_some]) <;> exact rfl) (by exact rfl) hA ?_; intro b1 w1 hB hb1; clear hF hA; have hA := hB; clear hB; (try simp only [setL, List.set_cons_zero, List.set_cons_succ, List.cons_append, List.nil_append] at hA); (have hF := hA.facts); (try simp only [facts_cons, facts_nil, facts_cells, facts_old, facts_fact, facts_obj, facts_map, facts_iter, and_true, true_and] at hF)))
  refine (findR_any (hA.sep1 (by with_reducible repeat (first | exact Sel.here | apply Sel.there))) o.num o.foot (by omega)).mono ?_
  rw [hs'.out]
  rintro e w1 ⟨rfl, hT⟩; have hB := hA.call1 (by with_reducible repeat (first | exact Sel.here | apply Sel.there)) hT; clear hF hA hT; have hA := hB; clear hB; (try simp only [setL, List.set_cons_zero, List.set_cons_succ, List.cons_append, List.nil_append] at hA); (have hF := hA.facts); (try simp only [facts_cons, facts_nil, facts_cells, facts_old, facts_fact, facts_obj, facts_map, facts_iter, and_true, true_and] at hF)
  go_wp2_with (first | (refine wpList_alloc_at (E := 44) (z := .agg #[.int .u64 0, .string .empty, .bool false, .bool false, .int .i64 0, .int .i64 0, .slice none 0 0]) (vs := [.int .u64 0, .string .empty, .bool false, .bool false, .int .i64 0, .int .i64 0, .slice none 0 0]) rfl rfl (by kernel_rfl) rfl hA ?_; intro bS w1 hB hbS; clear hF hA; have hA := hB; clear hB; (try simp only [setL, List.set_cons_zero, List.set_cons_succ, List.cons_append, List.nil_append] at hA); (have hF := hA.facts); (try simp only [facts_cons, facts_nil, facts_cells, facts_old, facts_fact, facts_obj, facts_map, facts_iter, and_true, true_and] at hF)) | (refine wpList_alloc_at (E := 48) (z := .agg #[.int .u64 0, .int .i64 0, .int .u64 0, .bool false]) (vs := [.int .u64 0, .int .i64 0, .int .u64 0, .bool false]) rfl rfl (by kernel_rfl) rfl hA ?_; intro bA w1 hB hbA; clear hF hA; have hA := hB; clear hB; (try simp only [setL, List.set_cons_zero, List.set_cons_succ, List.cons_append, List.nil_append] at hA); (have hF := hA.facts); (try simp only [facts_cons, facts_nil, facts_cells, facts_old, facts_fact, facts_obj, facts_map, facts_iter, and_true, true_and] at hF)) | (refine wpList_store_at (b := bS) (j := 0) (vs := SR.cells s) rfl rfl rfl (by (try simp only [Act.eval, Array.getD_eq_getD_getElem?, List.getElem?_toArray, List.getElem?_cons_succ, List.getElem?_cons_zero, Option.getD_some]) <;> exact rfl) (by exact rfl) hA (by with_reducible repeat (first | exact Sel.here | apply Sel.there)) (by kernel_rfl) (SR.ones _) (by show 0 + 7 ≤ 7; omega) ?_; intro w1 hB; clear hF hA; have hA := hB; clear hB; simp only [SR.cells] at hA; (try simp only [setL, List.set_cons_zero, List.set_cons_succ, List.cons_append, List.nil_append] at hA); (have hF := hA.facts); (try simp only [facts_cons, facts_nil, facts_cells, facts_old, facts_fact, facts_obj, facts_map, facts_iter, and_true, true_and] at hF)) | (refine wpList_store_at rfl rfl rfl (by (try simp only [Act.eval, Array.getD_eq_getD_getElem?, List.getElem?_toArray, List.getElem?_cons_succ, List.getElem?_cons_zero, Option.getD_some]) <;> exact rfl) (by exact rfl) hA (by with_reducible repeat (first | exact Sel.here | apply Sel.there)) (by kernel_rfl) rfl (by first | decide | (simp; done) | omega) ?_; intro w1 hB; clear hF hA; have hA := hB; clear hB; (try simp only [setL, List.set_cons_zero, List.set_cons_succ, List.cons_append, List.nil_append] at hA); (have hF := hA.facts); (try simp only [facts_cons, facts_nil, facts_cells, facts_old, facts_fact, facts_obj, facts_map, facts_iter, and_true, true_and] at hF)) | (refine wpList_box_at rfl rfl (by (try simp only [Act.eval, Array.getD_eq_getD_getElem?, List.getElem?_toArray, List.getElem?_cons_succ, List.getElem?_cons_zero, Option.getD_some]) <;> exact rfl) (by exact rfl) hA ?_; intro b1 w1 hB hb1; clear hF hA; have hA := hB; clear hB; (try simp only [setL, List.set_cons_zero, List.set_cons_succ, List.cons_append, List.nil_append] at hA); (have hF := hA.facts); (try simp only [facts_cons, facts_nil, facts_cells, facts_old, facts_fact, facts_obj, facts_map, facts_iter, and_true, true_and] at hF)))
  try go_frame
  go_loopg [122] N (Rel6 [BookP p m ss, rowR (.slice vx vn vc) L, poolP PL] w L PL p m bB bO bZ bS bA _ _ _ N)
  case atStart => exact ⟨0, ss, _, L, by simp, by simp, hA.pick (by repeat (first | exact Picks.nil | refine Picks.cons (by repeat (first | exact Sel.here | apply Sel.there)) ?_)), hI'.out, by omega⟩
  case round =>
    obtain ⟨i, ss1, v1, L1, rfl, hik, hB, hI1, hL1⟩ := hrel
    have hI1' := Lib.hid hI1
    have hss1 : ss1.length ≤ 200000 := by rw [hI1.rel.len]; omega
    clear hF hA hI1
    have hA := hB
    clear hB
    have hF := hA.facts
    (try simp only [setL, List.set_cons_zero, List.set_cons_succ, List.cons_append, List.nil_append] at hA); (have hF := hA.facts); (try simp only [facts_cons, facts_nil, facts_cells, facts_old, facts_fact, facts_obj, facts_map, facts_iter, and_true, true_and] at hF)
    obtain ⟨vx1, vn1, vc1, hv1, hvn1⟩ := hA.row_hid (v := v1) (n := L1.length) (xs := flatR L1) (by with_reducible repeat (first | exact Sel.here | apply Sel.there))
    subst hv1
    by_cases hi : i < N
    · obtain ⟨kn, hkn⟩ : ∃ kn : Nat, 100 + i = kn := ⟨_, rfl⟩
      have ek : (100 : Int) + (i : Int) = (kn : Int) := by omega
      have hkb : (kn : Int) < 1000 := by omega
      have hwr : IntKind.u64.wrap (i : Int) = (i : Int) := by rw [IntKind.wrap_u64]; omega
      have hwk : IntKind.u64.wrap (kn : Int) = (kn : Int) := by rw [IntKind.wrap_u64]; omega
      clear hkn
      obtain ⟨s1, hs1⟩ : ∃ s1, findR L1 (kn : Int) o.foot = s1 := ⟨_, rfl⟩
      have hs1' := Lib.hid hs1
      have hsk1 : s1.foot = o.foot := by rw [← hs1]; exact findR_key.2
      clear hs1
      have hsk1' := Lib.hid hsk1
      clear hsk1
      go_wp2_with (first | (refine wpList_alloc_at (E := 25) (z := .agg #[.int .u64 0, .string .empty]) (vs := [.int .u64 0, .string .empty]) rfl rfl (by kernel_rfl) rfl hA ?_; intro bK w1 hB hbK; clear hF hA; have hA := hB; clear hB; (try simp only [setL, List.set_cons_zero, List.set_cons_succ, List.cons_append, List.nil_append] at hA); (have hF := hA.facts); (try simp only [facts_cons, facts_nil, facts_cells, facts_old, facts_fact, facts_obj, facts_map, facts_iter, and_true, true_and] at hF)) | (refine wpList_store_at rfl rfl rfl (by (try simp only [Act.eval, Array.getD_eq_getD_getElem?, List.getElem?_toArray, List.getElem?_cons_succ, List.getElem?_cons_zero, Option.getD_some]) <;> exact rfl) (by exact rfl) hA (by with_reducible repeat (first | exact Sel.here | apply Sel.there)) (by kernel_rfl) rfl (by first | decide | (simp; done) | omega) ?_; intro w1 hB; clear hF hA; have hA := hB; clear hB; (try simp only [setL, List.set_cons_zero, List.set_cons_succ, List.cons_append, List.nil_append] at hA); (have hF := hA.facts); (try simp only [facts_cons, facts_nil, facts_cells, facts_old, facts_fact, facts_obj, facts_map, facts_iter, and_true, true_and] at hF)) | (refine wpList_box_at rfl rfl (by (try simp only [Act.eval, Array.getD_eq_getD_getElem?, List.getElem?_toArray, List.getElem?_cons_succ, List.getElem?_cons_zero, Option.getD_some]) <;> exact rfl) (by exact rfl) hA ?_; intro b1 w1 hB hb1; clear hF hA; have hA := hB; clear hB; (try simp only [setL, List.set_cons_zero, List.set_cons_succ, List.cons_append, List.nil_append] at hA); (have hF := hA.facts); (try simp only [facts_cons, facts_nil, facts_cells, facts_old, facts_fact, facts_obj, facts_map, facts_iter, and_true, true_and] at hF)))
      try go_frame
      (refine wp_region_headA 7 (Cl _ _ _) (by kernel_rfl) (by kernel_rfl) (Cl.drew hA) ?_); (simp only [List.take_succ_cons, List.take_zero, List.drop_succ_cons, List.drop_zero]); (have hn1 := Cl.none hA); (have hn2 := Cl.none2 hA); (repeat (first | go_big_quiet_skip | (go_big_quiet_want; (first | (refine quiet_loads_at (ty := 31) (n := 1) rfl rfl (by with_reducible repeat (first | exact Sel.here | apply Sel.there)) (by kernel_rfl) (by kernel_rfl) (by first | assumption | ((try simp only [List.drop_succ_cons, List.drop_zero, List.take_succ_cons, List.take_zero]) <;> exact rfl)) (by exact rfl) ?_; go_frame; go_big_quiet_on) | (refine quiet_load_at rfl rfl (by with_reducible repeat (first | exact Sel.here | apply Sel.there)) (by kernel_rfl) (by first | assumption | exact rfl) ?_; go_frame; go_big_quiet_on) | (go_big_quiet_op; (first | go_big_quiet_on | ((apply Exists.intro); (refine ⟨fun w1 hw => ?_, ?_⟩); (focus ((have hw := Cl.out hw); (exact through1 hw (A := rowR (.slice vx1 vn1 vc1) L1) (by with_reducible repeat (first | exact Sel.here | apply Sel.there)) (fun q => findR_any q (kn : Int) o.foot (by omega))))); (go_big_quiet_on))))))))
      (refine wpQuiet_nil ?_); (intro w1 hB); (clear hF hA hn1 hn2); (have hA := Cl.out hB); (clear hB); (try simp only [setL, List.set_cons_zero, List.set_cons_succ, List.cons_append, List.nil_append] at hA); (have hF := hA.facts); (try simp only [facts_cons, facts_nil, facts_cells, facts_old, facts_fact, facts_obj, facts_map, facts_iter, and_true, true_and] at hF)
      rw [hs1'.out]
      have hE := Lib.hid (hI1'.out.rel.openE (n := (kn : Int)) (f := o.foot))
      rw [hs1'.out] at hE
      have hd := openR_any (hA.sep1 (by with_reducible repeat (first | exact Sel.here | apply Sel.there))) s1 1 1 (by omega)
      unfold OpenPostR at hd
      simp only [hsk1'.out] at hd
      generalize hcd : openRE s1 (cntR L1 o.foot) = c at *
      have hcd' := Lib.hid hcd
      clear hcd
      refine wpAny_step (f := 5) [7] (by kernel_rfl) (by simp) ?_
      intro j hj
      obtain rfl : j = 7 := by simpa using hj
      refine wpOp_call rfl rfl (by kernel_rfl) hd ?_
      clear hd hj
      rintro e w2 (⟨hc, rfl, hT⟩ | ⟨hc, v', rfl, hT⟩)
      · refine ⟨_, rfl, ?_⟩
        go_frame
        have hc' := Lib.hid hc
        clear hc
        have hB := hA.call1 (by with_reducible repeat (first | exact Sel.here | apply Sel.there)) hT
        clear hF hA hT
        have hA := hB
        clear hB
        simp only [List.cons_append, List.nil_append] at hA
        have hF := hA.facts
        (try simp only [setL, List.set_cons_zero, List.set_cons_succ, List.cons_append, List.nil_append] at hA); (have hF := hA.facts); (try simp only [facts_cons, facts_nil, facts_cells, facts_old, facts_fact, facts_obj, facts_map, facts_iter, and_true, true_and] at hF)
        refine wpAny_step (f := 4) [8] (by kernel_rfl) (by simp) ?_
        intro j hj
        obtain rfl : j = 8 := by simpa using hj
        refine wpOp_val0 (v := .tuple #[.agg #[.slice vx1 vn1 vc1], .int .i64 c]) rfl rfl (by kernel_rfl) ?_
        go_frame
        refine wpAny_step (f := 3) [9, 10] (by kernel_rfl) (by simp) ?_
        intro j hj
        rcases (show j = 9 ∨ j = 10 by simpa using hj) with rfl | rfl
        · refine wpOp_val0 (v := .agg #[.slice vx1 vn1 vc1]) rfl rfl (by kernel_rfl) ?_
          go_frame
          refine wpAny_step (f := 2) [10, 11] (by kernel_rfl) (by simp) ?_
          intro j hj
          rcases (show j = 10 ∨ j = 11 by simpa using hj) with rfl | rfl
          · refine wpOp_val0 (v := .int .i64 c) rfl rfl (by kernel_rfl) ?_
            go_frame
            refine wpAny_step (f := 1) [11] (by kernel_rfl) (by simp) ?_
            intro j hj
            obtain rfl : j = 11 := by simpa using hj
            refine wpOp_store_at (b := bB) (j := 0) (vs := [.slice vx1 vn1 vc1]) rfl rfl rfl (by (try simp only [Act.eval, Array.getD_eq_getD_getElem?, List.getElem?_toArray, List.getElem?_cons_succ, List.getElem?_cons_zero, Option.getD_some]) <;> exact rfl) (by (try simp only [Act.eval, Array.getD_eq_getD_getElem?, List.getElem?_toArray, List.getElem?_cons_succ, List.getElem?_cons_zero, Option.getD_some]) <;> exact rfl) (by exact rfl) hA (by with_reducible repeat (first | exact Sel.here | apply Sel.there)) (by kernel_rfl) rfl (by show 0 + 1 ≤ 1; omega) ?_
            intro w1 hB; clear hF hA; have hA := hB; clear hB; (try simp only [setL, List.set_cons_zero, List.set_cons_succ, List.cons_append, List.nil_append] at hA); (have hF := hA.facts); (try simp only [facts_cons, facts_nil, facts_cells, facts_old, facts_fact, facts_obj, facts_map, facts_iter, and_true, true_and] at hF)
            go_frame
            refine wpAny_step (f := 0) [12] (by kernel_rfl) (by simp) ?_
            intro j hj
            obtain rfl : j = 12 := by simpa using hj
            refine wpOp_val0 (v := .int .i64 c) rfl rfl (by kernel_rfl) ?_
            go_frame
            refine wpAny_end (by kernel_rfl) ?_
            clear hj
            go_wp2_with (first | (refine wpList_store_at rfl rfl rfl (by (try simp only [Act.eval, Array.getD_eq_getD_getElem?, List.getElem?_toArray, List.getElem?_cons_succ, List.getElem?_cons_zero, Option.getD_some]) <;> exact rfl) (by exact rfl) hA (by with_reducible repeat (first | exact Sel.here | apply Sel.there)) (by kernel_rfl) rfl (by first | decide | (simp; done) | omega) ?_; intro w1 hB; clear hF hA; have hA := hB; clear hB; (try simp only [setL, List.set_cons_zero, List.set_cons_succ, List.cons_append, List.nil_append] at hA); (have hF := hA.facts); (try simp only [facts_cons, facts_nil, facts_cells, facts_old, facts_fact, facts_obj, facts_map, facts_iter, and_true, true_and] at hF)) | (refine wpList_box_at rfl rfl (by (try simp only [Act.eval, Array.getD_eq_getD_getElem?, List.getElem?_toArray, List.getElem?_cons_succ, List.getElem?_cons_zero, Option.getD_some]) <;> exact rfl) (by exact rfl) hA ?_; intro b1 w1 hB hb1; clear hF hA; have hA := hB; clear hB; (try simp only [setL, List.set_cons_zero, List.set_cons_succ, List.cons_append, List.nil_append] at hA); (have hF := hA.facts); (try simp only [facts_cons, facts_nil, facts_cells, facts_old, facts_fact, facts_obj, facts_map, facts_iter, and_true, true_and] at hF)))
            have hb := book_open (hA.sep1 (by with_reducible repeat (first | exact Sel.here | apply Sel.there))) (n := (kn : Int)) (by omega) (by unfold big64; omega) ho'.out.f (by omega) 1 1
            rw [hE.out] at hb
            refine hb.mono ?_
            clear hb
            rintro e w3 ⟨ss', rfl, hT, hcase⟩
            have hss' : ss' = ss1 := by
              rcases hcase with ⟨_, q⟩ | ⟨q, _⟩
              · exact q
              · exact absurd q hc'.out
            subst hss'
            have hB := hA.call1 (by with_reducible repeat (first | exact Sel.here | apply Sel.there)) hT
            clear hF hA hT hcase
            have hA := hB
            clear hB
            simp only [List.cons_append, List.nil_append] at hA
            have hF := hA.facts
            (try simp only [setL, List.set_cons_zero, List.set_cons_succ, List.cons_append, List.nil_append] at hA); (have hF := hA.facts); (try simp only [facts_cons, facts_nil, facts_cells, facts_old, facts_fact, facts_obj, facts_map, facts_iter, and_true, true_and] at hF)
            go_wp2_with (first | (refine wpList_store_at rfl rfl rfl (by (try simp only [Act.eval, Array.getD_eq_getD_getElem?, List.getElem?_toArray, List.getElem?_cons_succ, List.getElem?_cons_zero, Option.getD_some]) <;> exact rfl) (by exact rfl) hA (by with_reducible repeat (first | exact Sel.here | apply Sel.there)) (by kernel_rfl) rfl (by first | decide | (simp; done) | omega) ?_; intro w1 hB; clear hF hA; have hA := hB; clear hB; (try simp only [setL, List.set_cons_zero, List.set_cons_succ, List.cons_append, List.nil_append] at hA); (have hF := hA.facts); (try simp only [facts_cons, facts_nil, facts_cells, facts_old, facts_fact, facts_obj, facts_map, facts_iter, and_true, true_and] at hF)) | (refine wpList_box_at rfl rfl (by (try simp only [Act.eval, Array.getD_eq_getD_getElem?, List.getElem?_toArray, List.getElem?_cons_succ, List.getElem?_cons_zero, Option.getD_some]) <;> exact rfl) (by exact rfl) hA ?_; intro b1 w1 hB hb1; clear hF hA; have hA := hB; clear hB; (try simp only [setL, List.set_cons_zero, List.set_cons_succ, List.cons_append, List.nil_append] at hA); (have hF := hA.facts); (try simp only [facts_cons, facts_nil, facts_cells, facts_old, facts_fact, facts_obj, facts_map, facts_iter, and_true, true_and] at hF)))
            go_roundg (gk - 1)
            case measure => omega
            case rel => exact ⟨i + 1, _, _, L1, by simp, by omega, hA.pick (by with_reducible repeat (first | exact Picks.nil | refine Picks.cons (by with_reducible repeat (first | exact Sel.here | apply Sel.there)) ?_)), hI1'.out, by omega⟩
          · refine wpOp_store_at (b := bB) (j := 0) (vs := [.slice vx1 vn1 vc1]) rfl rfl rfl (by (try simp only [Act.eval, Array.getD_eq_getD_getElem?, List.getElem?_toArray, List.getElem?_cons_succ, List.getElem?_cons_zero, Option.getD_some]) <;> exact rfl) (by (try simp only [Act.eval, Array.getD_eq_getD_getElem?, List.getElem?_toArray, List.getElem?_cons_succ, List.getElem?_cons_zero, Option.getD_some]) <;> exact rfl) (by exact rfl) hA (by with_reducible repeat (first | exact Sel.here | apply Sel.there)) (by kernel_rfl) rfl (by show 0 + 1 ≤ 1; omega) ?_
            intro w1 hB; clear hF hA; have hA := hB; clear hB; (try simp only [setL, List.set_cons_zero, List.set_cons_succ, List.cons_append, List.nil_append] at hA); (have hF := hA.facts); (try simp only [facts_cons, facts_nil, facts_cells, facts_old, facts_fact, facts_obj, facts_map, facts_iter, and_true, true_and] at hF)
            go_frame
            refine wpAny_step (f := 1) [10] (by kernel_rfl) (by simp) ?_
            intro j hj
            obtain rfl : j = 10 := by simpa using hj
            refine wpOp_val0 (v := .int .i64 c) rfl rfl (by kernel_rfl) ?_
            go_frame
            refine wpAny_step (f := 0) [12] (by kernel_rfl) (by simp) ?_
            intro j hj
            obtain rfl : j = 12 := by simpa using hj
            refine wpOp_val0 (v := .int .i64 c) rfl rfl (by kernel_rfl) ?_
            go_frame
            refine wpAny_end (by kernel_rfl) ?_
            clear hj
            go_wp2_with (first | (refine wpList_store_at rfl rfl rfl (by (try simp only [Act.eval, Array.getD_eq_getD_getElem?, List.getElem?_toArray, List.getElem?_cons_succ, List.getElem?_cons_zero, Option.getD_some]) <;> exact rfl) (by exact rfl) hA (by with_reducible repeat (first | exact Sel.here | apply Sel.there)) (by kernel_rfl) rfl (by first | decide | (simp; done) | omega) ?_; intro w1 hB; clear hF hA; have hA := hB; clear hB; (try simp only [setL, List.set_cons_zero, List.set_cons_succ, List.cons_append, List.nil_append] at hA); (have hF := hA.facts); (try simp only [facts_cons, facts_nil, facts_cells, facts_old, facts_fact, facts_obj, facts_map, facts_iter, and_true, true_and] at hF)) | (refine wpList_box_at rfl rfl (by (try simp only [Act.eval, Array.getD_eq_getD_getElem?, List.getElem?_toArray, List.getElem?_cons_succ, List.getElem?_cons_zero, Option.getD_some]) <;> exact rfl) (by exact rfl) hA ?_; intro b1 w1 hB hb1; clear hF hA; have hA := hB; clear hB; (try simp only [setL, List.set_cons_zero, List.set_cons_succ, List.cons_append, List.nil_append] at hA); (have hF := hA.facts); (try simp only [facts_cons, facts_nil, facts_cells, facts_old, facts_fact, facts_obj, facts_map, facts_iter, and_true, true_and] at hF)))
            have hb := book_open (hA.sep1 (by with_reducible repeat (first | exact Sel.here | apply Sel.there))) (n := (kn : Int)) (by omega) (by unfold big64; omega) ho'.out.f (by omega) 1 1
            rw [hE.out] at hb
            refine hb.mono ?_
            clear hb
            rintro e w3 ⟨ss', rfl, hT, hcase⟩
            have hss' : ss' = ss1 := by
              rcases hcase with ⟨_, q⟩ | ⟨q, _⟩
              · exact q
              · exact absurd q hc'.out
            subst hss'
            have hB := hA.call1 (by with_reducible repeat (first | exact Sel.here | apply Sel.there)) hT
            clear hF hA hT hcase
            have hA := hB
            clear hB
            simp only [List.cons_append, List.nil_append] at hA
            have hF := hA.facts
            (try simp only [setL, List.set_cons_zero, List.set_cons_succ, List.cons_append, List.nil_append] at hA); (have hF := hA.facts); (try simp only [facts_cons, facts_nil, facts_cells, facts_old, facts_fact, facts_obj, facts_map, facts_iter, and_true, true_and] at hF)
            go_wp2_with (first | (refine wpList_store_at rfl rfl rfl (by (try simp only [Act.eval, Array.getD_eq_getD_getElem?, List.getElem?_toArray, List.getElem?_cons_succ, List.getElem?_cons_zero, Option.getD_some]) <;> exact rfl) (by exact rfl) hA (by with_reducible repeat (first | exact Sel.here | apply Sel.there)) (by kernel_rfl) rfl (by first | decide | (simp; done) | omega) ?_; intro w1 hB; clear hF hA; have hA := hB; clear hB; (try simp only [setL, List.set_cons_zero, List.set_cons_succ, List.cons_append, List.nil_append] at hA); (have hF := hA.facts); (try simp only [facts_cons, facts_nil, facts_cells, facts_old, facts_fact, facts_obj, facts_map, facts_iter, and_true, true_and] at hF)) | (refine wpList_box_at rfl rfl (by (try simp only [Act.eval, Array.getD_eq_getD_getElem?, List.getElem?_toArray, List.getElem?_cons_succ, List.getElem?_cons_zero, Option.getD_some]) <;> exact rfl) (by exact rfl) hA ?_; intro b1 w1 hB hb1; clear hF hA; have hA := hB; clear hB; (try simp only [setL, List.set_cons_zero, List.set_cons_succ, List.cons_append, List.nil_append] at hA); (have hF := hA.facts); (try simp only [facts_cons, facts_nil, facts_cells, facts_old, facts_fact, facts_obj, facts_map, facts_iter, and_true, true_and] at hF)))
            go_roundg (gk - 1)
            case measure => omega
            case rel => exact ⟨i + 1, _, _, L1, by simp, by omega, hA.pick (by with_reducible repeat (first | exact Picks.nil | refine Picks.cons (by with_reducible repeat (first | exact Sel.here | apply Sel.there)) ?_)), hI1'.out, by omega⟩
        · refine wpOp_val0 (v := .int .i64 c) rfl rfl (by kernel_rfl) ?_
          go_frame
          refine wpAny_step (f := 2) [9] (by kernel_rfl) (by simp) ?_
          intro j hj
          obtain rfl : j = 9 := by simpa using hj
          refine wpOp_val0 (v := .agg #[.slice vx1 vn1 vc1]) rfl rfl (by kernel_rfl) ?_
          go_frame
          refine wpAny_step (f := 1) [11] (by kernel_rfl) (by simp) ?_
          intro j hj
          obtain rfl : j = 11 := by simpa using hj
          refine wpOp_store_at (b := bB) (j := 0) (vs := [.slice vx1 vn1 vc1]) rfl rfl rfl (by (try simp only [Act.eval, Array.getD_eq_getD_getElem?, List.getElem?_toArray, List.getElem?_cons_succ, List.getElem?_cons_zero, Option.getD_some]) <;> exact rfl) (by (try simp only [Act.eval, Array.getD_eq_getD_getElem?, List.getElem?_toArray, List.getElem?_cons_succ, List.getElem?_cons_zero, Option.getD_some]) <;> exact rfl) (by exact rfl) hA (by with_reducible repeat (first | exact Sel.here | apply Sel.there)) (by kernel_rfl) rfl (by show 0 + 1 ≤ 1; omega) ?_
          intro w1 hB; clear hF hA; have hA := hB; clear hB; (try simp only [setL, List.set_cons_zero, List.set_cons_succ, List.cons_append, List.nil_append] at hA); (have hF := hA.facts); (try simp only [facts_cons, facts_nil, facts_cells, facts_old, facts_fact, facts_obj, facts_map, facts_iter, and_true, true_and] at hF)
          go_frame
          refine wpAny_step (f := 0) [12] (by kernel_rfl) (by simp) ?_
          intro j hj
          obtain rfl : j = 12 := by simpa using hj
          refine wpOp_val0 (v := .int .i64 c) rfl rfl (by kernel_rfl) ?_
          go_frame
          refine wpAny_end (by kernel_rfl) ?_
          clear hj
          go_wp2_with (first | (refine wpList_store_at rfl rfl rfl (by (try simp only [Act.eval, Array.getD_eq_getD_getElem?, List.getElem?_toArray, List.getElem?_cons_succ, List.getElem?_cons_zero, Option.getD_some]) <;> exact rfl) (by exact rfl) hA (by with_reducible repeat (first | exact Sel.here | apply Sel.there)) (by kernel_rfl) rfl (by first | decide | (simp; done) | omega) ?_; intro w1 hB; clear hF hA; have hA := hB; clear hB; (try simp only [setL, List.set_cons_zero, List.set_cons_succ, List.cons_append, List.nil_append] at hA); (have hF := hA.facts); (try simp only [facts_cons, facts_nil, facts_cells, facts_old, facts_fact, facts_obj, facts_map, facts_iter, and_true, true_and] at hF)) | (refine wpList_box_at rfl rfl (by (try simp only [Act.eval, Array.getD_eq_getD_getElem?, List.getElem?_toArray, List.getElem?_cons_succ, List.getElem?_cons_zero, Option.getD_some]) <;> exact rfl) (by exact rfl) hA ?_; intro b1 w1 hB hb1; clear hF hA; have hA := hB; clear hB; (try simp only [setL, List.set_cons_zero, List.set_cons_succ, List.cons_append, List.nil_append] at hA); (have hF := hA.facts); (try simp only [facts_cons, facts_nil, facts_cells, facts_old, facts_fact, facts_obj, facts_map, facts_iter, and_true, true_and] at hF)))
          have hb := book_open (hA.sep1 (by with_reducible repeat (first | exact Sel.here | apply Sel.there))) (n := (kn : Int)) (by omega) (by unfold big64; omega) ho'.out.f (by omega) 1 1
          rw [hE.out] at hb
          refine hb.mono ?_
          clear hb
          rintro e w3 ⟨ss', rfl, hT, hcase⟩
          have hss' : ss' = ss1 := by
            rcases hcase with ⟨_, q⟩ | ⟨q, _⟩
            · exact q
            · exact absurd q hc'.out
          subst hss'
          have hB := hA.call1 (by with_reducible repeat (first | exact Sel.here | apply Sel.there)) hT
          clear hF hA hT hcase
          have hA := hB
          clear hB
          simp only [List.cons_append, List.nil_append] at hA
          have hF := hA.facts
          (try simp only [setL, List.set_cons_zero, List.set_cons_succ, List.cons_append, List.nil_append] at hA); (have hF := hA.facts); (try simp only [facts_cons, facts_nil, facts_cells, facts_old, facts_fact, facts_obj, facts_map, facts_iter, and_true, true_and] at hF)
          go_wp2_with (first | (refine wpList_store_at rfl rfl rfl (by (try simp only [Act.eval, Array.getD_eq_getD_getElem?, List.getElem?_toArray, List.getElem?_cons_succ, List.getElem?_cons_zero, Option.getD_some]) <;> exact rfl) (by exact rfl) hA (by with_reducible repeat (first | exact Sel.here | apply Sel.there)) (by kernel_rfl) rfl (by first | decide | (simp; done) | omega) ?_; intro w1 hB; clear hF hA; have hA := hB; clear hB; (try simp only [setL, List.set_cons_zero, List.set_cons_succ, List.cons_append, List.nil_append] at hA); (have hF := hA.facts); (try simp only [facts_cons, facts_nil, facts_cells, facts_old, facts_fact, facts_obj, facts_map, facts_iter, and_true, true_and] at hF)) | (refine wpList_box_at rfl rfl (by (try simp only [Act.eval, Array.getD_eq_getD_getElem?, List.getElem?_toArray, List.getElem?_cons_succ, List.getElem?_cons_zero, Option.getD_some]) <;> exact rfl) (by exact rfl) hA ?_; intro b1 w1 hB hb1; clear hF hA; have hA := hB; clear hB; (try simp only [setL, List.set_cons_zero, List.set_cons_succ, List.cons_append, List.nil_append] at hA); (have hF := hA.facts); (try simp only [facts_cons, facts_nil, facts_cells, facts_old, facts_fact, facts_obj, facts_map, facts_iter, and_true, true_and] at hF)))
          go_roundg (gk - 1)
          case measure => omega
          case rel => exact ⟨i + 1, _, _, L1, by simp, by omega, hA.pick (by with_reducible repeat (first | exact Picks.nil | refine Picks.cons (by with_reducible repeat (first | exact Sel.here | apply Sel.there)) ?_)), hI1'.out, by omega⟩
      · refine ⟨_, rfl, ?_⟩
        go_frame
        subst hc
        have hB := hA.call1 (by with_reducible repeat (first | exact Sel.here | apply Sel.there)) hT
        clear hF hA hT
        obtain ⟨ax4, n4, cap4, hv4, hn4⟩ := hB.row_hid .here
        subst hv4
        have hA := hB
        clear hB
        simp only [List.cons_append, List.nil_append] at hA
        have hF := hA.facts
        (try simp only [setL, List.set_cons_zero, List.set_cons_succ, List.cons_append, List.nil_append] at hA); (have hF := hA.facts); (try simp only [facts_cons, facts_nil, facts_cells, facts_old, facts_fact, facts_obj, facts_map, facts_iter, and_true, true_and] at hF)
        refine wpAny_step (f := 4) [8] (by kernel_rfl) (by simp) ?_
        intro j hj
        obtain rfl : j = 8 := by simpa using hj
        refine wpOp_val0 (v := .tuple #[.agg #[.slice ax4 n4 cap4], .int .i64 0]) rfl rfl (by kernel_rfl) ?_
        go_frame
        refine wpAny_step (f := 3) [9, 10] (by kernel_rfl) (by simp) ?_
        intro j hj
        rcases (show j = 9 ∨ j = 10 by simpa using hj) with rfl | rfl
        · refine wpOp_val0 (v := .agg #[.slice ax4 n4 cap4]) rfl rfl (by kernel_rfl) ?_
          go_frame
          refine wpAny_step (f := 2) [10, 11] (by kernel_rfl) (by simp) ?_
          intro j hj
          rcases (show j = 10 ∨ j = 11 by simpa using hj) with rfl | rfl
          · refine wpOp_val0 (v := .int .i64 0) rfl rfl (by kernel_rfl) ?_
            go_frame
            refine wpAny_step (f := 1) [11] (by kernel_rfl) (by simp) ?_
            intro j hj
            obtain rfl : j = 11 := by simpa using hj
            refine wpOp_store_at (b := bB) (j := 0) (vs := [.slice ax4 n4 cap4]) rfl rfl rfl (by (try simp only [Act.eval, Array.getD_eq_getD_getElem?, List.getElem?_toArray, List.getElem?_cons_succ, List.getElem?_cons_zero, Option.getD_some]) <;> exact rfl) (by (try simp only [Act.eval, Array.getD_eq_getD_getElem?, List.getElem?_toArray, List.getElem?_cons_succ, List.getElem?_cons_zero, Option.getD_some]) <;> exact rfl) (by exact rfl) hA (by with_reducible repeat (first | exact Sel.here | apply Sel.there)) (by kernel_rfl) rfl (by show 0 + 1 ≤ 1; omega) ?_
            intro w1 hB; clear hF hA; have hA := hB; clear hB; (try simp only [setL, List.set_cons_zero, List.set_cons_succ, List.cons_append, List.nil_append] at hA); (have hF := hA.facts); (try simp only [facts_cons, facts_nil, facts_cells, facts_old, facts_fact, facts_obj, facts_map, facts_iter, and_true, true_and] at hF)
            go_frame
            refine wpAny_step (f := 0) [12] (by kernel_rfl) (by simp) ?_
            intro j hj
            obtain rfl : j = 12 := by simpa using hj
            refine wpOp_val0 (v := .int .i64 0) rfl rfl (by kernel_rfl) ?_
            go_frame
            refine wpAny_end (by kernel_rfl) ?_
            clear hj
            go_wp2_with (first | (refine wpList_store_at rfl rfl rfl (by (try simp only [Act.eval, Array.getD_eq_getD_getElem?, List.getElem?_toArray, List.getElem?_cons_succ, List.getElem?_cons_zero, Option.getD_some]) <;> exact rfl) (by exact rfl) hA (by with_reducible repeat (first | exact Sel.here | apply Sel.there)) (by kernel_rfl) rfl (by first | decide | (simp; done) | omega) ?_; intro w1 hB; clear hF hA; have hA := hB; clear hB; (try simp only [setL, List.set_cons_zero, List.set_cons_succ, List.cons_append, List.nil_append] at hA); (have hF := hA.facts); (try simp only [facts_cons, facts_nil, facts_cells, facts_old, facts_fact, facts_obj, facts_map, facts_iter, and_true, true_and] at hF)) | (refine wpList_box_at rfl rfl (by (try simp only [Act.eval, Array.getD_eq_getD_getElem?, List.getElem?_toArray, List.getElem?_cons_succ, List.getElem?_cons_zero, Option.getD_some]) <;> exact rfl) (by exact rfl) hA ?_; intro b1 w1 hB hb1; clear hF hA; have hA := hB; clear hB; (try simp only [setL, List.set_cons_zero, List.set_cons_succ, List.cons_append, List.nil_append] at hA); (have hF := hA.facts); (try simp only [facts_cons, facts_nil, facts_cells, facts_old, facts_fact, facts_obj, facts_map, facts_iter, and_true, true_and] at hF)))
            have hb := book_open (hA.sep1 (by with_reducible repeat (first | exact Sel.here | apply Sel.there))) (n := (kn : Int)) (by omega) (by unfold big64; omega) ho'.out.f (by omega) 1 1
            rw [hE.out] at hb
            refine hb.mono ?_
            clear hb
            rintro e w3 ⟨ss', rfl, hT, hcase⟩
            have hturn : Turned ss1 (kn : Int) o.foot (fun s => s.opened 1 1) ss' := by
              rcases hcase with ⟨q, _⟩ | ⟨_, q⟩
              · exact absurd rfl q
              · exact q
            have hnew := hI1'.out.opened (by rw [hs1'.out]; exact hcd'.out) hturn
            rw [hs1'.out] at hnew
            have hnew' := Lib.hid hnew
            have hB := hA.call1 (by with_reducible repeat (first | exact Sel.here | apply Sel.there)) hT
            clear hF hA hT hcase hnew hturn
            have hA := hB
            clear hB
            simp only [List.cons_append, List.nil_append] at hA
            have hF := hA.facts
            (try simp only [setL, List.set_cons_zero, List.set_cons_succ, List.cons_append, List.nil_append] at hA); (have hF := hA.facts); (try simp only [facts_cons, facts_nil, facts_cells, facts_old, facts_fact, facts_obj, facts_map, facts_iter, and_true, true_and] at hF)
            go_wp2_with (first | (refine wpList_store_at rfl rfl rfl (by (try simp only [Act.eval, Array.getD_eq_getD_getElem?, List.getElem?_toArray, List.getElem?_cons_succ, List.getElem?_cons_zero, Option.getD_some]) <;> exact rfl) (by exact rfl) hA (by with_reducible repeat (first | exact Sel.here | apply Sel.there)) (by kernel_rfl) rfl (by first | decide | (simp; done) | omega) ?_; intro w1 hB; clear hF hA; have hA := hB; clear hB; (try simp only [setL, List.set_cons_zero, List.set_cons_succ, List.cons_append, List.nil_append] at hA); (have hF := hA.facts); (try simp only [facts_cons, facts_nil, facts_cells, facts_old, facts_fact, facts_obj, facts_map, facts_iter, and_true, true_and] at hF)) | (refine wpList_box_at rfl rfl (by (try simp only [Act.eval, Array.getD_eq_getD_getElem?, List.getElem?_toArray, List.getElem?_cons_succ, List.getElem?_cons_zero, Option.getD_some]) <;> exact rfl) (by exact rfl) hA ?_; intro b1 w1 hB hb1; clear hF hA; have hA := hB; clear hB; (try simp only [setL, List.set_cons_zero, List.set_cons_succ, List.cons_append, List.nil_append] at hA); (have hF := hA.facts); (try simp only [facts_cons, facts_nil, facts_cells, facts_old, facts_fact, facts_obj, facts_map, facts_iter, and_true, true_and] at hF)))
            go_roundg (gk - 1)
            case measure => omega
            case rel => exact ⟨i + 1, _, _, _, by simp, by omega, hA.pick (by with_reducible repeat (first | exact Picks.nil | refine Picks.cons (by with_reducible repeat (first | exact Sel.here | apply Sel.there)) ?_)), hnew'.out, Nat.le_trans (put_len _) (by omega)⟩
          · refine wpOp_store_at (b := bB) (j := 0) (vs := [.slice ax4 n4 cap4]) rfl rfl rfl (by (try simp only [Act.eval, Array.getD_eq_getD_getElem?, List.getElem?_toArray, List.getElem?_cons_succ, List.getElem?_cons_zero, Option.getD_some]) <;> exact rfl) (by (try simp only [Act.eval, Array.getD_eq_getD_getElem?, List.getElem?_toArray, List.getElem?_cons_succ, List.getElem?_cons_zero, Option.getD_some]) <;> exact rfl) (by exact rfl) hA (by with_reducible repeat (first | exact Sel.here | apply Sel.there)) (by kernel_rfl) rfl (by show 0 + 1 ≤ 1; omega) ?_
            intro w1 hB; clear hF hA; have hA := hB; clear hB; (try simp only [setL, List.set_cons_zero, List.set_cons_succ, List.cons_append, List.nil_append] at hA); (have hF := hA.facts); (try simp only [facts_cons, facts_nil, facts_cells, facts_old, facts_fact, facts_obj, facts_map, facts_iter, and_true, true_and] at hF)
            go_frame
            refine wpAny_step (f := 1) [10] (by kernel_rfl) (by simp) ?_
            intro j hj
            obtain rfl : j = 10 := by simpa using hj
            refine wpOp_val0 (v := .int .i64 0) rfl rfl (by kernel_rfl) ?_
            go_frame
            refine wpAny_step (f := 0) [12] (by kernel_rfl) (by simp) ?_
            intro j hj
            obtain rfl : j = 12 := by simpa using hj
            refine wpOp_val0 (v := .int .i64 0) rfl rfl (by kernel_rfl) ?_
            go_frame
            refine wpAny_end (by kernel_rfl) ?_
            clear hj
            go_wp2_with (first | (refine wpList_store_at rfl rfl rfl (by (try simp only [Act.eval, Array.getD_eq_getD_getElem?, List.getElem?_toArray, List.getElem?_cons_succ, List.getElem?_cons_zero, Option.getD_some]) <;> exact rfl) (by exact rfl) hA (by with_reducible repeat (first | exact Sel.here | apply Sel.there)) (by kernel_rfl) rfl (by first | decide | (simp; done) | omega) ?_; intro w1 hB; clear hF hA; have hA := hB; clear hB; (try simp only [setL, List.set_cons_zero, List.set_cons_succ, List.cons_append, List.nil_append] at hA); (have hF := hA.facts); (try simp only [facts_cons, facts_nil, facts_cells, facts_old, facts_fact, facts_obj, facts_map, facts_iter, and_true, true_and] at hF)) | (refine wpList_box_at rfl rfl (by (try simp only [Act.eval, Array.getD_eq_getD_getElem?, List.getElem?_toArray, List.getElem?_cons_succ, List.getElem?_cons_zero, Option.getD_some]) <;> exact rfl) (by exact rfl) hA ?_; intro b1 w1 hB hb1; clear hF hA; have hA := hB; clear hB; (try simp only [setL, List.set_cons_zero, List.set_cons_succ, List.cons_append, List.nil_append] at hA); (have hF := hA.facts); (try simp only [facts_cons, facts_nil, facts_cells, facts_old, facts_fact, facts_obj, facts_map, facts_iter, and_true, true_and] at hF)))
            have hb := book_open (hA.sep1 (by with_reducible repeat (first | exact Sel.here | apply Sel.there))) (n := (kn : Int)) (by omega) (by unfold big64; omega) ho'.out.f (by omega) 1 1
            rw [hE.out] at hb
            refine hb.mono ?_
            clear hb
            rintro e w3 ⟨ss', rfl, hT, hcase⟩
            have hturn : Turned ss1 (kn : Int) o.foot (fun s => s.opened 1 1) ss' := by
              rcases hcase with ⟨q, _⟩ | ⟨_, q⟩
              · exact absurd rfl q
              · exact q
            have hnew := hI1'.out.opened (by rw [hs1'.out]; exact hcd'.out) hturn
            rw [hs1'.out] at hnew
            have hnew' := Lib.hid hnew
            have hB := hA.call1 (by with_reducible repeat (first | exact Sel.here | apply Sel.there)) hT
            clear hF hA hT hcase hnew hturn
            have hA := hB
            clear hB
            simp only [List.cons_append, List.nil_append] at hA
            have hF := hA.facts
            (try simp only [setL, List.set_cons_zero, List.set_cons_succ, List.cons_append, List.nil_append] at hA); (have hF := hA.facts); (try simp only [facts_cons, facts_nil, facts_cells, facts_old, facts_fact, facts_obj, facts_map, facts_iter, and_true, true_and] at hF)
            go_wp2_with (first | (refine wpList_store_at rfl rfl rfl (by (try simp only [Act.eval, Array.getD_eq_getD_getElem?, List.getElem?_toArray, List.getElem?_cons_succ, List.getElem?_cons_zero, Option.getD_some]) <;> exact rfl) (by exact rfl) hA (by with_reducible repeat (first | exact Sel.here | apply Sel.there)) (by kernel_rfl) rfl (by first | decide | (simp; done) | omega) ?_; intro w1 hB; clear hF hA; have hA := hB; clear hB; (try simp only [setL, List.set_cons_zero, List.set_cons_succ, List.cons_append, List.nil_append] at hA); (have hF := hA.facts); (try simp only [facts_cons, facts_nil, facts_cells, facts_old, facts_fact, facts_obj, facts_map, facts_iter, and_true, true_and] at hF)) | (refine wpList_box_at rfl rfl (by (try simp only [Act.eval, Array.getD_eq_getD_getElem?, List.getElem?_toArray, List.getElem?_cons_succ, List.getElem?_cons_zero, Option.getD_some]) <;> exact rfl) (by exact rfl) hA ?_; intro b1 w1 hB hb1; clear hF hA; have hA := hB; clear hB; (try simp only [setL, List.set_cons_zero, List.set_cons_succ, List.cons_append, List.nil_append] at hA); (have hF := hA.facts); (try simp only [facts_cons, facts_nil, facts_cells, facts_old, facts_fact, facts_obj, facts_map, facts_iter, and_true, true_and] at hF)))
            go_roundg (gk - 1)
            case measure => omega
            case rel => exact ⟨i + 1, _, _, _, by simp, by omega, hA.pick (by with_reducible repeat (first | exact Picks.nil | refine Picks.cons (by with_reducible repeat (first | exact Sel.here | apply Sel.there)) ?_)), hnew'.out, Nat.le_trans (put_len _) (by omega)⟩
        · refine wpOp_val0 (v := .int .i64 0) rfl rfl (by kernel_rfl) ?_
          go_frame
          refine wpAny_step (f := 2) [9] (by kernel_rfl) (by simp) ?_
          intro j hj
          obtain rfl : j = 9 := by simpa using hj
          refine wpOp_val0 (v := .agg #[.slice ax4 n4 cap4]) rfl rfl (by kernel_rfl) ?_
          go_frame
          refine wpAny_step (f := 1) [11] (by kernel_rfl) (by simp) ?_
          intro j hj
          obtain rfl : j = 11 := by simpa using hj
          refine wpOp_store_at (b := bB) (j := 0) (vs := [.slice ax4 n4 cap4]) rfl rfl rfl (by (try simp only [Act.eval, Array.getD_eq_getD_getElem?, List.getElem?_toArray, List.getElem?_cons_succ, List.getElem?_cons_zero, Option.getD_some]) <;> exact rfl) (by (try simp only [Act.eval, Array.getD_eq_getD_getElem?, List.getElem?_toArray, List.getElem?_cons_succ, List.getElem?_cons_zero, Option.getD_some]) <;> exact rfl) (by exact rfl) hA (by with_reducible repeat (first | exact Sel.here | apply Sel.there)) (by kernel_rfl) rfl (by show 0 + 1 ≤ 1; omega) ?_
          intro w1 hB; clear hF hA; have hA := hB; clear hB; (try simp only [setL, List.set_cons_zero, List.set_cons_succ, List.cons_append, List.nil_append] at hA); (have hF := hA.facts); (try simp only [facts_cons, facts_nil, facts_cells, facts_old, facts_fact, facts_obj, facts_map, facts_iter, and_true, true_and] at hF)
          go_frame
          refine wpAny_step (f := 0) [12] (by kernel_rfl) (by simp) ?_
          intro j hj
          obtain rfl : j = 12 := by simpa using hj
          refine wpOp_val0 (v := .int .i64 0) rfl rfl (by kernel_rfl) ?_
          go_frame
          refine wpAny_end (by kernel_rfl) ?_
          clear hj
          go_wp2_with (first | (refine wpList_store_at rfl rfl rfl (by (try simp only [Act.eval, Array.getD_eq_getD_getElem?, List.getElem?_toArray, List.getElem?_cons_succ, List.getElem?_cons_zero, Option.getD_some]) <;> exact rfl) (by exact rfl) hA (by with_reducible repeat (first | exact Sel.here | apply Sel.there)) (by kernel_rfl) rfl (by first | decide | (simp; done) | omega) ?_; intro w1 hB; clear hF hA; have hA := hB; clear hB; (try simp only [setL, List.set_cons_zero, List.set_cons_succ, List.cons_append, List.nil_append] at hA); (have hF := hA.facts); (try simp only [facts_cons, facts_nil, facts_cells, facts_old, facts_fact, facts_obj, facts_map, facts_iter, and_true, true_and] at hF)) | (refine wpList_box_at rfl rfl (by (try simp only [Act.eval, Array.getD_eq_getD_getElem?, List.getElem?_toArray, List.getElem?_cons_succ, List.getElem?_cons_zero, Option.getD_some]) <;> exact rfl) (by exact rfl) hA ?_; intro b1 w1 hB hb1; clear hF hA; have hA := hB; clear hB; (try simp only [setL, List.set_cons_zero, List.set_cons_succ, List.cons_append, List.nil_append] at hA); (have hF := hA.facts); (try simp only [facts_cons, facts_nil, facts_cells, facts_old, facts_fact, facts_obj, facts_map, facts_iter, and_true, true_and] at hF)))
          have hb := book_open (hA.sep1 (by with_reducible repeat (first | exact Sel.here | apply Sel.there))) (n := (kn : Int)) (by omega) (by unfold big64; omega) ho'.out.f (by omega) 1 1
          rw [hE.out] at hb
          refine hb.mono ?_
          clear hb
          rintro e w3 ⟨ss', rfl, hT, hcase⟩
          have hturn : Turned ss1 (kn : Int) o.foot (fun s => s.opened 1 1) ss' := by
            rcases hcase with ⟨q, _⟩ | ⟨_, q⟩
            · exact absurd rfl q
            · exact q
          have hnew := hI1'.out.opened (by rw [hs1'.out]; exact hcd'.out) hturn
          rw [hs1'.out] at hnew
          have hnew' := Lib.hid hnew
          have hB := hA.call1 (by with_reducible repeat (first | exact Sel.here | apply Sel.there)) hT
          clear hF hA hT hcase hnew hturn
          have hA := hB
          clear hB
          simp only [List.cons_append, List.nil_append] at hA
          have hF := hA.facts
          (try simp only [setL, List.set_cons_zero, List.set_cons_succ, List.cons_append, List.nil_append] at hA); (have hF := hA.facts); (try simp only [facts_cons, facts_nil, facts_cells, facts_old, facts_fact, facts_obj, facts_map, facts_iter, and_true, true_and] at hF)
          go_wp2_with (first | (refine wpList_store_at rfl rfl rfl (by (try simp only [Act.eval, Array.getD_eq_getD_getElem?, List.getElem?_toArray, List.getElem?_cons_succ, List.getElem?_cons_zero, Option.getD_some]) <;> exact rfl) (by exact rfl) hA (by with_reducible repeat (first | exact Sel.here | apply Sel.there)) (by kernel_rfl) rfl (by first | decide | (simp; done) | omega) ?_; intro w1 hB; clear hF hA; have hA := hB; clear hB; (try simp only [setL, List.set_cons_zero, List.set_cons_succ, List.cons_append, List.nil_append] at hA); (have hF := hA.facts); (try simp only [facts_cons, facts_nil, facts_cells, facts_old, facts_fact, facts_obj, facts_map, facts_iter, and_true, true_and] at hF)) | (refine wpList_box_at rfl rfl (by (try simp only [Act.eval, Array.getD_eq_getD_getElem?, List.getElem?_toArray, List.getElem?_cons_succ, List.getElem?_cons_zero, Option.getD_some]) <;> exact rfl) (by exact rfl) hA ?_; intro b1 w1 hB hb1; clear hF hA; have hA := hB; clear hB; (try simp only [setL, List.set_cons_zero, List.set_cons_succ, List.cons_append, List.nil_append] at hA); (have hF := hA.facts); (try simp only [facts_cons, facts_nil, facts_cells, facts_old, facts_fact, facts_obj, facts_map, facts_iter, and_true, true_and] at hF)))
          go_roundg (gk - 1)
          case measure => omega
          case rel => exact ⟨i + 1, _, _, _, by simp, by omega, hA.pick (by with_reducible repeat (first | exact Picks.nil | refine Picks.cons (by with_reducible repeat (first | exact Sel.here | apply Sel.there)) ?_)), hnew'.out, Nat.le_trans (put_len _) (by omega)⟩
    · go_wp2_with (first | (refine wpList_store_at rfl rfl rfl (by (try simp only [Act.eval, Array.getD_eq_getD_getElem?, List.getElem?_toArray, List.getElem?_cons_succ, List.getElem?_cons_zero, Option.getD_some]) <;> exact rfl) (by exact rfl) hA (by with_reducible repeat (first | exact Sel.here | apply Sel.there)) (by kernel_rfl) rfl (by first | decide | (simp; done) | omega) ?_; intro w1 hB; clear hF hA; have hA := hB; clear hB; (try simp only [setL, List.set_cons_zero, List.set_cons_succ, List.cons_append, List.nil_append] at hA); (have hF := hA.facts); (try simp only [facts_cons, facts_nil, facts_cells, facts_old, facts_fact, facts_obj, facts_map, facts_iter, and_true, true_and] at hF)) | (refine wpList_box_at rfl rfl (by (try simp only [Act.eval, Array.getD_eq_getD_getElem?, List.getElem?_toArray, List.getElem?_cons_succ, List.getElem?_cons_zero, Option.getD_some]) <;> exact rfl) (by exact rfl) hA ?_; intro b1 w1 hB hb1; clear hF hA; have hA := hB; clear hB; (try simp only [setL, List.set_cons_zero, List.set_cons_succ, List.cons_append, List.nil_append] at hA); (have hF := hA.facts); (try simp only [facts_cons, facts_nil, facts_cells, facts_old, facts_fact, facts_obj, facts_map, facts_iter, and_true, true_and] at hF)))
      refine bodyPost_ret (v := .tuple #[.agg #[.slice vx1 vn1 vc1], .bool true]) (by simp [results, Try.results7, go_sem, hF]) rfl ?_
      exact ⟨_, _, L1, PL, rfl, hA.pick (by with_reducible repeat (first | exact Picks.nil | refine Picks.cons (by with_reducible repeat (first | exact Sel.here | apply Sel.there)) ?_)), hI1'.out, by omega⟩
end Go.Proofs.Ytbdcgadcjgmgbaa.Lease
