/- LeasePlays: the law's step, kinds 5 and 7 (printed by gen/leasei.py). -/
import Derived.Test.YtbdcgadcjgmgbaaLeaseH
namespace Go.Proofs.Ytbdcgadcjgmgbaa.Lease
open Go.RowKit
set_option linter.unusedSimpArgs false
set_option linter.unusedVariables false

/-- a call that leaves a part as it is -/
theorem through1 {L0 L F : List Part} {A : Part} {w0 w : World} {P : Program} {f : FuncId} {args : Array Value} {v : Value} (h : At L0 w0 L w) (s : Sel A L F) (hc : Sep [A] w → Calls P f args w fun e w' => e = .returned v ∧ At [A] w [A] w') :
    Calls P f args w fun e w' => e = .returned v ∧ At L0 w0 L w' := At.through (K := [A]) h (Eqv.perm s.perm) hc
/-- something is told, in both -/
theorem Inv.tell {ss ss' : List Ses} {L : List SR} {PL : List (Value × List AR)} (h : Inv ss L PL) {n : Int} {f : ByteArray} {x : AR} {c : Ans} (hx : arP x = (x.r, c)) (hb : 0 ≤ x.r ∧ x.r < big64) (hc : (if (saidA (findR L n f).told x.r).isSome then (1 : Int) else if 256 ≤ (findR L n f).told.length then 1 else 0) = 0) (ht : Turned ss n f (fun s => s.tell x.r c) ss') (ax : Option Addr) (cap : Nat) :
    Inv ss' (putR L { findR L n f with ax := ax, cap := cap, told := insA (findR L n f).told x }) ((SR.tv { findR L n f with ax := ax, cap := cap, told := insA (findR L n f).told x }, insA (findR L n f).told x) :: PL) := by
  have h1 : saidA (findR L n f).told x.r = none := by
    cases q : saidA (findR L n f).told x.r with
    | none => rfl
    | some y => rw [q] at hc; simp at hc
  have h2 : (findR L n f).told.length < 256 := by
    rcases Nat.lt_or_ge (findR L n f).told.length 256 with q | q
    · exact q
    · rw [h1] at hc; simp [q] at hc
  have hr := h.rel.turned (ga := fun a => { a with ax := ax, cap := cap, told := insA a.told x }) ht (fun _ => rfl) (fun s1 a1 r1 _ ea => by
    have := r1.tell (x := x) (by rw [ea]; exact h1) (by rw [ea]; exact h2) hb ax cap
    rw [hx] at this
    exact this)
  exact h.put hr (fun q hq => by simp [hq]) (by simp)
set_option maxRecDepth 100000 in
set_option maxHeartbeats 4000000 in
theorem step_5 {w : World} {p m : Nat} {ss : List Ses} {v : Value} {L : List SR} {PL : List (Value × List AR)} (h : Sep [BookP p m ss, rowR v L, poolP PL] w) (hI : Inv ss L PL) (o : OpR) (ho : o.Ok) (hmax : L.length ≤ 100000) :
    Calls Try.prog 7 #[.pointer (some ⟨p, 0, none⟩), .agg #[v], opV 5 o] w (StepOut w p m ss v L PL) := by
  have hA := At.start h
  have hF := hA.facts
  clear h
  obtain ⟨vx, vn, vc, hv, hvn⟩ := hA.row_hid (v := v) (n := L.length) (xs := flatR L) (by with_reducible repeat (first | exact Sel.here | apply Sel.there))
  subst hv
  have hss : ss.length ≤ 100000 := by rw [hI.rel.len]; exact hmax
  obtain ⟨s, hs⟩ : ∃ s, findR L o.num o.foot = s := ⟨_, rfl⟩
  have hs' := Lib.hid hs
  have hrs : RelS (look ss o.num o.foot) s := by rw [← hs]; exact hI.rel.look _ _
  have hpool : (s.tv, s.told) ∈ PL := by rw [← hs]; exact hI.found _ _
  have hsk : s.num = o.num ∧ s.foot = o.foot := by rw [← hs]; exact findR_key
  have hrs' := Lib.hid hrs
  have hpool' := Lib.hid hpool
  have hsk' := Lib.hid hsk
  have hI' := Lib.hid hI
  have ho' := Lib.hid ho
  clear hs hrs hpool hsk hI ho
  unfold opV
  go_enter Try.func7, Try.ntmps7
  go_wp2_with (first | (refine wpList_box_at (E := 31) rfl rfl (by (try simp only [Act.eval, Array.getD_eq_getD_getElem?, List.getElem?_toArray, List.getElem?_cons_succ, List.getElem?_cons_zero, Option.getD_some]) <;> exact rfl) (by exact rfl) hA ?_; intro bB w1 hB hbB; clear hF hA; have hA := hB; clear hB; (try simp only [setL, List.set_cons_zero, List.set_cons_succ, List.cons_append, List.nil_append] at hA); (have hF := hA.facts); (try simp only [facts_cons, facts_nil, facts_cells, facts_old, facts_fact, facts_obj, facts_map, facts_iter, and_true, true_and] at hF)) | (refine wpList_box_at (E := 36) rfl rfl (by (try simp only [Act.eval, Array.getD_eq_getD_getElem?, List.getElem?_toArray, List.getElem?_cons_succ, List.getElem?_cons_zero, Option.getD_some]) <;> exact rfl) (by exact rfl) hA ?_; intro bO w1 hB hbO; clear hF hA; have hA := hB; clear hB; (try simp only [setL, List.set_cons_zero, List.set_cons_succ, List.cons_append, List.nil_append] at hA); (have hF := hA.facts); (try simp only [facts_cons, facts_nil, facts_cells, facts_old, facts_fact, facts_obj, facts_map, facts_iter, and_true, true_and] at hF)) | (refine wpList_alloc_at (E := 31) (z := .agg #[.slice none 0 0]) (vs := [.slice none 0 0]) rfl rfl (by kernel_rfl) rfl hA ?_; intro bZ w1 hB hbZ; clear hF hA; have hA := hB; clear hB; (try simp only [setL, List.set_cons_zero, List.set_cons_succ, List.cons_append, List.nil_append] at hA); (have hF := hA.facts); (try simp only [facts_cons, facts_nil, facts_cells, facts_old, facts_fact, facts_obj, facts_map, facts_iter, and_true, true_and] at hF)) | (refine wpList_store_at rfl rfl rfl (by (try simp only [Act.eval, Array.getD_eq_getD_getElem?, List.getElem?_toArray, List.getElem?_cons_succ, List.getElem?_cons_zero, Option.getD_some]) <;> exact rfl) (by exact rfl) hA (by with_reducible repeat (first | exact Sel.here | apply Sel.there)) (by kernel_rfl) rfl (by first | decide | (simp; done) | omega) ?_; intro w1 hB; clear hF hA; have hA := hB; clear hB; (try simp only [setL, List.set_cons_zero, List.set_cons_succ, List.cons_append, List.nil_append] at hA); (have hF := hA.facts); (try simp only [facts_cons, facts_nil, facts_cells, facts_old, facts_fact, facts_obj, facts_map, facts_iter, and_true, true_and] at hF)) | (refine wpList_box_at rfl rfl (by (try simp only [Act.eval, Array.getD_eq_getD_getElem?, List.getElem?_toArray, List.getElem?_cons_succ, List.getElem?_cons_zero, Option.getD_some]) <;> exact rfl) (by exact rfl) hA ?_; intro b1 w1 hB hb1; clear hF hA; have hA := hB; clear hB; (try simp only [setL, List.set_cons_zero, List.set_cons_succ, List.cons_append, List.nil_append] at hA); (have hF := hA.facts); (try simp only [facts_cons, facts_nil, facts_cells, facts_old, facts_fact, facts_obj, facts_map, facts_iter, and_true, true_and] at hF)))
  refine (findR_any (hA.sep1 (by with_reducible repeat (first | exact Sel.here | apply Sel.there))) o.num o.foot (by omega)).mono ?_
  rw [hs'.out]
  rintro e w1 ⟨rfl, hT⟩; have hB := hA.call1 (by with_reducible repeat (first | exact Sel.here | apply Sel.there)) hT; clear hF hA hT; have hA := hB; clear hB; (try simp only [setL, List.set_cons_zero, List.set_cons_succ, List.cons_append, List.nil_append] at hA); (have hF := hA.facts); (try simp only [facts_cons, facts_nil, facts_cells, facts_old, facts_fact, facts_obj, facts_map, facts_iter, and_true, true_and] at hF)
  go_wp2_with (first | (refine wpList_alloc_at (E := 44) (z := .agg #[.int .u64 0, .string .empty, .bool false, .bool false, .int .i64 0, .int .i64 0, .slice none 0 0]) (vs := [.int .u64 0, .string .empty, .bool false, .bool false, .int .i64 0, .int .i64 0, .slice none 0 0]) rfl rfl (by kernel_rfl) rfl hA ?_; intro bS w1 hB hbS; clear hF hA; have hA := hB; clear hB; (try simp only [setL, List.set_cons_zero, List.set_cons_succ, List.cons_append, List.nil_append] at hA); (have hF := hA.facts); (try simp only [facts_cons, facts_nil, facts_cells, facts_old, facts_fact, facts_obj, facts_map, facts_iter, and_true, true_and] at hF)) | (refine wpList_alloc_at (E := 48) (z := .agg #[.int .u64 0, .int .i64 0, .int .u64 0, .bool false]) (vs := [.int .u64 0, .int .i64 0, .int .u64 0, .bool false]) rfl rfl (by kernel_rfl) rfl hA ?_; intro bA w1 hB hbA; clear hF hA; have hA := hB; clear hB; (try simp only [setL, List.set_cons_zero, List.set_cons_succ, List.cons_append, List.nil_append] at hA); (have hF := hA.facts); (try simp only [facts_cons, facts_nil, facts_cells, facts_old, facts_fact, facts_obj, facts_map, facts_iter, and_true, true_and] at hF)) | (refine wpList_store_at (b := bS) (j := 0) (vs := SR.cells s) rfl rfl rfl (by (try simp only [Act.eval, Array.getD_eq_getD_getElem?, List.getElem?_toArray, List.getElem?_cons_succ, List.getElem?_cons_zero, Option.getD_some]) <;> exact rfl) (by exact rfl) hA (by with_reducible repeat (first | exact Sel.here | apply Sel.there)) (by kernel_rfl) (SR.ones _) (by show 0 + 7 ≤ 7; omega) ?_; intro w1 hB; clear hF hA; have hA := hB; clear hB; simp only [SR.cells] at hA; (try simp only [setL, List.set_cons_zero, List.set_cons_succ, List.cons_append, List.nil_append] at hA); (have hF := hA.facts); (try simp only [facts_cons, facts_nil, facts_cells, facts_old, facts_fact, facts_obj, facts_map, facts_iter, and_true, true_and] at hF)) | (refine wpList_store_at rfl rfl rfl (by (try simp only [Act.eval, Array.getD_eq_getD_getElem?, List.getElem?_toArray, List.getElem?_cons_succ, List.getElem?_cons_zero, Option.getD_some]) <;> exact rfl) (by exact rfl) hA (by with_reducible repeat (first | exact Sel.here | apply Sel.there)) (by kernel_rfl) rfl (by first | decide | (simp; done) | omega) ?_; intro w1 hB; clear hF hA; have hA := hB; clear hB; (try simp only [setL, List.set_cons_zero, List.set_cons_succ, List.cons_append, List.nil_append] at hA); (have hF := hA.facts); (try simp only [facts_cons, facts_nil, facts_cells, facts_old, facts_fact, facts_obj, facts_map, facts_iter, and_true, true_and] at hF)) | (refine wpList_box_at rfl rfl (by (try simp only [Act.eval, Array.getD_eq_getD_getElem?, List.getElem?_toArray, List.getElem?_cons_succ, List.getElem?_cons_zero, Option.getD_some]) <;> exact rfl) (by exact rfl) hA ?_; intro b1 w1 hB hb1; clear hF hA; have hA := hB; clear hB; (try simp only [setL, List.set_cons_zero, List.set_cons_succ, List.cons_append, List.nil_append] at hA); (have hF := hA.facts); (try simp only [facts_cons, facts_nil, facts_cells, facts_old, facts_fact, facts_obj, facts_map, facts_iter, and_true, true_and] at hF)))
  refine (book_tell (hA.sep1 (by with_reducible repeat (first | exact Sel.here | apply Sel.there))) ho'.out.n0 ho'.out.n1 ho'.out.f ho'.out.r0 ho'.out.r1 o.ans).mono ?_
  rw [hrs'.out.tellE o.req]
  generalize hcd : (if (saidA s.told o.req).isSome = true then (1 : Int) else if 256 ≤ s.told.length then 1 else 0) = c at *
  have hcd' := Lib.hid hcd
  clear hcd
  rintro e w1 ⟨ss', rfl, hT, hcase⟩
  have hcase' := Lib.hid hcase
  have hB := hA.call1 (by with_reducible repeat (first | exact Sel.here | apply Sel.there)) hT
  clear hF hA hT hcase
  have hA := hB
  clear hB
  simp only [List.cons_append, List.nil_append] at hA
  have hF := hA.facts
  (try simp only [setL, List.set_cons_zero, List.set_cons_succ, List.cons_append, List.nil_append] at hA); (have hF := hA.facts); (try simp only [facts_cons, facts_nil, facts_cells, facts_old, facts_fact, facts_obj, facts_map, facts_iter, and_true, true_and] at hF)
  go_wp2_with (first | (refine wpList_store_at rfl rfl rfl (by (try simp only [Act.eval, Array.getD_eq_getD_getElem?, List.getElem?_toArray, List.getElem?_cons_succ, List.getElem?_cons_zero, Option.getD_some]) <;> exact rfl) (by exact rfl) hA (by with_reducible repeat (first | exact Sel.here | apply Sel.there)) (by kernel_rfl) rfl (by first | decide | (simp; done) | omega) ?_; intro w1 hB; clear hF hA; have hA := hB; clear hB; (try simp only [setL, List.set_cons_zero, List.set_cons_succ, List.cons_append, List.nil_append] at hA); (have hF := hA.facts); (try simp only [facts_cons, facts_nil, facts_cells, facts_old, facts_fact, facts_obj, facts_map, facts_iter, and_true, true_and] at hF)) | (refine wpList_box_at rfl rfl (by (try simp only [Act.eval, Array.getD_eq_getD_getElem?, List.getElem?_toArray, List.getElem?_cons_succ, List.getElem?_cons_zero, Option.getD_some]) <;> exact rfl) (by exact rfl) hA ?_; intro b1 w1 hB hb1; clear hF hA; have hA := hB; clear hB; (try simp only [setL, List.set_cons_zero, List.set_cons_succ, List.cons_append, List.nil_append] at hA); (have hF := hA.facts); (try simp only [facts_cons, facts_nil, facts_cells, facts_old, facts_fact, facts_obj, facts_map, facts_iter, and_true, true_and] at hF)))
  refine (doc_tell (hA.seps (by with_reducible repeat (first | exact Picks.nil | refine Picks.cons (by with_reducible repeat (first | exact Sel.here | apply Sel.there)) ?_))) hpool'.out ⟨o.req, o.ans.e, o.ans.n, o.ans.g⟩ (by omega) hrs'.out.told.len (code := c) hcd'.out.symm).mono ?_
  rintro e w1 (⟨hc, rfl, hT⟩ | ⟨hc, v', ax, cap, rfl, hT⟩)
  · have hss' : ss' = ss := by
      rcases hcase'.out with ⟨_, q⟩ | ⟨q, _⟩
      · exact q
      · exact absurd q hc
    subst hss'
    have hB := hA.call2 (by with_reducible repeat (first | exact Sel.here | apply Sel.there)) (by with_reducible repeat (first | exact Sel.here | apply Sel.there)) hT
    clear hF hA hT hcase'
    have hc' := Lib.hid hc
    clear hc
    have hA := hB
    clear hB
    simp only [List.cons_append, List.nil_append] at hA
    have hF := hA.facts
    (try simp only [setL, List.set_cons_zero, List.set_cons_succ, List.cons_append, List.nil_append] at hA); (have hF := hA.facts); (try simp only [facts_cons, facts_nil, facts_cells, facts_old, facts_fact, facts_obj, facts_map, facts_iter, and_true, true_and] at hF)
    go_wp2_with (first | (refine wpList_store_at rfl rfl rfl (by (try simp only [Act.eval, Array.getD_eq_getD_getElem?, List.getElem?_toArray, List.getElem?_cons_succ, List.getElem?_cons_zero, Option.getD_some]) <;> exact rfl) (by exact rfl) hA (by with_reducible repeat (first | exact Sel.here | apply Sel.there)) (by kernel_rfl) rfl (by first | decide | (simp; done) | omega) ?_; intro w1 hB; clear hF hA; have hA := hB; clear hB; (try simp only [setL, List.set_cons_zero, List.set_cons_succ, List.cons_append, List.nil_append] at hA); (have hF := hA.facts); (try simp only [facts_cons, facts_nil, facts_cells, facts_old, facts_fact, facts_obj, facts_map, facts_iter, and_true, true_and] at hF)) | (refine wpList_box_at rfl rfl (by (try simp only [Act.eval, Array.getD_eq_getD_getElem?, List.getElem?_toArray, List.getElem?_cons_succ, List.getElem?_cons_zero, Option.getD_some]) <;> exact rfl) (by exact rfl) hA ?_; intro b1 w1 hB hb1; clear hF hA; have hA := hB; clear hB; (try simp only [setL, List.set_cons_zero, List.set_cons_succ, List.cons_append, List.nil_append] at hA); (have hF := hA.facts); (try simp only [facts_cons, facts_nil, facts_cells, facts_old, facts_fact, facts_obj, facts_map, facts_iter, and_true, true_and] at hF)))
    refine bodyPost_ret (v := .tuple #[.agg #[.slice vx vn vc], .bool true]) (by simp [results, Try.results7, go_sem, hF]) rfl ?_
    exact ⟨_, _, L, PL, rfl, hA.pick (by with_reducible repeat (first | exact Picks.nil | refine Picks.cons (by with_reducible repeat (first | exact Sel.here | apply Sel.there)) ?_)), hI'.out, by omega⟩
  · have hturn : Turned ss o.num o.foot (fun s => s.tell o.req o.ans) ss' := by
      rcases hcase'.out with ⟨q, _⟩ | ⟨_, q⟩
      · exact absurd hc q
      · exact q
    have hturn' := Lib.hid hturn
    subst hc
    have hB := hA.call2 (by with_reducible repeat (first | exact Sel.here | apply Sel.there)) (by with_reducible repeat (first | exact Sel.here | apply Sel.there)) hT
    clear hF hA hT hcase' hturn
    obtain ⟨ax4, n4, cap4, hv4, hn4⟩ := hB.row_hid .here
    subst hv4
    have hA := hB
    clear hB
    simp only [List.cons_append, List.nil_append] at hA
    have hF := hA.facts
    (try simp only [setL, List.set_cons_zero, List.set_cons_succ, List.cons_append, List.nil_append] at hA); (have hF := hA.facts); (try simp only [facts_cons, facts_nil, facts_cells, facts_old, facts_fact, facts_obj, facts_map, facts_iter, and_true, true_and] at hF)
    go_wp2_with (first | (refine wpList_store_at rfl rfl rfl (by (try simp only [Act.eval, Array.getD_eq_getD_getElem?, List.getElem?_toArray, List.getElem?_cons_succ, List.getElem?_cons_zero, Option.getD_some]) <;> exact rfl) (by exact rfl) hA (by with_reducible repeat (first | exact Sel.here | apply Sel.there)) (by kernel_rfl) rfl (by first | decide | (simp; done) | omega) ?_; intro w1 hB; clear hF hA; have hA := hB; clear hB; (try simp only [setL, List.set_cons_zero, List.set_cons_succ, List.cons_append, List.nil_append] at hA); (have hF := hA.facts); (try simp only [facts_cons, facts_nil, facts_cells, facts_old, facts_fact, facts_obj, facts_map, facts_iter, and_true, true_and] at hF)) | (refine wpList_box_at rfl rfl (by (try simp only [Act.eval, Array.getD_eq_getD_getElem?, List.getElem?_toArray, List.getElem?_cons_succ, List.getElem?_cons_zero, Option.getD_some]) <;> exact rfl) (by exact rfl) hA ?_; intro b1 w1 hB hb1; clear hF hA; have hA := hB; clear hB; (try simp only [setL, List.set_cons_zero, List.set_cons_succ, List.cons_append, List.nil_append] at hA); (have hF := hA.facts); (try simp only [facts_cons, facts_nil, facts_cells, facts_old, facts_fact, facts_obj, facts_map, facts_iter, and_true, true_and] at hF)))
    refine bodyPost_ret (v := .tuple #[.agg #[.slice ax4 n4 cap4], .bool true]) (by simp [results, Try.results7, go_sem, hF]) rfl ?_
    have hnew := hI'.out.tell (n := o.num) (f := o.foot) (x := ⟨o.req, o.ans.e, o.ans.n, o.ans.g⟩) (c := o.ans) rfl ⟨ho'.out.r0, ho'.out.r1⟩ (by rw [hs'.out]; exact hcd'.out) hturn'.out ax cap
    rw [hs'.out] at hnew
    exact ⟨ss', _, _, _, rfl, hA.pick (by with_reducible repeat (first | exact Picks.nil | refine Picks.cons (by with_reducible repeat (first | exact Sel.here | apply Sel.there)) ?_)), hnew, Nat.le_trans (put_len _) (by omega)⟩
/-- so many are told -/
def Rel7 (L0 : List Part) (w : World) (L : List SR) (p m bB bO bZ bS bA : Nat) (cO cS : List Value) (o : OpR) (N : Nat) (k : Nat) (u : Value) (wr : World) : Prop :=
  ∃ (i : Nat) (ss' : List Ses) (v' : Value) (L' : List SR) (PL' : List (Value × List AR)) (q : Int), u = .int .i64 i ∧ i + k = N ∧ At L0 w [BookP p m ss', rowR v' L', poolP PL', Part.cells bB [v'] 31, Part.cells bO cO 36, Part.cells bZ [.slice none 0 0] 31, Part.cells bS cS 44, Part.cells bA [.int .u64 q, .int .i64 o.ans.e, .int .u64 o.ans.n, .bool o.ans.g] 48] wr ∧ Inv ss' L' PL' ∧ L'.length ≤ L.length + i
set_option maxRecDepth 100000 in
set_option maxHeartbeats 4000000 in
theorem step_7 {w : World} {p m : Nat} {ss : List Ses} {v : Value} {L : List SR} {PL : List (Value × List AR)} (h : Sep [BookP p m ss, rowR v L, poolP PL] w) (hI : Inv ss L PL) (o : OpR) (ho : o.Ok) (hmax : L.length ≤ 100000) :
    Calls Try.prog 7 #[.pointer (some ⟨p, 0, none⟩), .agg #[v], opV 7 o] w (StepOut w p m ss v L PL) := by
  have hA := At.start h
  have hF := hA.facts
  clear h
  obtain ⟨vx, vn, vc, hv, hvn⟩ := hA.row_hid (v := v) (n := L.length) (xs := flatR L) (by with_reducible repeat (first | exact Sel.here | apply Sel.there))
  subst hv
  have hss : ss.length ≤ 100000 := by rw [hI.rel.len]; exact hmax
  obtain ⟨s, hs⟩ : ∃ s, findR L o.num o.foot = s := ⟨_, rfl⟩
  have hs' := Lib.hid hs
  have hrs : RelS (look ss o.num o.foot) s := by rw [← hs]; exact hI.rel.look _ _
  have hpool : (s.tv, s.told) ∈ PL := by rw [← hs]; exact hI.found _ _
  have hsk : s.num = o.num ∧ s.foot = o.foot := by rw [← hs]; exact findR_key
  have hrs' := Lib.hid hrs
  have hpool' := Lib.hid hpool
  have hsk' := Lib.hid hsk
  have hI' := Lib.hid hI
  have ho' := Lib.hid ho
  clear hs hrs hpool hsk hI ho
  obtain ⟨N, hN⟩ : ∃ N : Nat, max (min o.many 300) 0 = (N : Int) := ⟨(max (min o.many 300) 0).toNat, by omega⟩
  have hN300 : N ≤ 300 := by omega
  unfold opV
  go_enter Try.func7, Try.ntmps7
  go_wp2_with (first | (refine wpList_box_at (E := 31) rfl rfl (by (try simp only [Act.eval, Array.getD_eq_getD_getElem?, List.getElem?_toArray, List.getElem?_cons_succ, List.getElem?_cons_zero, Option.getD_some]) <;> exact rfl) (by exact rfl) hA ?_; intro bB w1 hB hbB; clear hF hA; have hA := hB; clear hB; (try simp only [setL, List.set_cons_zero, List.set_cons_succ, List.cons_append, List.nil_append] at hA); (have hF := hA.facts); (try simp only [facts_cons, facts_nil, facts_cells, facts_old, facts_fact, facts_obj, facts_map, facts_iter, and_true, true_and] at hF)) | (refine wpList_box_at (E := 36) rfl rfl (by (try simp only [Act.eval, Array.getD_eq_getD_getElem?, List.getElem?_toArray, List.getElem?_cons_succ, List.getElem?_cons_zero, Option.getD_some]) <;> exact rfl) (by exact rfl) hA ?_; intro bO w1 hB hbO; clear hF hA; have hA := hB; clear hB; (try simp only [setL, List.set_cons_zero, List.set_cons_succ, List.cons_append, List.nil_append] at hA); (have hF := hA.facts); (try simp only [facts_cons, facts_nil, facts_cells, facts_old, facts_fact, facts_obj, facts_map, facts_iter, and_true, true_and] at hF)) | (refine wpList_alloc_at (E := 31) (z := .agg #[.slice none 0 0]) (vs := [.slice none 0 0]) rfl rfl (by kernel_rfl) rfl hA ?_; intro bZ w1 hB hbZ; clear hF hA; have hA := hB; clear hB; (try simp only [setL, List.set_cons_zero, List.set_cons_succ, List.cons_append, List.nil_append] at hA); (have hF := hA.facts); (try simp only [facts_cons, facts_nil, facts_cells, facts_old, facts_fact, facts_obj, facts_map, facts_iter, and_true, true_and] at hF)) | (refine wpList_store_at rfl rfl rfl (by (try simp only [Act.eval, Array.getD_eq_getD_getElem?, List.getElem?_toArray, List.getElem?_cons_succ, List.getElem?_cons_zero, Option.getD_some]) <;> exact rfl) (by exact rfl) hA (by with_reducible repeat (first | exact Sel.here | apply Sel.there)) (by kernel_rfl) rfl (by first | decide | (simp; done) | omega) ?_; intro w1 hB; clear hF hA; have hA := hB; clear hB; (try simp only [setL, List.set_cons_zero, List.set_cons_succ, List.cons_append, List.nil_append] at hA); (have hF := hA.facts); (try simp only [facts_cons, facts_nil, facts_cells, facts_old, facts_fact, facts_obj, facts_map, facts_iter, and_true, true_and] at hF)) | (refine wpList_box_at rfl rfl (by (try simp only [Act.eval, Array.getD_eq_getD_getElem?, List.getElem?_toArray, List.getElem?_cons_succ, List.getElem?_cons_zero, Option.getD_some]) <;> exact rfl) (by exact rfl) hA ?_; intro b1 w1 hB hb1; clear hF hA; have hA := hB; clear hB; (try simp only [setL, List.set_cons_zero, List.set_cons_succ, List.cons_append, List.nil_append] at hA); (have hF := hA.facts); (try simp only [facts_cons, facts_nil, facts_cells, facts_old, facts_fact, facts_obj, facts_map, facts_iter, and_true, true_and] at hF)))
  refine (findR_any (hA.sep1 (by with_reducible repeat (first | exact Sel.here | apply Sel.there))) o.num o.foot (by omega)).mono ?_
  rw [hs'.out]
  rintro e w1 ⟨rfl, hT⟩; have hB := hA.call1 (by with_reducible repeat (first | exact Sel.here | apply Sel.there)) hT; clear hF hA hT; have hA := hB; clear hB; (try simp only [setL, List.set_cons_zero, List.set_cons_succ, List.cons_append, List.nil_append] at hA); (have hF := hA.facts); (try simp only [facts_cons, facts_nil, facts_cells, facts_old, facts_fact, facts_obj, facts_map, facts_iter, and_true, true_and] at hF)
  go_wp2_with (first | (refine wpList_alloc_at (E := 44) (z := .agg #[.int .u64 0, .string .empty, .bool false, .bool false, .int .i64 0, .int .i64 0, .slice none 0 0]) (vs := [.int .u64 0, .string .empty, .bool false, .bool false, .int .i64 0, .int .i64 0, .slice none 0 0]) rfl rfl (by kernel_rfl) rfl hA ?_; intro bS w1 hB hbS; clear hF hA; have hA := hB; clear hB; (try simp only [setL, List.set_cons_zero, List.set_cons_succ, List.cons_append, List.nil_append] at hA); (have hF := hA.facts); (try simp only [facts_cons, facts_nil, facts_cells, facts_old, facts_fact, facts_obj, facts_map, facts_iter, and_true, true_and] at hF)) | (refine wpList_alloc_at (E := 48) (z := .agg #[.int .u64 0, .int .i64 0, .int .u64 0, .bool false]) (vs := [.int .u64 0, .int .i64 0, .int .u64 0, .bool false]) rfl rfl (by kernel_rfl) rfl hA ?_; intro bA w1 hB hbA; clear hF hA; have hA := hB; clear hB; (try simp only [setL, List.set_cons_zero, List.set_cons_succ, List.cons_append, List.nil_append] at hA); (have hF := hA.facts); (try simp only [facts_cons, facts_nil, facts_cells, facts_old, facts_fact, facts_obj, facts_map, facts_iter, and_true, true_and] at hF)) | (refine wpList_store_at (b := bS) (j := 0) (vs := SR.cells s) rfl rfl rfl (by (try simp only [Act.eval, Array.getD_eq_getD_getElem?, List.getElem?_toArray, List.getElem?_cons_succ, List.getElem?_cons_zero, Option.getD_some]) <;> exact rfl) (by exact rfl) hA (by with_reducible repeat (first | exact Sel.here | apply Sel.there)) (by kernel_rfl) (SR.ones _) (by show 0 + 7 ≤ 7; omega) ?_; intro w1 hB; clear hF hA; have hA := hB; clear hB; simp only [SR.cells] at hA; (try simp only [setL, List.set_cons_zero, List.set_cons_succ, List.cons_append, List.nil_append] at hA); (have hF := hA.facts); (try simp only [facts_cons, facts_nil, facts_cells, facts_old, facts_fact, facts_obj, facts_map, facts_iter, and_true, true_and] at hF)) | (refine wpList_store_at rfl rfl rfl (by (try simp only [Act.eval, Array.getD_eq_getD_getElem?, List.getElem?_toArray, List.getElem?_cons_succ, List.getElem?_cons_zero, Option.getD_some]) <;> exact rfl) (by exact rfl) hA (by with_reducible repeat (first | exact Sel.here | apply Sel.there)) (by kernel_rfl) rfl (by first | decide | (simp; done) | omega) ?_; intro w1 hB; clear hF hA; have hA := hB; clear hB; (try simp only [setL, List.set_cons_zero, List.set_cons_succ, List.cons_append, List.nil_append] at hA); (have hF := hA.facts); (try simp only [facts_cons, facts_nil, facts_cells, facts_old, facts_fact, facts_obj, facts_map, facts_iter, and_true, true_and] at hF)) | (refine wpList_box_at rfl rfl (by (try simp only [Act.eval, Array.getD_eq_getD_getElem?, List.getElem?_toArray, List.getElem?_cons_succ, List.getElem?_cons_zero, Option.getD_some]) <;> exact rfl) (by exact rfl) hA ?_; intro b1 w1 hB hb1; clear hF hA; have hA := hB; clear hB; (try simp only [setL, List.set_cons_zero, List.set_cons_succ, List.cons_append, List.nil_append] at hA); (have hF := hA.facts); (try simp only [facts_cons, facts_nil, facts_cells, facts_old, facts_fact, facts_obj, facts_map, facts_iter, and_true, true_and] at hF)))
  try go_frame
  go_loopg [156] N (Rel7 [BookP p m ss, rowR (.slice vx vn vc) L, poolP PL] w L p m bB bO bZ bS bA _ _ o N)
  case atStart => exact ⟨0, ss, _, L, PL, _, by simp, by simp, hA.pick (by repeat (first | exact Picks.nil | refine Picks.cons (by repeat (first | exact Sel.here | apply Sel.there)) ?_)), hI'.out, by omega⟩
  case round =>
    obtain ⟨i, ss1, v1, L1, PL1, q, rfl, hik, hB, hI1, hL1⟩ := hrel
    have hI1' := Lib.hid hI1
    clear hF hA hI1
    have hA := hB
    clear hB
    have hF := hA.facts
    (try simp only [setL, List.set_cons_zero, List.set_cons_succ, List.cons_append, List.nil_append] at hA); (have hF := hA.facts); (try simp only [facts_cons, facts_nil, facts_cells, facts_old, facts_fact, facts_obj, facts_map, facts_iter, and_true, true_and] at hF)
    obtain ⟨vx1, vn1, vc1, hv1, hvn1⟩ := hA.row_hid (v := v1) (n := L1.length) (xs := flatR L1) (by with_reducible repeat (first | exact Sel.here | apply Sel.there))
    subst hv1
    by_cases hi : i < N
    · obtain ⟨s1, hs1⟩ : ∃ s1, findR L1 o.num o.foot = s1 := ⟨_, rfl⟩
      have hs1' := Lib.hid hs1
      have hrs1 := Lib.hid (show RelS (look ss1 o.num o.foot) s1 by rw [← hs1]; exact hI1'.out.rel.look _ _)
      have hpool1 := Lib.hid (show (s1.tv, s1.told) ∈ PL1 by rw [← hs1]; exact hI1'.out.found _ _)
      clear hs1
      have hwr : IntKind.u64.wrap (i : Int) = (i : Int) := by rw [IntKind.wrap_u64]; omega
      go_wp2_with (first | (refine wpList_store_at rfl rfl rfl (by (try simp only [Act.eval, Array.getD_eq_getD_getElem?, List.getElem?_toArray, List.getElem?_cons_succ, List.getElem?_cons_zero, Option.getD_some]) <;> exact rfl) (by exact rfl) hA (by with_reducible repeat (first | exact Sel.here | apply Sel.there)) (by kernel_rfl) rfl (by first | decide | (simp; done) | omega) ?_; intro w1 hB; clear hF hA; have hA := hB; clear hB; (try simp only [setL, List.set_cons_zero, List.set_cons_succ, List.cons_append, List.nil_append] at hA); (have hF := hA.facts); (try simp only [facts_cons, facts_nil, facts_cells, facts_old, facts_fact, facts_obj, facts_map, facts_iter, and_true, true_and] at hF)) | (refine wpList_box_at rfl rfl (by (try simp only [Act.eval, Array.getD_eq_getD_getElem?, List.getElem?_toArray, List.getElem?_cons_succ, List.getElem?_cons_zero, Option.getD_some]) <;> exact rfl) (by exact rfl) hA ?_; intro b1 w1 hB hb1; clear hF hA; have hA := hB; clear hB; (try simp only [setL, List.set_cons_zero, List.set_cons_succ, List.cons_append, List.nil_append] at hA); (have hF := hA.facts); (try simp only [facts_cons, facts_nil, facts_cells, facts_old, facts_fact, facts_obj, facts_map, facts_iter, and_true, true_and] at hF)))
      refine (book_tell (hA.sep1 (by with_reducible repeat (first | exact Sel.here | apply Sel.there))) ho'.out.n0 ho'.out.n1 ho'.out.f (r := (i : Int)) (by omega) (by unfold big64; omega) o.ans).mono ?_
      rw [hrs1.out.tellE (i : Int)]
      generalize hcd : (if (saidA s1.told (i : Int)).isSome = true then (1 : Int) else if 256 ≤ s1.told.length then 1 else 0) = c at *
      have hcd' := Lib.hid hcd
      clear hcd
      rintro e w1 ⟨ss', rfl, hT, hcase⟩
      have hcase' := Lib.hid hcase
      have hB := hA.call1 (by with_reducible repeat (first | exact Sel.here | apply Sel.there)) hT
      clear hF hA hT hcase
      have hA := hB
      clear hB
      simp only [List.cons_append, List.nil_append] at hA
      have hF := hA.facts
      (try simp only [setL, List.set_cons_zero, List.set_cons_succ, List.cons_append, List.nil_append] at hA); (have hF := hA.facts); (try simp only [facts_cons, facts_nil, facts_cells, facts_old, facts_fact, facts_obj, facts_map, facts_iter, and_true, true_and] at hF)
      go_wp2_with (first | (refine wpList_store_at rfl rfl rfl (by (try simp only [Act.eval, Array.getD_eq_getD_getElem?, List.getElem?_toArray, List.getElem?_cons_succ, List.getElem?_cons_zero, Option.getD_some]) <;> exact rfl) (by exact rfl) hA (by with_reducible repeat (first | exact Sel.here | apply Sel.there)) (by kernel_rfl) rfl (by first | decide | (simp; done) | omega) ?_; intro w1 hB; clear hF hA; have hA := hB; clear hB; (try simp only [setL, List.set_cons_zero, List.set_cons_succ, List.cons_append, List.nil_append] at hA); (have hF := hA.facts); (try simp only [facts_cons, facts_nil, facts_cells, facts_old, facts_fact, facts_obj, facts_map, facts_iter, and_true, true_and] at hF)) | (refine wpList_box_at rfl rfl (by (try simp only [Act.eval, Array.getD_eq_getD_getElem?, List.getElem?_toArray, List.getElem?_cons_succ, List.getElem?_cons_zero, Option.getD_some]) <;> exact rfl) (by exact rfl) hA ?_; intro b1 w1 hB hb1; clear hF hA; have hA := hB; clear hB; (try simp only [setL, List.set_cons_zero, List.set_cons_succ, List.cons_append, List.nil_append] at hA); (have hF := hA.facts); (try simp only [facts_cons, facts_nil, facts_cells, facts_old, facts_fact, facts_obj, facts_map, facts_iter, and_true, true_and] at hF)))
      try go_frame
      (refine wp_region_head 10 (Cl _ _ _) (by kernel_rfl) (by kernel_rfl) (Cl.drew hA) ?_); (simp only [List.take_succ_cons, List.take_zero, List.drop_succ_cons, List.drop_zero]); (have hn1 := Cl.none hA); (have hn2 := Cl.none2 hA); (repeat (first | go_big_quiet_skip | (go_big_quiet_want; (first | (refine quiet_loads_at (ty := 31) (n := 1) rfl rfl (by with_reducible repeat (first | exact Sel.here | apply Sel.there)) (by kernel_rfl) (by kernel_rfl) (by first | assumption | ((try simp only [List.drop_succ_cons, List.drop_zero, List.take_succ_cons, List.take_zero]) <;> exact rfl)) (by exact rfl) ?_; go_frame; go_big_quiet_on) | (refine quiet_loads_at (ty := 48) (n := 4) rfl rfl (by with_reducible repeat (first | exact Sel.here | apply Sel.there)) (by kernel_rfl) (by kernel_rfl) (by first | assumption | ((try simp only [List.drop_succ_cons, List.drop_zero, List.take_succ_cons, List.take_zero]) <;> exact rfl)) (by exact rfl) ?_; go_frame; go_big_quiet_on) | (refine quiet_load_at rfl rfl (by with_reducible repeat (first | exact Sel.here | apply Sel.there)) (by kernel_rfl) (by first | assumption | exact rfl) ?_; go_frame; go_big_quiet_on) | (go_big_quiet_op; (first | go_big_quiet_on | ((apply Exists.intro); (refine ⟨fun w1 hw => ?_, ?_⟩); (focus ((have hw := Cl.out hw); (exact through1 hw (A := rowR (.slice vx1 vn1 vc1) L1) (by with_reducible repeat (first | exact Sel.here | apply Sel.there)) (fun q => findR_any q o.num o.foot (by omega))))); (go_big_quiet_on))))))))
      (refine wpQuiet_nil ?_); (intro w1 hB); (clear hF hA hn1 hn2); (have hA := Cl.out hB); (clear hB); (try simp only [setL, List.set_cons_zero, List.set_cons_succ, List.cons_append, List.nil_append] at hA); (have hF := hA.facts); (try simp only [facts_cons, facts_nil, facts_cells, facts_old, facts_fact, facts_obj, facts_map, facts_iter, and_true, true_and] at hF)
      rw [hs1'.out]
      go_wp2_with fail
      refine (doc_tell (hA.seps (by with_reducible repeat (first | exact Picks.nil | refine Picks.cons (by with_reducible repeat (first | exact Sel.here | apply Sel.there)) ?_))) hpool1.out ⟨i, o.ans.e, o.ans.n, o.ans.g⟩ (by omega) hrs1.out.told.len (code := c) hcd'.out.symm).mono ?_
      rintro e w1 (⟨hc, rfl, hT⟩ | ⟨hc, v', ax, cap, rfl, hT⟩)
      · have hss' : ss' = ss1 := by
          rcases hcase'.out with ⟨_, q⟩ | ⟨q, _⟩
          · exact q
          · exact absurd q hc
        subst hss'
        have hB := hA.call2 (by with_reducible repeat (first | exact Sel.here | apply Sel.there)) (by with_reducible repeat (first | exact Sel.here | apply Sel.there)) hT
        clear hF hA hT hcase'
        have hc' := Lib.hid hc
        clear hc
        have hA := hB
        clear hB
        simp only [List.cons_append, List.nil_append] at hA
        have hF := hA.facts
        (try simp only [setL, List.set_cons_zero, List.set_cons_succ, List.cons_append, List.nil_append] at hA); (have hF := hA.facts); (try simp only [facts_cons, facts_nil, facts_cells, facts_old, facts_fact, facts_obj, facts_map, facts_iter, and_true, true_and] at hF)
        go_wp2_with (first | (refine wpList_store_at rfl rfl rfl (by (try simp only [Act.eval, Array.getD_eq_getD_getElem?, List.getElem?_toArray, List.getElem?_cons_succ, List.getElem?_cons_zero, Option.getD_some]) <;> exact rfl) (by exact rfl) hA (by with_reducible repeat (first | exact Sel.here | apply Sel.there)) (by kernel_rfl) rfl (by first | decide | (simp; done) | omega) ?_; intro w1 hB; clear hF hA; have hA := hB; clear hB; (try simp only [setL, List.set_cons_zero, List.set_cons_succ, List.cons_append, List.nil_append] at hA); (have hF := hA.facts); (try simp only [facts_cons, facts_nil, facts_cells, facts_old, facts_fact, facts_obj, facts_map, facts_iter, and_true, true_and] at hF)) | (refine wpList_box_at rfl rfl (by (try simp only [Act.eval, Array.getD_eq_getD_getElem?, List.getElem?_toArray, List.getElem?_cons_succ, List.getElem?_cons_zero, Option.getD_some]) <;> exact rfl) (by exact rfl) hA ?_; intro b1 w1 hB hb1; clear hF hA; have hA := hB; clear hB; (try simp only [setL, List.set_cons_zero, List.set_cons_succ, List.cons_append, List.nil_append] at hA); (have hF := hA.facts); (try simp only [facts_cons, facts_nil, facts_cells, facts_old, facts_fact, facts_obj, facts_map, facts_iter, and_true, true_and] at hF)))
        go_roundg (gk - 1)
        case measure => omega
        case rel => exact ⟨i + 1, _, _, L1, PL1, _, by simp, by omega, hA.pick (by with_reducible repeat (first | exact Picks.nil | refine Picks.cons (by with_reducible repeat (first | exact Sel.here | apply Sel.there)) ?_)), hI1'.out, by omega⟩
      · have hturn : Turned ss1 o.num o.foot (fun s => s.tell i o.ans) ss' := by
          rcases hcase'.out with ⟨q, _⟩ | ⟨_, q⟩
          · exact absurd hc q
          · exact q
        have hturn' := Lib.hid hturn
        subst hc
        have hB := hA.call2 (by with_reducible repeat (first | exact Sel.here | apply Sel.there)) (by with_reducible repeat (first | exact Sel.here | apply Sel.there)) hT
        clear hF hA hT hcase' hturn
        obtain ⟨ax4, n4, cap4, hv4, hn4⟩ := hB.row_hid .here
        subst hv4
        have hA := hB
        clear hB
        simp only [List.cons_append, List.nil_append] at hA
        have hF := hA.facts
        (try simp only [setL, List.set_cons_zero, List.set_cons_succ, List.cons_append, List.nil_append] at hA); (have hF := hA.facts); (try simp only [facts_cons, facts_nil, facts_cells, facts_old, facts_fact, facts_obj, facts_map, facts_iter, and_true, true_and] at hF)
        have hnew := hI1'.out.tell (n := o.num) (f := o.foot) (x := ⟨i, o.ans.e, o.ans.n, o.ans.g⟩) (c := o.ans) rfl ⟨by show (0 : Int) ≤ i; omega, by show (i : Int) < big64; unfold big64; omega⟩ (by rw [hs1'.out]; exact hcd'.out) hturn'.out ax cap
        rw [hs1'.out] at hnew
        have hnew' := Lib.hid hnew
        clear hnew
        go_wp2_with (first | (refine wpList_store_at rfl rfl rfl (by (try simp only [Act.eval, Array.getD_eq_getD_getElem?, List.getElem?_toArray, List.getElem?_cons_succ, List.getElem?_cons_zero, Option.getD_some]) <;> exact rfl) (by exact rfl) hA (by with_reducible repeat (first | exact Sel.here | apply Sel.there)) (by kernel_rfl) rfl (by first | decide | (simp; done) | omega) ?_; intro w1 hB; clear hF hA; have hA := hB; clear hB; (try simp only [setL, List.set_cons_zero, List.set_cons_succ, List.cons_append, List.nil_append] at hA); (have hF := hA.facts); (try simp only [facts_cons, facts_nil, facts_cells, facts_old, facts_fact, facts_obj, facts_map, facts_iter, and_true, true_and] at hF)) | (refine wpList_box_at rfl rfl (by (try simp only [Act.eval, Array.getD_eq_getD_getElem?, List.getElem?_toArray, List.getElem?_cons_succ, List.getElem?_cons_zero, Option.getD_some]) <;> exact rfl) (by exact rfl) hA ?_; intro b1 w1 hB hb1; clear hF hA; have hA := hB; clear hB; (try simp only [setL, List.set_cons_zero, List.set_cons_succ, List.cons_append, List.nil_append] at hA); (have hF := hA.facts); (try simp only [facts_cons, facts_nil, facts_cells, facts_old, facts_fact, facts_obj, facts_map, facts_iter, and_true, true_and] at hF)))
        go_roundg (gk - 1)
        case measure => omega
        case rel => exact ⟨i + 1, _, _, _, _, _, by simp, by omega, hA.pick (by with_reducible repeat (first | exact Picks.nil | refine Picks.cons (by with_reducible repeat (first | exact Sel.here | apply Sel.there)) ?_)), hnew'.out, Nat.le_trans (put_len _) (by omega)⟩
    · go_wp2_with (first | (refine wpList_store_at rfl rfl rfl (by (try simp only [Act.eval, Array.getD_eq_getD_getElem?, List.getElem?_toArray, List.getElem?_cons_succ, List.getElem?_cons_zero, Option.getD_some]) <;> exact rfl) (by exact rfl) hA (by with_reducible repeat (first | exact Sel.here | apply Sel.there)) (by kernel_rfl) rfl (by first | decide | (simp; done) | omega) ?_; intro w1 hB; clear hF hA; have hA := hB; clear hB; (try simp only [setL, List.set_cons_zero, List.set_cons_succ, List.cons_append, List.nil_append] at hA); (have hF := hA.facts); (try simp only [facts_cons, facts_nil, facts_cells, facts_old, facts_fact, facts_obj, facts_map, facts_iter, and_true, true_and] at hF)) | (refine wpList_box_at rfl rfl (by (try simp only [Act.eval, Array.getD_eq_getD_getElem?, List.getElem?_toArray, List.getElem?_cons_succ, List.getElem?_cons_zero, Option.getD_some]) <;> exact rfl) (by exact rfl) hA ?_; intro b1 w1 hB hb1; clear hF hA; have hA := hB; clear hB; (try simp only [setL, List.set_cons_zero, List.set_cons_succ, List.cons_append, List.nil_append] at hA); (have hF := hA.facts); (try simp only [facts_cons, facts_nil, facts_cells, facts_old, facts_fact, facts_obj, facts_map, facts_iter, and_true, true_and] at hF)))
      refine bodyPost_ret (v := .tuple #[.agg #[.slice vx1 vn1 vc1], .bool true]) (by simp [results, Try.results7, go_sem, hF]) rfl ?_
      exact ⟨_, _, L1, PL1, rfl, hA.pick (by with_reducible repeat (first | exact Picks.nil | refine Picks.cons (by with_reducible repeat (first | exact Sel.here | apply Sel.there)) ?_)), hI1'.out, by omega⟩
end Go.Proofs.Ytbdcgadcjgmgbaa.Lease
