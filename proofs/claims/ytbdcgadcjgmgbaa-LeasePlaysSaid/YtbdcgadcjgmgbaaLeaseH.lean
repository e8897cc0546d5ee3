/- LeasePlays: the law's step, kinds 1 to 5 and none (printed by gen/leaseh.py). -/
import Derived.Test.YtbdcgadcjgmgbaaLeaseG
namespace Go.Proofs.Ytbdcgadcjgmgbaa.Lease
open Go.RowKit
set_option linter.unusedSimpArgs false
set_option linter.unusedVariables false

/-- the answers' rows: many, none of which is written any more -/
def poolL (PL : List (Value × List AR)) : List Part := PL.map fun q => rowA q.1 q.2
def poolP (PL : List (Value × List AR)) : Part := Part.all (poolL PL)
theorem eqvP (p1 p2 : List (Value × List AR)) (q : Value × List AR) (F : List Part) : Eqv (poolP (p1 ++ q :: p2) :: F) (rowA q.1 q.2 :: poolP (p1 ++ p2) :: F) := by
  refine (Eqv.all _ F).trans ?_
  have e1 : (poolL (p1 ++ q :: p2) ++ F).Perm (rowA q.1 q.2 :: (poolL (p1 ++ p2) ++ F)) := by
    simp only [poolL, List.map_append, List.map_cons, List.append_assoc, List.cons_append]
    exact List.perm_middle
  exact (Eqv.perm e1).trans (((Eqv.all (poolL (p1 ++ p2)) F).symm).cons _)
theorem eqvP1 (PL : List (Value × List AR)) (q : Value × List AR) (F : List Part) : Eqv (poolP (q :: PL) :: F) (rowA q.1 q.2 :: poolP PL :: F) := eqvP [] PL q F
structure Inv (ss : List Ses) (L : List SR) (PL : List (Value × List AR)) : Prop where
  rel : Rel ss L
  pool : ∀ a ∈ L, (a.tv, a.told) ∈ PL
  nil : ((.slice none 0 0 : Value), ([] : List AR)) ∈ PL
theorem findR_mem {L : List SR} {n : Int} {f : ByteArray} : findR L n f ∈ L ∨ findR L n f = noSR n f := by
  unfold findR
  cases h : L.find? (SR.is n f) with
  | none => exact .inr rfl
  | some a => exact .inl (List.mem_of_find?_eq_some h)
theorem findR_key {L : List SR} {n : Int} {f : ByteArray} : (findR L n f).num = n ∧ (findR L n f).foot = f := by
  unfold findR
  cases h : L.find? (SR.is n f) with
  | none => exact ⟨rfl, rfl⟩
  | some a =>
    have := is_iff.1 (List.find?_some h)
    exact ⟨congrArg Prod.fst this, congrArg Prod.snd this⟩
theorem Inv.found {ss : List Ses} {L : List SR} {PL : List (Value × List AR)} (h : Inv ss L PL) (n : Int) (f : ByteArray) : ((findR L n f).tv, (findR L n f).told) ∈ PL := by
  rcases findR_mem (L := L) (n := n) (f := f) with q | q
  · exact h.pool _ q
  · rw [q]; exact h.nil
theorem Inv.put {ss ss' : List Ses} {L : List SR} {PL PL' : List (Value × List AR)} (h : Inv ss L PL) {a' : SR} (hr : Rel ss' (putR L a')) (hs : ∀ q ∈ PL, q ∈ PL') (ha : (a'.tv, a'.told) ∈ PL') : Inv ss' (putR L a') PL' := by
  refine ⟨hr, fun a hm => ?_, hs _ h.nil⟩
  rcases ((mem_put h.rel.srt a').2 a).1 hm with rfl | ⟨hm, _⟩
  · exact ha
  · exact hs _ (h.pool a hm)
/-- Tell, the pool beside it -/
def DocTell (w : World) (v : Value) (L : List SR) (PL : List (Value × List AR)) (s : SR) (x : AR) (code : Int) (e : Ending) (w' : World) : Prop :=
  (code ≠ 0 ∧ e = .returned (.agg #[v]) ∧ At [rowR v L, poolP PL] w [rowR v L, poolP PL] w') ∨
  (code = 0 ∧ ∃ v' ax cap, e = .returned (.agg #[v']) ∧ At [rowR v L, poolP PL] w [rowR v' (putR L { s with ax := ax, cap := cap, told := insA s.told x }), poolP ((SR.tv { s with ax := ax, cap := cap, told := insA s.told x }, insA s.told x) :: PL)] w')
theorem doc_tell {w : World} {v : Value} {L : List SR} {PL : List (Value × List AR)} {s : SR} (h : Sep [rowR v L, poolP PL] w) (hs : (s.tv, s.told) ∈ PL) (x : AR) (hmax : L.length ≤ 1000000) (hl : s.told.length ≤ 256) {code : Int} (hc : code = if (saidA s.told x.r).isSome then 1 else if 256 ≤ s.told.length then 1 else 0) :
    Calls Try.prog 28 #[.agg #[v], .agg s.cells.toArray, .agg x.cells.toArray] w (DocTell w v L PL s x code) := by
  obtain ⟨p1, p2, rfl⟩ := List.append_of_mem hs
  have hA := (At.start h).pick (K := [poolP (p1 ++ (s.tv, s.told) :: p2), rowR v L]) (by with_reducible repeat (first | exact Picks.nil | refine Picks.cons (by with_reducible repeat (first | exact Sel.here | apply Sel.there)) ?_))
  have hB := hA.to (eqvP p1 p2 (s.tv, s.told) [rowR v L])
  clear hA
  have back : ∀ {L1 : List SR} {v1 : Value} {w1 : World}, At [rowR v L, poolP (p1 ++ (s.tv, s.told) :: p2)] w [rowA s.tv s.told, poolP (p1 ++ p2), rowR v1 L1] w1 → At [rowR v L, poolP (p1 ++ (s.tv, s.told) :: p2)] w [rowR v1 L1, poolP (p1 ++ (s.tv, s.told) :: p2)] w1 := fun hX => (hX.to (eqvP p1 p2 (s.tv, s.told) [rowR _ _]).symm).pick (by with_reducible repeat (first | exact Picks.nil | refine Picks.cons (by with_reducible repeat (first | exact Sel.here | apply Sel.there)) ?_))
  by_cases hno : saidA s.told x.r = none ∧ s.told.length < 256
  · have hc0 : code = 0 := by rw [hc, hno.1, if_neg (by simp), if_neg (by omega)]
    refine (tellR_yes (hB.seps (by with_reducible repeat (first | exact Picks.nil | refine Picks.cons (by with_reducible repeat (first | exact Sel.here | apply Sel.there)) ?_))) x hmax hno.1 hno.2).mono ?_
    rintro e w1 ⟨v', ax, cap, rfl, hT⟩
    have hC := hB.call2 (by with_reducible repeat (first | exact Sel.here | apply Sel.there)) (by with_reducible repeat (first | exact Sel.here | apply Sel.there)) hT
    simp only [List.cons_append, List.nil_append] at hC
    refine .inr ⟨hc0, v', ax, cap, rfl, ?_⟩
    have hD := back (hC.pick (K := [rowA s.tv s.told, poolP (p1 ++ p2), rowR _ _]) (by with_reducible repeat (first | exact Picks.nil | refine Picks.cons (by with_reducible repeat (first | exact Sel.here | apply Sel.there)) ?_)))
    have hE := hC.pick (K := [rowA s.tv s.told, poolP (p1 ++ p2), rowA (SR.tv { s with ax := ax, cap := cap, told := insA s.told x }) (insA s.told x), rowR v' (putR L { s with ax := ax, cap := cap, told := insA s.told x })]) (by repeat (first | exact Picks.nil | refine Picks.cons (by repeat (first | exact Sel.here | apply Sel.there)) ?_))
    have hG := (hE.to (eqvP p1 p2 (s.tv, s.told) [rowA _ _, rowR _ _]).symm).pick (K := [rowA (SR.tv { s with ax := ax, cap := cap, told := insA s.told x }) (insA s.told x), poolP (p1 ++ (s.tv, s.told) :: p2), rowR v' (putR L { s with ax := ax, cap := cap, told := insA s.told x })]) (by repeat (first | exact Picks.nil | refine Picks.cons (by repeat (first | exact Sel.here | apply Sel.there)) ?_))
    exact (hG.to (eqvP1 (p1 ++ (s.tv, s.told) :: p2) (SR.tv { s with ax := ax, cap := cap, told := insA s.told x }, insA s.told x) [rowR _ _]).symm).pick (by repeat (first | exact Picks.nil | refine Picks.cons (by repeat (first | exact Sel.here | apply Sel.there)) ?_))
  · have hc1 : code ≠ 0 := by
      rw [hc]
      cases hs : saidA s.told x.r with
      | some a => simp
      | none => rw [if_neg (by simp), if_pos (by have : ¬ s.told.length < 256 := fun q => hno ⟨hs, q⟩; omega)]; simp
    refine (tellR_no (hB.seps (by with_reducible repeat (first | exact Picks.nil | refine Picks.cons (by with_reducible repeat (first | exact Sel.here | apply Sel.there)) ?_))) x (by omega) (by
      cases hs : saidA s.told x.r with
      | some a => exact .inl rfl
      | none => exact .inr (by have : ¬ s.told.length < 256 := fun q => hno ⟨hs, q⟩; omega))).mono ?_
    rintro e w1 ⟨rfl, hT⟩
    have hC := hB.call2 (by with_reducible repeat (first | exact Sel.here | apply Sel.there)) (by with_reducible repeat (first | exact Sel.here | apply Sel.there)) hT
    simp only [List.cons_append, List.nil_append] at hC
    exact .inl ⟨hc1, rfl, back (hC.pick (by with_reducible repeat (first | exact Picks.nil | refine Picks.cons (by with_reducible repeat (first | exact Sel.here | apply Sel.there)) ?_)))⟩

/-- a step, as data -/
structure OpR where
  a : Int
  b : Int
  many : Int
  num : Int
  foot : ByteArray
  req : Int
  ans : Ans
def opV (k : Int) (o : OpR) : Value := .agg #[.int .i64 k, .int .i64 o.a, .int .i64 o.b, .int .i64 o.many, .int .u64 o.num, .string o.foot, .int .u64 o.req, .int .i64 o.ans.e, .int .u64 o.ans.n, .bool o.ans.g]
structure OpR.Ok (o : OpR) : Prop where
  n0 : 0 ≤ o.num
  n1 : o.num < big64
  f : o.foot.size ≤ maxLen
  r0 : 0 ≤ o.req
  r1 : o.req < big64
def StepOut (w : World) (p m : Nat) (ss : List Ses) (v : Value) (L : List SR) (PL : List (Value × List AR)) (e : Ending) (w' : World) : Prop :=
  ∃ ss' v' L' PL', e = .returned (.tuple #[.agg #[v'], .bool true]) ∧ At [BookP p m ss, rowR v L, poolP PL] w [BookP p m ss', rowR v' L', poolP PL'] w' ∧ Inv ss' L' PL' ∧ L'.length ≤ L.length + 300
set_option maxRecDepth 100000 in
set_option maxHeartbeats 4000000 in
theorem step_none {w : World} {p m : Nat} {ss : List Ses} {v : Value} {L : List SR} {PL : List (Value × List AR)} (h : Sep [BookP p m ss, rowR v L, poolP PL] w) (hI : Inv ss L PL) (o : OpR) (ho : o.Ok) (hmax : L.length ≤ 100000) (k : Int) (h1 : k ≠ 1) (h2 : k ≠ 2) (h3 : k ≠ 3) (h4 : k ≠ 4) (h5 : k ≠ 5) (h6 : k ≠ 6) (h7 : k ≠ 7) :
    Calls Try.prog 7 #[.pointer (some ⟨p, 0, none⟩), .agg #[v], opV k o] w (StepOut w p m ss v L PL) := by
  have g1 : (k == 1) = false := by simpa using h1
  have g2 : (k == 2) = false := by simpa using h2
  have g3 : (k == 3) = false := by simpa using h3
  have g4 : (k == 4) = false := by simpa using h4
  have g5 : (k == 5) = false := by simpa using h5
  have g6 : (k == 6) = false := by simpa using h6
  have g7 : (k == 7) = false := by simpa using h7
  have hA := At.start h
  have hF := hA.facts
  clear h
  obtain ⟨vx, vn, vc, hv, hvn⟩ := hA.row_hid (v := v) (n := L.length) (xs := flatR L) (by with_reducible repeat (first | exact Sel.here | apply Sel.there))
  subst hv
  have hss : ss.length ≤ 100000 := by rw [hI.rel.len]; exact hmax
  obtain ⟨s, hs⟩ : ∃ s, findR L o.num o.foot = s := ⟨_, rfl⟩
  have hs' := Lib.hid hs
  have hrs : RelS (look ss o.num o.foot) s := by rw [← hs]; exact hI.rel.look _ _
  have hpool : (s.tv, s.told) ∈ PL := by rw [← hs]; exact hI.found _ _
  have hsk : s.num = o.num ∧ s.foot = o.foot := by rw [← hs]; exact findR_key
  have hrs' := Lib.hid hrs
  have hpool' := Lib.hid hpool
  have hsk' := Lib.hid hsk
  have hI' := Lib.hid hI
  have ho' := Lib.hid ho
  clear hs hrs hpool hsk hI ho
  unfold opV
  go_enter Try.func7, Try.ntmps7
  go_wp2_with (first | (refine wpList_box_at (E := 31) rfl rfl (by (try simp only [Act.eval, Array.getD_eq_getD_getElem?, List.getElem?_toArray, List.getElem?_cons_succ, List.getElem?_cons_zero, Option.getD_some]) <;> exact rfl) (by exact rfl) hA ?_; intro bB w1 hB hbB; clear hF hA; have hA := hB; clear hB; (try simp only [setL, List.set_cons_zero, List.set_cons_succ, List.cons_append, List.nil_append] at hA); (have hF := hA.facts); (try simp only [facts_cons, facts_nil, facts_cells, facts_old, facts_fact, facts_obj, facts_map, facts_iter, and_true, true_and] at hF)) | (refine wpList_box_at (E := 36) rfl rfl (by (try simp only [Act.eval, Array.getD_eq_getD_getElem?, List.getElem?_toArray, List.getElem?_cons_succ, List.getElem?_cons_zero, Option.getD_some]) <;> exact rfl) (by exact rfl) hA ?_; intro bO w1 hB hbO; clear hF hA; have hA := hB; clear hB; (try simp only [setL, List.set_cons_zero, List.set_cons_succ, List.cons_append, List.nil_append] at hA); (have hF := hA.facts); (try simp only [facts_cons, facts_nil, facts_cells, facts_old, facts_fact, facts_obj, facts_map, facts_iter, and_true, true_and] at hF)) | (refine wpList_alloc_at (E := 31) (z := .agg #[.slice none 0 0]) (vs := [.slice none 0 0]) rfl rfl (by kernel_rfl) rfl hA ?_; intro bZ w1 hB hbZ; clear hF hA; have hA := hB; clear hB; (try simp only [setL, List.set_cons_zero, List.set_cons_succ, List.cons_append, List.nil_append] at hA); (have hF := hA.facts); (try simp only [facts_cons, facts_nil, facts_cells, facts_old, facts_fact, facts_obj, facts_map, facts_iter, and_true, true_and] at hF)) | (refine wpList_store_at rfl rfl rfl (by (try simp only [Act.eval, Array.getD_eq_getD_getElem?, List.getElem?_toArray, List.getElem?_cons_succ, List.getElem?_cons_zero, Option.getD_some]) <;> exact rfl) (by exact rfl) hA (by with_reducible repeat (first | exact Sel.here | apply Sel.there)) (by kernel_rfl) rfl (by first | decide | (simp; done) | omega) ?_; intro w1 hB; clear hF hA; have hA := hB; clear hB; (try simp only [setL, List.set_cons_zero, List.set_cons_succ, List.cons_append, List.nil_append] at hA); (have hF := hA.facts); (try simp only [facts_cons, facts_nil, facts_cells, facts_old, facts_fact, facts_obj, facts_map, facts_iter, and_true, true_and] at hF)) | (refine wpList_box_at rfl rfl (by (try simp only [Act.eval, Array.getD_eq_getD_getElem?, List.getElem?_toArray, List.getElem?_cons_succ, List.getElem?_cons_zero, Option.getD_some]) <;> exact rfl) (by exact rfl) hA ?_; intro b1 w1 hB hb1; clear hF hA; have hA := hB; clear hB; (try simp only [setL, List.set_cons_zero, List.set_cons_succ, List.cons_append, List.nil_append] at hA); (have hF := hA.facts); (try simp only [facts_cons, facts_nil, facts_cells, facts_old, facts_fact, facts_obj, facts_map, facts_iter, and_true, true_and] at hF)))
  refine (findR_any (hA.sep1 (by with_reducible repeat (first | exact Sel.here | apply Sel.there))) o.num o.foot (by omega)).mono ?_
  rw [hs'.out]
  rintro e w1 ⟨rfl, hT⟩; have hB := hA.call1 (by with_reducible repeat (first | exact Sel.here | apply Sel.there)) hT; clear hF hA hT; have hA := hB; clear hB; (try simp only [setL, List.set_cons_zero, List.set_cons_succ, List.cons_append, List.nil_append] at hA); (have hF := hA.facts); (try simp only [facts_cons, facts_nil, facts_cells, facts_old, facts_fact, facts_obj, facts_map, facts_iter, and_true, true_and] at hF)
  go_wp2_with (first | (refine wpList_alloc_at (E := 44) (z := .agg #[.int .u64 0, .string .empty, .bool false, .bool false, .int .i64 0, .int .i64 0, .slice none 0 0]) (vs := [.int .u64 0, .string .empty, .bool false, .bool false, .int .i64 0, .int .i64 0, .slice none 0 0]) rfl rfl (by kernel_rfl) rfl hA ?_; intro bS w1 hB hbS; clear hF hA; have hA := hB; clear hB; (try simp only [setL, List.set_cons_zero, List.set_cons_succ, List.cons_append, List.nil_append] at hA); (have hF := hA.facts); (try simp only [facts_cons, facts_nil, facts_cells, facts_old, facts_fact, facts_obj, facts_map, facts_iter, and_true, true_and] at hF)) | (refine wpList_alloc_at (E := 48) (z := .agg #[.int .u64 0, .int .i64 0, .int .u64 0, .bool false]) (vs := [.int .u64 0, .int .i64 0, .int .u64 0, .bool false]) rfl rfl (by kernel_rfl) rfl hA ?_; intro bA w1 hB hbA; clear hF hA; have hA := hB; clear hB; (try simp only [setL, List.set_cons_zero, List.set_cons_succ, List.cons_append, List.nil_append] at hA); (have hF := hA.facts); (try simp only [facts_cons, facts_nil, facts_cells, facts_old, facts_fact, facts_obj, facts_map, facts_iter, and_true, true_and] at hF)) | (refine wpList_store_at (b := bS) (j := 0) (vs := SR.cells s) rfl rfl rfl (by (try simp only [Act.eval, Array.getD_eq_getD_getElem?, List.getElem?_toArray, List.getElem?_cons_succ, List.getElem?_cons_zero, Option.getD_some]) <;> exact rfl) (by exact rfl) hA (by with_reducible repeat (first | exact Sel.here | apply Sel.there)) (by kernel_rfl) (SR.ones _) (by show 0 + 7 ≤ 7; omega) ?_; intro w1 hB; clear hF hA; have hA := hB; clear hB; simp only [SR.cells] at hA; (try simp only [setL, List.set_cons_zero, List.set_cons_succ, List.cons_append, List.nil_append] at hA); (have hF := hA.facts); (try simp only [facts_cons, facts_nil, facts_cells, facts_old, facts_fact, facts_obj, facts_map, facts_iter, and_true, true_and] at hF)) | (refine wpList_store_at rfl rfl rfl (by (try simp only [Act.eval, Array.getD_eq_getD_getElem?, List.getElem?_toArray, List.getElem?_cons_succ, List.getElem?_cons_zero, Option.getD_some]) <;> exact rfl) (by exact rfl) hA (by with_reducible repeat (first | exact Sel.here | apply Sel.there)) (by kernel_rfl) rfl (by first | decide | (simp; done) | omega) ?_; intro w1 hB; clear hF hA; have hA := hB; clear hB; (try simp only [setL, List.set_cons_zero, List.set_cons_succ, List.cons_append, List.nil_append] at hA); (have hF := hA.facts); (try simp only [facts_cons, facts_nil, facts_cells, facts_old, facts_fact, facts_obj, facts_map, facts_iter, and_true, true_and] at hF)) | (refine wpList_box_at rfl rfl (by (try simp only [Act.eval, Array.getD_eq_getD_getElem?, List.getElem?_toArray, List.getElem?_cons_succ, List.getElem?_cons_zero, Option.getD_some]) <;> exact rfl) (by exact rfl) hA ?_; intro b1 w1 hB hb1; clear hF hA; have hA := hB; clear hB; (try simp only [setL, List.set_cons_zero, List.set_cons_succ, List.cons_append, List.nil_append] at hA); (have hF := hA.facts); (try simp only [facts_cons, facts_nil, facts_cells, facts_old, facts_fact, facts_obj, facts_map, facts_iter, and_true, true_and] at hF)))
  refine bodyPost_ret (v := .tuple #[.agg #[.slice vx vn vc], .bool true]) (by simp [results, Try.results7, go_sem, hF]) rfl ?_
  exact ⟨ss, _, L, PL, rfl, hA.pick (by with_reducible repeat (first | exact Picks.nil | refine Picks.cons (by with_reducible repeat (first | exact Sel.here | apply Sel.there)) ?_)), hI'.out, by omega⟩
set_option maxRecDepth 100000 in
set_option maxHeartbeats 4000000 in
theorem step_1 {w : World} {p m : Nat} {ss : List Ses} {v : Value} {L : List SR} {PL : List (Value × List AR)} (h : Sep [BookP p m ss, rowR v L, poolP PL] w) (hI : Inv ss L PL) (o : OpR) (ho : o.Ok) (hmax : L.length ≤ 100000) :
    Calls Try.prog 7 #[.pointer (some ⟨p, 0, none⟩), .agg #[v], opV 1 o] w (StepOut w p m ss v L PL) := by
  have hA := At.start h
  have hF := hA.facts
  clear h
  obtain ⟨vx, vn, vc, hv, hvn⟩ := hA.row_hid (v := v) (n := L.length) (xs := flatR L) (by with_reducible repeat (first | exact Sel.here | apply Sel.there))
  subst hv
  have hss : ss.length ≤ 100000 := by rw [hI.rel.len]; exact hmax
  obtain ⟨s, hs⟩ : ∃ s, findR L o.num o.foot = s := ⟨_, rfl⟩
  have hs' := Lib.hid hs
  have hrs : RelS (look ss o.num o.foot) s := by rw [← hs]; exact hI.rel.look _ _
  have hpool : (s.tv, s.told) ∈ PL := by rw [← hs]; exact hI.found _ _
  have hsk : s.num = o.num ∧ s.foot = o.foot := by rw [← hs]; exact findR_key
  have hrs' := Lib.hid hrs
  have hpool' := Lib.hid hpool
  have hsk' := Lib.hid hsk
  have hI' := Lib.hid hI
  have ho' := Lib.hid ho
  clear hs hrs hpool hsk hI ho
  unfold opV
  go_enter Try.func7, Try.ntmps7
  go_wp2_with (first | (refine wpList_box_at (E := 31) rfl rfl (by (try simp only [Act.eval, Array.getD_eq_getD_getElem?, List.getElem?_toArray, List.getElem?_cons_succ, List.getElem?_cons_zero, Option.getD_some]) <;> exact rfl) (by exact rfl) hA ?_; intro bB w1 hB hbB; clear hF hA; have hA := hB; clear hB; (try simp only [setL, List.set_cons_zero, List.set_cons_succ, List.cons_append, List.nil_append] at hA); (have hF := hA.facts); (try simp only [facts_cons, facts_nil, facts_cells, facts_old, facts_fact, facts_obj, facts_map, facts_iter, and_true, true_and] at hF)) | (refine wpList_box_at (E := 36) rfl rfl (by (try simp only [Act.eval, Array.getD_eq_getD_getElem?, List.getElem?_toArray, List.getElem?_cons_succ, List.getElem?_cons_zero, Option.getD_some]) <;> exact rfl) (by exact rfl) hA ?_; intro bO w1 hB hbO; clear hF hA; have hA := hB; clear hB; (try simp only [setL, List.set_cons_zero, List.set_cons_succ, List.cons_append, List.nil_append] at hA); (have hF := hA.facts); (try simp only [facts_cons, facts_nil, facts_cells, facts_old, facts_fact, facts_obj, facts_map, facts_iter, and_true, true_and] at hF)) | (refine wpList_alloc_at (E := 31) (z := .agg #[.slice none 0 0]) (vs := [.slice none 0 0]) rfl rfl (by kernel_rfl) rfl hA ?_; intro bZ w1 hB hbZ; clear hF hA; have hA := hB; clear hB; (try simp only [setL, List.set_cons_zero, List.set_cons_succ, List.cons_append, List.nil_append] at hA); (have hF := hA.facts); (try simp only [facts_cons, facts_nil, facts_cells, facts_old, facts_fact, facts_obj, facts_map, facts_iter, and_true, true_and] at hF)) | (refine wpList_store_at rfl rfl rfl (by (try simp only [Act.eval, Array.getD_eq_getD_getElem?, List.getElem?_toArray, List.getElem?_cons_succ, List.getElem?_cons_zero, Option.getD_some]) <;> exact rfl) (by exact rfl) hA (by with_reducible repeat (first | exact Sel.here | apply Sel.there)) (by kernel_rfl) rfl (by first | decide | (simp; done) | omega) ?_; intro w1 hB; clear hF hA; have hA := hB; clear hB; (try simp only [setL, List.set_cons_zero, List.set_cons_succ, List.cons_append, List.nil_append] at hA); (have hF := hA.facts); (try simp only [facts_cons, facts_nil, facts_cells, facts_old, facts_fact, facts_obj, facts_map, facts_iter, and_true, true_and] at hF)) | (refine wpList_box_at rfl rfl (by (try simp only [Act.eval, Array.getD_eq_getD_getElem?, List.getElem?_toArray, List.getElem?_cons_succ, List.getElem?_cons_zero, Option.getD_some]) <;> exact rfl) (by exact rfl) hA ?_; intro b1 w1 hB hb1; clear hF hA; have hA := hB; clear hB; (try simp only [setL, List.set_cons_zero, List.set_cons_succ, List.cons_append, List.nil_append] at hA); (have hF := hA.facts); (try simp only [facts_cons, facts_nil, facts_cells, facts_old, facts_fact, facts_obj, facts_map, facts_iter, and_true, true_and] at hF)))
  refine (findR_any (hA.sep1 (by with_reducible repeat (first | exact Sel.here | apply Sel.there))) o.num o.foot (by omega)).mono ?_
  rw [hs'.out]
  rintro e w1 ⟨rfl, hT⟩; have hB := hA.call1 (by with_reducible repeat (first | exact Sel.here | apply Sel.there)) hT; clear hF hA hT; have hA := hB; clear hB; (try simp only [setL, List.set_cons_zero, List.set_cons_succ, List.cons_append, List.nil_append] at hA); (have hF := hA.facts); (try simp only [facts_cons, facts_nil, facts_cells, facts_old, facts_fact, facts_obj, facts_map, facts_iter, and_true, true_and] at hF)
  go_wp2_with (first | (refine wpList_alloc_at (E := 44) (z := .agg #[.int .u64 0, .string .empty, .bool false, .bool false, .int .i64 0, .int .i64 0, .slice none 0 0]) (vs := [.int .u64 0, .string .empty, .bool false, .bool false, .int .i64 0, .int .i64 0, .slice none 0 0]) rfl rfl (by kernel_rfl) rfl hA ?_; intro bS w1 hB hbS; clear hF hA; have hA := hB; clear hB; (try simp only [setL, List.set_cons_zero, List.set_cons_succ, List.cons_append, List.nil_append] at hA); (have hF := hA.facts); (try simp only [facts_cons, facts_nil, facts_cells, facts_old, facts_fact, facts_obj, facts_map, facts_iter, and_true, true_and] at hF)) | (refine wpList_alloc_at (E := 48) (z := .agg #[.int .u64 0, .int .i64 0, .int .u64 0, .bool false]) (vs := [.int .u64 0, .int .i64 0, .int .u64 0, .bool false]) rfl rfl (by kernel_rfl) rfl hA ?_; intro bA w1 hB hbA; clear hF hA; have hA := hB; clear hB; (try simp only [setL, List.set_cons_zero, List.set_cons_succ, List.cons_append, List.nil_append] at hA); (have hF := hA.facts); (try simp only [facts_cons, facts_nil, facts_cells, facts_old, facts_fact, facts_obj, facts_map, facts_iter, and_true, true_and] at hF)) | (refine wpList_store_at (b := bS) (j := 0) (vs := SR.cells s) rfl rfl rfl (by (try simp only [Act.eval, Array.getD_eq_getD_getElem?, List.getElem?_toArray, List.getElem?_cons_succ, List.getElem?_cons_zero, Option.getD_some]) <;> exact rfl) (by exact rfl) hA (by with_reducible repeat (first | exact Sel.here | apply Sel.there)) (by kernel_rfl) (SR.ones _) (by show 0 + 7 ≤ 7; omega) ?_; intro w1 hB; clear hF hA; have hA := hB; clear hB; simp only [SR.cells] at hA; (try simp only [setL, List.set_cons_zero, List.set_cons_succ, List.cons_append, List.nil_append] at hA); (have hF := hA.facts); (try simp only [facts_cons, facts_nil, facts_cells, facts_old, facts_fact, facts_obj, facts_map, facts_iter, and_true, true_and] at hF)) | (refine wpList_store_at rfl rfl rfl (by (try simp only [Act.eval, Array.getD_eq_getD_getElem?, List.getElem?_toArray, List.getElem?_cons_succ, List.getElem?_cons_zero, Option.getD_some]) <;> exact rfl) (by exact rfl) hA (by with_reducible repeat (first | exact Sel.here | apply Sel.there)) (by kernel_rfl) rfl (by first | decide | (simp; done) | omega) ?_; intro w1 hB; clear hF hA; have hA := hB; clear hB; (try simp only [setL, List.set_cons_zero, List.set_cons_succ, List.cons_append, List.nil_append] at hA); (have hF := hA.facts); (try simp only [facts_cons, facts_nil, facts_cells, facts_old, facts_fact, facts_obj, facts_map, facts_iter, and_true, true_and] at hF)) | (refine wpList_box_at rfl rfl (by (try simp only [Act.eval, Array.getD_eq_getD_getElem?, List.getElem?_toArray, List.getElem?_cons_succ, List.getElem?_cons_zero, Option.getD_some]) <;> exact rfl) (by exact rfl) hA ?_; intro b1 w1 hB hb1; clear hF hA; have hA := hB; clear hB; (try simp only [setL, List.set_cons_zero, List.set_cons_succ, List.cons_append, List.nil_append] at hA); (have hF := hA.facts); (try simp only [facts_cons, facts_nil, facts_cells, facts_old, facts_fact, facts_obj, facts_map, facts_iter, and_true, true_and] at hF)))
  have hb := book_open (hA.sep1 (by with_reducible repeat (first | exact Sel.here | apply Sel.there))) ho'.out.n0 ho'.out.n1 ho'.out.f (by omega) o.a o.b
  rw [hI'.out.rel.openE (n := o.num) (f := o.foot), hs'.out] at hb
  generalize hcd : openRE s (cntR L o.foot) = c at *
  have hcd' := Lib.hid hcd
  clear hcd
  refine hb.mono ?_
  clear hb
  rintro e w1 ⟨ss', rfl, hT, hcase⟩
  have hB := hA.call1 (by with_reducible repeat (first | exact Sel.here | apply Sel.there)) hT
  clear hF hA hT
  have hA := hB
  clear hB
  simp only [List.cons_append, List.nil_append] at hA
  have hF := hA.facts
  (try simp only [setL, List.set_cons_zero, List.set_cons_succ, List.cons_append, List.nil_append] at hA); (have hF := hA.facts); (try simp only [facts_cons, facts_nil, facts_cells, facts_old, facts_fact, facts_obj, facts_map, facts_iter, and_true, true_and] at hF)
  go_wp2_with (first | (refine wpList_store_at rfl rfl rfl (by (try simp only [Act.eval, Array.getD_eq_getD_getElem?, List.getElem?_toArray, List.getElem?_cons_succ, List.getElem?_cons_zero, Option.getD_some]) <;> exact rfl) (by exact rfl) hA (by with_reducible repeat (first | exact Sel.here | apply Sel.there)) (by kernel_rfl) rfl (by first | decide | (simp; done) | omega) ?_; intro w1 hB; clear hF hA; have hA := hB; clear hB; (try simp only [setL, List.set_cons_zero, List.set_cons_succ, List.cons_append, List.nil_append] at hA); (have hF := hA.facts); (try simp only [facts_cons, facts_nil, facts_cells, facts_old, facts_fact, facts_obj, facts_map, facts_iter, and_true, true_and] at hF)) | (refine wpList_box_at rfl rfl (by (try simp only [Act.eval, Array.getD_eq_getD_getElem?, List.getElem?_toArray, List.getElem?_cons_succ, List.getElem?_cons_zero, Option.getD_some]) <;> exact rfl) (by exact rfl) hA ?_; intro b1 w1 hB hb1; clear hF hA; have hA := hB; clear hB; (try simp only [setL, List.set_cons_zero, List.set_cons_succ, List.cons_append, List.nil_append] at hA); (have hF := hA.facts); (try simp only [facts_cons, facts_nil, facts_cells, facts_old, facts_fact, facts_obj, facts_map, facts_iter, and_true, true_and] at hF)))
  have hd := openR_any (hA.sep1 (by with_reducible repeat (first | exact Sel.here | apply Sel.there))) s o.a o.b (by omega)
  unfold OpenPostR at hd
  simp only [hsk'.out.2, hcd'.out] at hd
  refine hd.mono ?_
  clear hd
  rintro e w1 (⟨hc, rfl, hT⟩ | ⟨hc, v', rfl, hT⟩)
  · have hss' : ss' = ss := by
      rcases hcase with ⟨_, q⟩ | ⟨q, _⟩
      · exact q
      · exact absurd q hc
    subst hss'
    have hB := hA.call1 (by with_reducible repeat (first | exact Sel.here | apply Sel.there)) hT
    clear hF hA hT hcase
    have hc' := Lib.hid hc
    clear hc
    have hA := hB
    clear hB
    simp only [List.cons_append, List.nil_append] at hA
    have hF := hA.facts
    (try simp only [setL, List.set_cons_zero, List.set_cons_succ, List.cons_append, List.nil_append] at hA); (have hF := hA.facts); (try simp only [facts_cons, facts_nil, facts_cells, facts_old, facts_fact, facts_obj, facts_map, facts_iter, and_true, true_and] at hF)
    go_wp2_with (first | (refine wpList_store_at rfl rfl rfl (by (try simp only [Act.eval, Array.getD_eq_getD_getElem?, List.getElem?_toArray, List.getElem?_cons_succ, List.getElem?_cons_zero, Option.getD_some]) <;> exact rfl) (by exact rfl) hA (by with_reducible repeat (first | exact Sel.here | apply Sel.there)) (by kernel_rfl) rfl (by first | decide | (simp; done) | omega) ?_; intro w1 hB; clear hF hA; have hA := hB; clear hB; (try simp only [setL, List.set_cons_zero, List.set_cons_succ, List.cons_append, List.nil_append] at hA); (have hF := hA.facts); (try simp only [facts_cons, facts_nil, facts_cells, facts_old, facts_fact, facts_obj, facts_map, facts_iter, and_true, true_and] at hF)) | (refine wpList_box_at rfl rfl (by (try simp only [Act.eval, Array.getD_eq_getD_getElem?, List.getElem?_toArray, List.getElem?_cons_succ, List.getElem?_cons_zero, Option.getD_some]) <;> exact rfl) (by exact rfl) hA ?_; intro b1 w1 hB hb1; clear hF hA; have hA := hB; clear hB; (try simp only [setL, List.set_cons_zero, List.set_cons_succ, List.cons_append, List.nil_append] at hA); (have hF := hA.facts); (try simp only [facts_cons, facts_nil, facts_cells, facts_old, facts_fact, facts_obj, facts_map, facts_iter, and_true, true_and] at hF)))
    refine bodyPost_ret (v := .tuple #[.agg #[.slice vx vn vc], .bool true]) (by simp [results, Try.results7, go_sem, hF]) rfl ?_
    exact ⟨_, _, L, PL, rfl, hA.pick (by with_reducible repeat (first | exact Picks.nil | refine Picks.cons (by with_reducible repeat (first | exact Sel.here | apply Sel.there)) ?_)), hI'.out, by omega⟩
  · have hturn : Turned ss o.num o.foot (fun s => s.opened o.a o.b) ss' := by
      rcases hcase with ⟨q, _⟩ | ⟨_, q⟩
      · exact absurd hc q
      · exact q
    have hturn' := Lib.hid hturn
    subst hc
    have hB := hA.call1 (by with_reducible repeat (first | exact Sel.here | apply Sel.there)) hT
    clear hF hA hT hcase hturn
    obtain ⟨ax4, n4, cap4, hv4, hn4⟩ := hB.row_hid .here
    subst hv4
    have hA := hB
    clear hB
    simp only [List.cons_append, List.nil_append] at hA
    have hF := hA.facts
    (try simp only [setL, List.set_cons_zero, List.set_cons_succ, List.cons_append, List.nil_append] at hA); (have hF := hA.facts); (try simp only [facts_cons, facts_nil, facts_cells, facts_old, facts_fact, facts_obj, facts_map, facts_iter, and_true, true_and] at hF)
    go_wp2_with (first | (refine wpList_store_at rfl rfl rfl (by (try simp only [Act.eval, Array.getD_eq_getD_getElem?, List.getElem?_toArray, List.getElem?_cons_succ, List.getElem?_cons_zero, Option.getD_some]) <;> exact rfl) (by exact rfl) hA (by with_reducible repeat (first | exact Sel.here | apply Sel.there)) (by kernel_rfl) rfl (by first | decide | (simp; done) | omega) ?_; intro w1 hB; clear hF hA; have hA := hB; clear hB; (try simp only [setL, List.set_cons_zero, List.set_cons_succ, List.cons_append, List.nil_append] at hA); (have hF := hA.facts); (try simp only [facts_cons, facts_nil, facts_cells, facts_old, facts_fact, facts_obj, facts_map, facts_iter, and_true, true_and] at hF)) | (refine wpList_box_at rfl rfl (by (try simp only [Act.eval, Array.getD_eq_getD_getElem?, List.getElem?_toArray, List.getElem?_cons_succ, List.getElem?_cons_zero, Option.getD_some]) <;> exact rfl) (by exact rfl) hA ?_; intro b1 w1 hB hb1; clear hF hA; have hA := hB; clear hB; (try simp only [setL, List.set_cons_zero, List.set_cons_succ, List.cons_append, List.nil_append] at hA); (have hF := hA.facts); (try simp only [facts_cons, facts_nil, facts_cells, facts_old, facts_fact, facts_obj, facts_map, facts_iter, and_true, true_and] at hF)))
    refine bodyPost_ret (v := .tuple #[.agg #[.slice ax4 n4 cap4], .bool true]) (by simp [results, Try.results7, go_sem, hF]) rfl ?_
    have hrel : Rel ss' (putR L (s.opened o.a o.b)) := by
      have hdd : s.dead = false := by
        cases q : s.dead
        · rfl
        · have := hcd'.out; simp [openRE, q] at this
      have := hI'.out.rel.turned (ga := fun a => a.opened o.a o.b) hturn'.out (fun _ => rfl) (fun s1 a1 r1 _ ea => r1.opened o.a o.b (by rw [ea, hs'.out]; exact hdd))
      rw [hs'.out] at this
      exact this
    exact ⟨ss', _, _, PL, rfl, hA.pick (by with_reducible repeat (first | exact Picks.nil | refine Picks.cons (by with_reducible repeat (first | exact Sel.here | apply Sel.there)) ?_)), hI'.out.put hrel (fun _ q => q) hpool'.out, by have := put_len (L := L) (s.opened o.a o.b); omega⟩
set_option maxRecDepth 100000 in
set_option maxHeartbeats 4000000 in
theorem step_2 {w : World} {p m : Nat} {ss : List Ses} {v : Value} {L : List SR} {PL : List (Value × List AR)} (h : Sep [BookP p m ss, rowR v L, poolP PL] w) (hI : Inv ss L PL) (o : OpR) (ho : o.Ok) (hmax : L.length ≤ 100000) :
    Calls Try.prog 7 #[.pointer (some ⟨p, 0, none⟩), .agg #[v], opV 2 o] w (StepOut w p m ss v L PL) := by
  have hA := At.start h
  have hF := hA.facts
  clear h
  obtain ⟨vx, vn, vc, hv, hvn⟩ := hA.row_hid (v := v) (n := L.length) (xs := flatR L) (by with_reducible repeat (first | exact Sel.here | apply Sel.there))
  subst hv
  have hss : ss.length ≤ 100000 := by rw [hI.rel.len]; exact hmax
  obtain ⟨s, hs⟩ : ∃ s, findR L o.num o.foot = s := ⟨_, rfl⟩
  have hs' := Lib.hid hs
  have hrs : RelS (look ss o.num o.foot) s := by rw [← hs]; exact hI.rel.look _ _
  have hpool : (s.tv, s.told) ∈ PL := by rw [← hs]; exact hI.found _ _
  have hsk : s.num = o.num ∧ s.foot = o.foot := by rw [← hs]; exact findR_key
  have hrs' := Lib.hid hrs
  have hpool' := Lib.hid hpool
  have hsk' := Lib.hid hsk
  have hI' := Lib.hid hI
  have ho' := Lib.hid ho
  clear hs hrs hpool hsk hI ho
  unfold opV
  go_enter Try.func7, Try.ntmps7
  go_wp2_with (first | (refine wpList_box_at (E := 31) rfl rfl (by (try simp only [Act.eval, Array.getD_eq_getD_getElem?, List.getElem?_toArray, List.getElem?_cons_succ, List.getElem?_cons_zero, Option.getD_some]) <;> exact rfl) (by exact rfl) hA ?_; intro bB w1 hB hbB; clear hF hA; have hA := hB; clear hB; (try simp only [setL, List.set_cons_zero, List.set_cons_succ, List.cons_append, List.nil_append] at hA); (have hF := hA.facts); (try simp only [facts_cons, facts_nil, facts_cells, facts_old, facts_fact, facts_obj, facts_map, facts_iter, and_true, true_and] at hF)) | (refine wpList_box_at (E := 36) rfl rfl (by (try simp only [Act.eval, Array.getD_eq_getD_getElem?, List.getElem?_toArray, List.getElem?_cons_succ, List.getElem?_cons_zero, Option.getD_some]) <;> exact rfl) (by exact rfl) hA ?_; intro bO w1 hB hbO; clear hF hA; have hA := hB; clear hB; (try simp only [setL, List.set_cons_zero, List.set_cons_succ, List.cons_append, List.nil_append] at hA); (have hF := hA.facts); (try simp only [facts_cons, facts_nil, facts_cells, facts_old, facts_fact, facts_obj, facts_map, facts_iter, and_true, true_and] at hF)) | (refine wpList_alloc_at (E := 31) (z := .agg #[.slice none 0 0]) (vs := [.slice none 0 0]) rfl rfl (by kernel_rfl) rfl hA ?_; intro bZ w1 hB hbZ; clear hF hA; have hA := hB; clear hB; (try simp only [setL, List.set_cons_zero, List.set_cons_succ, List.cons_append, List.nil_append] at hA); (have hF := hA.facts); (try simp only [facts_cons, facts_nil, facts_cells, facts_old, facts_fact, facts_obj, facts_map, facts_iter, and_true, true_and] at hF)) | (refine wpList_store_at rfl rfl rfl (by (try simp only [Act.eval, Array.getD_eq_getD_getElem?, List.getElem?_toArray, List.getElem?_cons_succ, List.getElem?_cons_zero, Option.getD_some]) <;> exact rfl) (by exact rfl) hA (by with_reducible repeat (first | exact Sel.here | apply Sel.there)) (by kernel_rfl) rfl (by first | decide | (simp; done) | omega) ?_; intro w1 hB; clear hF hA; have hA := hB; clear hB; (try simp only [setL, List.set_cons_zero, List.set_cons_succ, List.cons_append, List.nil_append] at hA); (have hF := hA.facts); (try simp only [facts_cons, facts_nil, facts_cells, facts_old, facts_fact, facts_obj, facts_map, facts_iter, and_true, true_and] at hF)) | (refine wpList_box_at rfl rfl (by (try simp only [Act.eval, Array.getD_eq_getD_getElem?, List.getElem?_toArray, List.getElem?_cons_succ, List.getElem?_cons_zero, Option.getD_some]) <;> exact rfl) (by exact rfl) hA ?_; intro b1 w1 hB hb1; clear hF hA; have hA := hB; clear hB; (try simp only [setL, List.set_cons_zero, List.set_cons_succ, List.cons_append, List.nil_append] at hA); (have hF := hA.facts); (try simp only [facts_cons, facts_nil, facts_cells, facts_old, facts_fact, facts_obj, facts_map, facts_iter, and_true, true_and] at hF)))
  refine (findR_any (hA.sep1 (by with_reducible repeat (first | exact Sel.here | apply Sel.there))) o.num o.foot (by omega)).mono ?_
  rw [hs'.out]
  rintro e w1 ⟨rfl, hT⟩; have hB := hA.call1 (by with_reducible repeat (first | exact Sel.here | apply Sel.there)) hT; clear hF hA hT; have hA := hB; clear hB; (try simp only [setL, List.set_cons_zero, List.set_cons_succ, List.cons_append, List.nil_append] at hA); (have hF := hA.facts); (try simp only [facts_cons, facts_nil, facts_cells, facts_old, facts_fact, facts_obj, facts_map, facts_iter, and_true, true_and] at hF)
  go_wp2_with (first | (refine wpList_alloc_at (E := 44) (z := .agg #[.int .u64 0, .string .empty, .bool false, .bool false, .int .i64 0, .int .i64 0, .slice none 0 0]) (vs := [.int .u64 0, .string .empty, .bool false, .bool false, .int .i64 0, .int .i64 0, .slice none 0 0]) rfl rfl (by kernel_rfl) rfl hA ?_; intro bS w1 hB hbS; clear hF hA; have hA := hB; clear hB; (try simp only [setL, List.set_cons_zero, List.set_cons_succ, List.cons_append, List.nil_append] at hA); (have hF := hA.facts); (try simp only [facts_cons, facts_nil, facts_cells, facts_old, facts_fact, facts_obj, facts_map, facts_iter, and_true, true_and] at hF)) | (refine wpList_alloc_at (E := 48) (z := .agg #[.int .u64 0, .int .i64 0, .int .u64 0, .bool false]) (vs := [.int .u64 0, .int .i64 0, .int .u64 0, .bool false]) rfl rfl (by kernel_rfl) rfl hA ?_; intro bA w1 hB hbA; clear hF hA; have hA := hB; clear hB; (try simp only [setL, List.set_cons_zero, List.set_cons_succ, List.cons_append, List.nil_append] at hA); (have hF := hA.facts); (try simp only [facts_cons, facts_nil, facts_cells, facts_old, facts_fact, facts_obj, facts_map, facts_iter, and_true, true_and] at hF)) | (refine wpList_store_at (b := bS) (j := 0) (vs := SR.cells s) rfl rfl rfl (by (try simp only [Act.eval, Array.getD_eq_getD_getElem?, List.getElem?_toArray, List.getElem?_cons_succ, List.getElem?_cons_zero, Option.getD_some]) <;> exact rfl) (by exact rfl) hA (by with_reducible repeat (first | exact Sel.here | apply Sel.there)) (by kernel_rfl) (SR.ones _) (by show 0 + 7 ≤ 7; omega) ?_; intro w1 hB; clear hF hA; have hA := hB; clear hB; simp only [SR.cells] at hA; (try simp only [setL, List.set_cons_zero, List.set_cons_succ, List.cons_append, List.nil_append] at hA); (have hF := hA.facts); (try simp only [facts_cons, facts_nil, facts_cells, facts_old, facts_fact, facts_obj, facts_map, facts_iter, and_true, true_and] at hF)) | (refine wpList_store_at rfl rfl rfl (by (try simp only [Act.eval, Array.getD_eq_getD_getElem?, List.getElem?_toArray, List.getElem?_cons_succ, List.getElem?_cons_zero, Option.getD_some]) <;> exact rfl) (by exact rfl) hA (by with_reducible repeat (first | exact Sel.here | apply Sel.there)) (by kernel_rfl) rfl (by first | decide | (simp; done) | omega) ?_; intro w1 hB; clear hF hA; have hA := hB; clear hB; (try simp only [setL, List.set_cons_zero, List.set_cons_succ, List.cons_append, List.nil_append] at hA); (have hF := hA.facts); (try simp only [facts_cons, facts_nil, facts_cells, facts_old, facts_fact, facts_obj, facts_map, facts_iter, and_true, true_and] at hF)) | (refine wpList_box_at rfl rfl (by (try simp only [Act.eval, Array.getD_eq_getD_getElem?, List.getElem?_toArray, List.getElem?_cons_succ, List.getElem?_cons_zero, Option.getD_some]) <;> exact rfl) (by exact rfl) hA ?_; intro b1 w1 hB hb1; clear hF hA; have hA := hB; clear hB; (try simp only [setL, List.set_cons_zero, List.set_cons_succ, List.cons_append, List.nil_append] at hA); (have hF := hA.facts); (try simp only [facts_cons, facts_nil, facts_cells, facts_old, facts_fact, facts_obj, facts_map, facts_iter, and_true, true_and] at hF)))
  have hb := book_keep (hA.sep1 (by with_reducible repeat (first | exact Sel.here | apply Sel.there))) ho'.out.n0 ho'.out.n1 ho'.out.f o.a
  rw [hI'.out.rel.keepE (n := o.num) (f := o.foot), hs'.out] at hb
  generalize hcd : (if s.op = true then (0 : Int) else 50) = c at *
  have hcd' := Lib.hid hcd
  clear hcd
  refine hb.mono ?_
  clear hb
  rintro e w1 ⟨ss', rfl, hT, hcase⟩
  have hB := hA.call1 (by with_reducible repeat (first | exact Sel.here | apply Sel.there)) hT
  clear hF hA hT
  have hA := hB
  clear hB
  simp only [List.cons_append, List.nil_append] at hA
  have hF := hA.facts
  (try simp only [setL, List.set_cons_zero, List.set_cons_succ, List.cons_append, List.nil_append] at hA); (have hF := hA.facts); (try simp only [facts_cons, facts_nil, facts_cells, facts_old, facts_fact, facts_obj, facts_map, facts_iter, and_true, true_and] at hF)
  go_wp2_with (first | (refine wpList_store_at rfl rfl rfl (by (try simp only [Act.eval, Array.getD_eq_getD_getElem?, List.getElem?_toArray, List.getElem?_cons_succ, List.getElem?_cons_zero, Option.getD_some]) <;> exact rfl) (by exact rfl) hA (by with_reducible repeat (first | exact Sel.here | apply Sel.there)) (by kernel_rfl) rfl (by first | decide | (simp; done) | omega) ?_; intro w1 hB; clear hF hA; have hA := hB; clear hB; (try simp only [setL, List.set_cons_zero, List.set_cons_succ, List.cons_append, List.nil_append] at hA); (have hF := hA.facts); (try simp only [facts_cons, facts_nil, facts_cells, facts_old, facts_fact, facts_obj, facts_map, facts_iter, and_true, true_and] at hF)) | (refine wpList_box_at rfl rfl (by (try simp only [Act.eval, Array.getD_eq_getD_getElem?, List.getElem?_toArray, List.getElem?_cons_succ, List.getElem?_cons_zero, Option.getD_some]) <;> exact rfl) (by exact rfl) hA ?_; intro b1 w1 hB hb1; clear hF hA; have hA := hB; clear hB; (try simp only [setL, List.set_cons_zero, List.set_cons_succ, List.cons_append, List.nil_append] at hA); (have hF := hA.facts); (try simp only [facts_cons, facts_nil, facts_cells, facts_old, facts_fact, facts_obj, facts_map, facts_iter, and_true, true_and] at hF)))
  have hd := keepR_any (hA.sep1 (by with_reducible repeat (first | exact Sel.here | apply Sel.there))) s o.a hrs'.out.tb.1 hrs'.out.tb.2 (by omega)
  rw [hcd'.out] at hd
  refine hd.mono ?_
  clear hd
  rintro e w1 (⟨hc, rfl, hT⟩ | ⟨hc, v', rfl, hT⟩)
  · have hss' : ss' = ss := by
      rcases hcase with ⟨_, q⟩ | ⟨q, _⟩
      · exact q
      · exact absurd q hc
    subst hss'
    have hB := hA.call1 (by with_reducible repeat (first | exact Sel.here | apply Sel.there)) hT
    clear hF hA hT hcase
    have hc' := Lib.hid hc
    clear hc
    have hA := hB
    clear hB
    simp only [List.cons_append, List.nil_append] at hA
    have hF := hA.facts
    (try simp only [setL, List.set_cons_zero, List.set_cons_succ, List.cons_append, List.nil_append] at hA); (have hF := hA.facts); (try simp only [facts_cons, facts_nil, facts_cells, facts_old, facts_fact, facts_obj, facts_map, facts_iter, and_true, true_and] at hF)
    go_wp2_with (first | (refine wpList_store_at rfl rfl rfl (by (try simp only [Act.eval, Array.getD_eq_getD_getElem?, List.getElem?_toArray, List.getElem?_cons_succ, List.getElem?_cons_zero, Option.getD_some]) <;> exact rfl) (by exact rfl) hA (by with_reducible repeat (first | exact Sel.here | apply Sel.there)) (by kernel_rfl) rfl (by first | decide | (simp; done) | omega) ?_; intro w1 hB; clear hF hA; have hA := hB; clear hB; (try simp only [setL, List.set_cons_zero, List.set_cons_succ, List.cons_append, List.nil_append] at hA); (have hF := hA.facts); (try simp only [facts_cons, facts_nil, facts_cells, facts_old, facts_fact, facts_obj, facts_map, facts_iter, and_true, true_and] at hF)) | (refine wpList_box_at rfl rfl (by (try simp only [Act.eval, Array.getD_eq_getD_getElem?, List.getElem?_toArray, List.getElem?_cons_succ, List.getElem?_cons_zero, Option.getD_some]) <;> exact rfl) (by exact rfl) hA ?_; intro b1 w1 hB hb1; clear hF hA; have hA := hB; clear hB; (try simp only [setL, List.set_cons_zero, List.set_cons_succ, List.cons_append, List.nil_append] at hA); (have hF := hA.facts); (try simp only [facts_cons, facts_nil, facts_cells, facts_old, facts_fact, facts_obj, facts_map, facts_iter, and_true, true_and] at hF)))
    refine bodyPost_ret (v := .tuple #[.agg #[.slice vx vn vc], .bool true]) (by simp [results, Try.results7, go_sem, hF]) rfl ?_
    exact ⟨_, _, L, PL, rfl, hA.pick (by with_reducible repeat (first | exact Picks.nil | refine Picks.cons (by with_reducible repeat (first | exact Sel.here | apply Sel.there)) ?_)), hI'.out, by omega⟩
  · have hturn : Turned ss o.num o.foot (fun s => s.kept o.a) ss' := by
      rcases hcase with ⟨q, _⟩ | ⟨_, q⟩
      · exact absurd hc q
      · exact q
    have hturn' := Lib.hid hturn
    subst hc
    have hB := hA.call1 (by with_reducible repeat (first | exact Sel.here | apply Sel.there)) hT
    clear hF hA hT hcase hturn
    obtain ⟨ax4, n4, cap4, hv4, hn4⟩ := hB.row_hid .here
    subst hv4
    have hA := hB
    clear hB
    simp only [List.cons_append, List.nil_append] at hA
    have hF := hA.facts
    (try simp only [setL, List.set_cons_zero, List.set_cons_succ, List.cons_append, List.nil_append] at hA); (have hF := hA.facts); (try simp only [facts_cons, facts_nil, facts_cells, facts_old, facts_fact, facts_obj, facts_map, facts_iter, and_true, true_and] at hF)
    go_wp2_with (first | (refine wpList_store_at rfl rfl rfl (by (try simp only [Act.eval, Array.getD_eq_getD_getElem?, List.getElem?_toArray, List.getElem?_cons_succ, List.getElem?_cons_zero, Option.getD_some]) <;> exact rfl) (by exact rfl) hA (by with_reducible repeat (first | exact Sel.here | apply Sel.there)) (by kernel_rfl) rfl (by first | decide | (simp; done) | omega) ?_; intro w1 hB; clear hF hA; have hA := hB; clear hB; (try simp only [setL, List.set_cons_zero, List.set_cons_succ, List.cons_append, List.nil_append] at hA); (have hF := hA.facts); (try simp only [facts_cons, facts_nil, facts_cells, facts_old, facts_fact, facts_obj, facts_map, facts_iter, and_true, true_and] at hF)) | (refine wpList_box_at rfl rfl (by (try simp only [Act.eval, Array.getD_eq_getD_getElem?, List.getElem?_toArray, List.getElem?_cons_succ, List.getElem?_cons_zero, Option.getD_some]) <;> exact rfl) (by exact rfl) hA ?_; intro b1 w1 hB hb1; clear hF hA; have hA := hB; clear hB; (try simp only [setL, List.set_cons_zero, List.set_cons_succ, List.cons_append, List.nil_append] at hA); (have hF := hA.facts); (try simp only [facts_cons, facts_nil, facts_cells, facts_old, facts_fact, facts_obj, facts_map, facts_iter, and_true, true_and] at hF)))
    refine bodyPost_ret (v := .tuple #[.agg #[.slice ax4 n4 cap4], .bool true]) (by simp [results, Try.results7, go_sem, hF]) rfl ?_
    have hrel : Rel ss' (putR L (s.kept o.a)) := by
      have := hI'.out.rel.turned (ga := fun a => a.kept o.a) hturn'.out (fun _ => rfl) (fun s1 a1 r1 _ ea => r1.kept o.a)
      rw [hs'.out] at this
      exact this
    exact ⟨ss', _, _, PL, rfl, hA.pick (by with_reducible repeat (first | exact Picks.nil | refine Picks.cons (by with_reducible repeat (first | exact Sel.here | apply Sel.there)) ?_)), hI'.out.put hrel (fun _ q => q) hpool'.out, by have := put_len (L := L) (s.kept o.a); omega⟩
set_option maxRecDepth 100000 in
set_option maxHeartbeats 4000000 in
theorem step_3 {w : World} {p m : Nat} {ss : List Ses} {v : Value} {L : List SR} {PL : List (Value × List AR)} (h : Sep [BookP p m ss, rowR v L, poolP PL] w) (hI : Inv ss L PL) (o : OpR) (ho : o.Ok) (hmax : L.length ≤ 100000) :
    Calls Try.prog 7 #[.pointer (some ⟨p, 0, none⟩), .agg #[v], opV 3 o] w (StepOut w p m ss v L PL) := by
  have hA := At.start h
  have hF := hA.facts
  clear h
  obtain ⟨vx, vn, vc, hv, hvn⟩ := hA.row_hid (v := v) (n := L.length) (xs := flatR L) (by with_reducible repeat (first | exact Sel.here | apply Sel.there))
  subst hv
  have hss : ss.length ≤ 100000 := by rw [hI.rel.len]; exact hmax
  obtain ⟨s, hs⟩ : ∃ s, findR L o.num o.foot = s := ⟨_, rfl⟩
  have hs' := Lib.hid hs
  have hrs : RelS (look ss o.num o.foot) s := by rw [← hs]; exact hI.rel.look _ _
  have hpool : (s.tv, s.told) ∈ PL := by rw [← hs]; exact hI.found _ _
  have hsk : s.num = o.num ∧ s.foot = o.foot := by rw [← hs]; exact findR_key
  have hrs' := Lib.hid hrs
  have hpool' := Lib.hid hpool
  have hsk' := Lib.hid hsk
  have hI' := Lib.hid hI
  have ho' := Lib.hid ho
  clear hs hrs hpool hsk hI ho
  unfold opV
  go_enter Try.func7, Try.ntmps7
  go_wp2_with (first | (refine wpList_box_at (E := 31) rfl rfl (by (try simp only [Act.eval, Array.getD_eq_getD_getElem?, List.getElem?_toArray, List.getElem?_cons_succ, List.getElem?_cons_zero, Option.getD_some]) <;> exact rfl) (by exact rfl) hA ?_; intro bB w1 hB hbB; clear hF hA; have hA := hB; clear hB; (try simp only [setL, List.set_cons_zero, List.set_cons_succ, List.cons_append, List.nil_append] at hA); (have hF := hA.facts); (try simp only [facts_cons, facts_nil, facts_cells, facts_old, facts_fact, facts_obj, facts_map, facts_iter, and_true, true_and] at hF)) | (refine wpList_box_at (E := 36) rfl rfl (by (try simp only [Act.eval, Array.getD_eq_getD_getElem?, List.getElem?_toArray, List.getElem?_cons_succ, List.getElem?_cons_zero, Option.getD_some]) <;> exact rfl) (by exact rfl) hA ?_; intro bO w1 hB hbO; clear hF hA; have hA := hB; clear hB; (try simp only [setL, List.set_cons_zero, List.set_cons_succ, List.cons_append, List.nil_append] at hA); (have hF := hA.facts); (try simp only [facts_cons, facts_nil, facts_cells, facts_old, facts_fact, facts_obj, facts_map, facts_iter, and_true, true_and] at hF)) | (refine wpList_alloc_at (E := 31) (z := .agg #[.slice none 0 0]) (vs := [.slice none 0 0]) rfl rfl (by kernel_rfl) rfl hA ?_; intro bZ w1 hB hbZ; clear hF hA; have hA := hB; clear hB; (try simp only [setL, List.set_cons_zero, List.set_cons_succ, List.cons_append, List.nil_append] at hA); (have hF := hA.facts); (try simp only [facts_cons, facts_nil, facts_cells, facts_old, facts_fact, facts_obj, facts_map, facts_iter, and_true, true_and] at hF)) | (refine wpList_store_at rfl rfl rfl (by (try simp only [Act.eval, Array.getD_eq_getD_getElem?, List.getElem?_toArray, List.getElem?_cons_succ, List.getElem?_cons_zero, Option.getD_some]) <;> exact rfl) (by exact rfl) hA (by with_reducible repeat (first | exact Sel.here | apply Sel.there)) (by kernel_rfl) rfl (by first | decide | (simp; done) | omega) ?_; intro w1 hB; clear hF hA; have hA := hB; clear hB; (try simp only [setL, List.set_cons_zero, List.set_cons_succ, List.cons_append, List.nil_append] at hA); (have hF := hA.facts); (try simp only [facts_cons, facts_nil, facts_cells, facts_old, facts_fact, facts_obj, facts_map, facts_iter, and_true, true_and] at hF)) | (refine wpList_box_at rfl rfl (by (try simp only [Act.eval, Array.getD_eq_getD_getElem?, List.getElem?_toArray, List.getElem?_cons_succ, List.getElem?_cons_zero, Option.getD_some]) <;> exact rfl) (by exact rfl) hA ?_; intro b1 w1 hB hb1; clear hF hA; have hA := hB; clear hB; (try simp only [setL, List.set_cons_zero, List.set_cons_succ, List.cons_append, List.nil_append] at hA); (have hF := hA.facts); (try simp only [facts_cons, facts_nil, facts_cells, facts_old, facts_fact, facts_obj, facts_map, facts_iter, and_true, true_and] at hF)))
  refine (findR_any (hA.sep1 (by with_reducible repeat (first | exact Sel.here | apply Sel.there))) o.num o.foot (by omega)).mono ?_
  rw [hs'.out]
  rintro e w1 ⟨rfl, hT⟩; have hB := hA.call1 (by with_reducible repeat (first | exact Sel.here | apply Sel.there)) hT; clear hF hA hT; have hA := hB; clear hB; (try simp only [setL, List.set_cons_zero, List.set_cons_succ, List.cons_append, List.nil_append] at hA); (have hF := hA.facts); (try simp only [facts_cons, facts_nil, facts_cells, facts_old, facts_fact, facts_obj, facts_map, facts_iter, and_true, true_and] at hF)
  go_wp2_with (first | (refine wpList_alloc_at (E := 44) (z := .agg #[.int .u64 0, .string .empty, .bool false, .bool false, .int .i64 0, .int .i64 0, .slice none 0 0]) (vs := [.int .u64 0, .string .empty, .bool false, .bool false, .int .i64 0, .int .i64 0, .slice none 0 0]) rfl rfl (by kernel_rfl) rfl hA ?_; intro bS w1 hB hbS; clear hF hA; have hA := hB; clear hB; (try simp only [setL, List.set_cons_zero, List.set_cons_succ, List.cons_append, List.nil_append] at hA); (have hF := hA.facts); (try simp only [facts_cons, facts_nil, facts_cells, facts_old, facts_fact, facts_obj, facts_map, facts_iter, and_true, true_and] at hF)) | (refine wpList_alloc_at (E := 48) (z := .agg #[.int .u64 0, .int .i64 0, .int .u64 0, .bool false]) (vs := [.int .u64 0, .int .i64 0, .int .u64 0, .bool false]) rfl rfl (by kernel_rfl) rfl hA ?_; intro bA w1 hB hbA; clear hF hA; have hA := hB; clear hB; (try simp only [setL, List.set_cons_zero, List.set_cons_succ, List.cons_append, List.nil_append] at hA); (have hF := hA.facts); (try simp only [facts_cons, facts_nil, facts_cells, facts_old, facts_fact, facts_obj, facts_map, facts_iter, and_true, true_and] at hF)) | (refine wpList_store_at (b := bS) (j := 0) (vs := SR.cells s) rfl rfl rfl (by (try simp only [Act.eval, Array.getD_eq_getD_getElem?, List.getElem?_toArray, List.getElem?_cons_succ, List.getElem?_cons_zero, Option.getD_some]) <;> exact rfl) (by exact rfl) hA (by with_reducible repeat (first | exact Sel.here | apply Sel.there)) (by kernel_rfl) (SR.ones _) (by show 0 + 7 ≤ 7; omega) ?_; intro w1 hB; clear hF hA; have hA := hB; clear hB; simp only [SR.cells] at hA; (try simp only [setL, List.set_cons_zero, List.set_cons_succ, List.cons_append, List.nil_append] at hA); (have hF := hA.facts); (try simp only [facts_cons, facts_nil, facts_cells, facts_old, facts_fact, facts_obj, facts_map, facts_iter, and_true, true_and] at hF)) | (refine wpList_store_at rfl rfl rfl (by (try simp only [Act.eval, Array.getD_eq_getD_getElem?, List.getElem?_toArray, List.getElem?_cons_succ, List.getElem?_cons_zero, Option.getD_some]) <;> exact rfl) (by exact rfl) hA (by with_reducible repeat (first | exact Sel.here | apply Sel.there)) (by kernel_rfl) rfl (by first | decide | (simp; done) | omega) ?_; intro w1 hB; clear hF hA; have hA := hB; clear hB; (try simp only [setL, List.set_cons_zero, List.set_cons_succ, List.cons_append, List.nil_append] at hA); (have hF := hA.facts); (try simp only [facts_cons, facts_nil, facts_cells, facts_old, facts_fact, facts_obj, facts_map, facts_iter, and_true, true_and] at hF)) | (refine wpList_box_at rfl rfl (by (try simp only [Act.eval, Array.getD_eq_getD_getElem?, List.getElem?_toArray, List.getElem?_cons_succ, List.getElem?_cons_zero, Option.getD_some]) <;> exact rfl) (by exact rfl) hA ?_; intro b1 w1 hB hb1; clear hF hA; have hA := hB; clear hB; (try simp only [setL, List.set_cons_zero, List.set_cons_succ, List.cons_append, List.nil_append] at hA); (have hF := hA.facts); (try simp only [facts_cons, facts_nil, facts_cells, facts_old, facts_fact, facts_obj, facts_map, facts_iter, and_true, true_and] at hF)))
  have hb := book_end (hA.sep1 (by with_reducible repeat (first | exact Sel.here | apply Sel.there))) ho'.out.n0 ho'.out.n1 ho'.out.f
  rw [hI'.out.rel.keepE (n := o.num) (f := o.foot), hs'.out] at hb
  generalize hcd : (if s.op = true then (0 : Int) else 50) = c at *
  have hcd' := Lib.hid hcd
  clear hcd
  refine hb.mono ?_
  clear hb
  rintro e w1 ⟨ss', rfl, hT, hcase⟩
  have hB := hA.call1 (by with_reducible repeat (first | exact Sel.here | apply Sel.there)) hT
  clear hF hA hT
  have hA := hB
  clear hB
  simp only [List.cons_append, List.nil_append] at hA
  have hF := hA.facts
  (try simp only [setL, List.set_cons_zero, List.set_cons_succ, List.cons_append, List.nil_append] at hA); (have hF := hA.facts); (try simp only [facts_cons, facts_nil, facts_cells, facts_old, facts_fact, facts_obj, facts_map, facts_iter, and_true, true_and] at hF)
  go_wp2_with (first | (refine wpList_store_at rfl rfl rfl (by (try simp only [Act.eval, Array.getD_eq_getD_getElem?, List.getElem?_toArray, List.getElem?_cons_succ, List.getElem?_cons_zero, Option.getD_some]) <;> exact rfl) (by exact rfl) hA (by with_reducible repeat (first | exact Sel.here | apply Sel.there)) (by kernel_rfl) rfl (by first | decide | (simp; done) | omega) ?_; intro w1 hB; clear hF hA; have hA := hB; clear hB; (try simp only [setL, List.set_cons_zero, List.set_cons_succ, List.cons_append, List.nil_append] at hA); (have hF := hA.facts); (try simp only [facts_cons, facts_nil, facts_cells, facts_old, facts_fact, facts_obj, facts_map, facts_iter, and_true, true_and] at hF)) | (refine wpList_box_at rfl rfl (by (try simp only [Act.eval, Array.getD_eq_getD_getElem?, List.getElem?_toArray, List.getElem?_cons_succ, List.getElem?_cons_zero, Option.getD_some]) <;> exact rfl) (by exact rfl) hA ?_; intro b1 w1 hB hb1; clear hF hA; have hA := hB; clear hB; (try simp only [setL, List.set_cons_zero, List.set_cons_succ, List.cons_append, List.nil_append] at hA); (have hF := hA.facts); (try simp only [facts_cons, facts_nil, facts_cells, facts_old, facts_fact, facts_obj, facts_map, facts_iter, and_true, true_and] at hF)))
  have hd := endR_any (hA.sep1 (by with_reducible repeat (first | exact Sel.here | apply Sel.there))) s (by omega)
  rw [hcd'.out] at hd
  refine hd.mono ?_
  clear hd
  rintro e w1 (⟨hc, rfl, hT⟩ | ⟨hc, v', rfl, hT⟩)
  · have hss' : ss' = ss := by
      rcases hcase with ⟨_, q⟩ | ⟨q, _⟩
      · exact q
      · exact absurd q hc
    subst hss'
    have hB := hA.call1 (by with_reducible repeat (first | exact Sel.here | apply Sel.there)) hT
    clear hF hA hT hcase
    have hc' := Lib.hid hc
    clear hc
    have hA := hB
    clear hB
    simp only [List.cons_append, List.nil_append] at hA
    have hF := hA.facts
    (try simp only [setL, List.set_cons_zero, List.set_cons_succ, List.cons_append, List.nil_append] at hA); (have hF := hA.facts); (try simp only [facts_cons, facts_nil, facts_cells, facts_old, facts_fact, facts_obj, facts_map, facts_iter, and_true, true_and] at hF)
    go_wp2_with (first | (refine wpList_store_at rfl rfl rfl (by (try simp only [Act.eval, Array.getD_eq_getD_getElem?, List.getElem?_toArray, List.getElem?_cons_succ, List.getElem?_cons_zero, Option.getD_some]) <;> exact rfl) (by exact rfl) hA (by with_reducible repeat (first | exact Sel.here | apply Sel.there)) (by kernel_rfl) rfl (by first | decide | (simp; done) | omega) ?_; intro w1 hB; clear hF hA; have hA := hB; clear hB; (try simp only [setL, List.set_cons_zero, List.set_cons_succ, List.cons_append, List.nil_append] at hA); (have hF := hA.facts); (try simp only [facts_cons, facts_nil, facts_cells, facts_old, facts_fact, facts_obj, facts_map, facts_iter, and_true, true_and] at hF)) | (refine wpList_box_at rfl rfl (by (try simp only [Act.eval, Array.getD_eq_getD_getElem?, List.getElem?_toArray, List.getElem?_cons_succ, List.getElem?_cons_zero, Option.getD_some]) <;> exact rfl) (by exact rfl) hA ?_; intro b1 w1 hB hb1; clear hF hA; have hA := hB; clear hB; (try simp only [setL, List.set_cons_zero, List.set_cons_succ, List.cons_append, List.nil_append] at hA); (have hF := hA.facts); (try simp only [facts_cons, facts_nil, facts_cells, facts_old, facts_fact, facts_obj, facts_map, facts_iter, and_true, true_and] at hF)))
    refine bodyPost_ret (v := .tuple #[.agg #[.slice vx vn vc], .bool true]) (by simp [results, Try.results7, go_sem, hF]) rfl ?_
    exact ⟨_, _, L, PL, rfl, hA.pick (by with_reducible repeat (first | exact Picks.nil | refine Picks.cons (by with_reducible repeat (first | exact Sel.here | apply Sel.there)) ?_)), hI'.out, by omega⟩
  · have hturn : Turned ss o.num o.foot Ses.ended ss' := by
      rcases hcase with ⟨q, _⟩ | ⟨_, q⟩
      · exact absurd hc q
      · exact q
    have hturn' := Lib.hid hturn
    subst hc
    have hB := hA.call1 (by with_reducible repeat (first | exact Sel.here | apply Sel.there)) hT
    clear hF hA hT hcase hturn
    obtain ⟨ax4, n4, cap4, hv4, hn4⟩ := hB.row_hid .here
    subst hv4
    have hA := hB
    clear hB
    simp only [List.cons_append, List.nil_append] at hA
    have hF := hA.facts
    (try simp only [setL, List.set_cons_zero, List.set_cons_succ, List.cons_append, List.nil_append] at hA); (have hF := hA.facts); (try simp only [facts_cons, facts_nil, facts_cells, facts_old, facts_fact, facts_obj, facts_map, facts_iter, and_true, true_and] at hF)
    go_wp2_with (first | (refine wpList_store_at rfl rfl rfl (by (try simp only [Act.eval, Array.getD_eq_getD_getElem?, List.getElem?_toArray, List.getElem?_cons_succ, List.getElem?_cons_zero, Option.getD_some]) <;> exact rfl) (by exact rfl) hA (by with_reducible repeat (first | exact Sel.here | apply Sel.there)) (by kernel_rfl) rfl (by first | decide | (simp; done) | omega) ?_; intro w1 hB; clear hF hA; have hA := hB; clear hB; (try simp only [setL, List.set_cons_zero, List.set_cons_succ, List.cons_append, List.nil_append] at hA); (have hF := hA.facts); (try simp only [facts_cons, facts_nil, facts_cells, facts_old, facts_fact, facts_obj, facts_map, facts_iter, and_true, true_and] at hF)) | (refine wpList_box_at rfl rfl (by (try simp only [Act.eval, Array.getD_eq_getD_getElem?, List.getElem?_toArray, List.getElem?_cons_succ, List.getElem?_cons_zero, Option.getD_some]) <;> exact rfl) (by exact rfl) hA ?_; intro b1 w1 hB hb1; clear hF hA; have hA := hB; clear hB; (try simp only [setL, List.set_cons_zero, List.set_cons_succ, List.cons_append, List.nil_append] at hA); (have hF := hA.facts); (try simp only [facts_cons, facts_nil, facts_cells, facts_old, facts_fact, facts_obj, facts_map, facts_iter, and_true, true_and] at hF)))
    refine bodyPost_ret (v := .tuple #[.agg #[.slice ax4 n4 cap4], .bool true]) (by simp [results, Try.results7, go_sem, hF]) rfl ?_
    have hrel : Rel ss' (putR L (s.ended)) := by
      have := hI'.out.rel.turned (ga := SR.ended) hturn'.out (fun _ => rfl) (fun s1 a1 r1 _ ea => r1.ended)
      rw [hs'.out] at this
      exact this
    exact ⟨ss', _, _, PL, rfl, hA.pick (by with_reducible repeat (first | exact Picks.nil | refine Picks.cons (by with_reducible repeat (first | exact Sel.here | apply Sel.there)) ?_)), hI'.out.put hrel (fun _ q => q) hpool'.out, by have := put_len (L := L) (s.ended); omega⟩
set_option maxRecDepth 100000 in
set_option maxHeartbeats 4000000 in
theorem step_4 {w : World} {p m : Nat} {ss : List Ses} {v : Value} {L : List SR} {PL : List (Value × List AR)} (h : Sep [BookP p m ss, rowR v L, poolP PL] w) (hI : Inv ss L PL) (o : OpR) (ho : o.Ok) (hmax : L.length ≤ 100000) :
    Calls Try.prog 7 #[.pointer (some ⟨p, 0, none⟩), .agg #[v], opV 4 o] w (StepOut w p m ss v L PL) := by
  have hA := At.start h
  have hF := hA.facts
  clear h
  obtain ⟨vx, vn, vc, hv, hvn⟩ := hA.row_hid (v := v) (n := L.length) (xs := flatR L) (by with_reducible repeat (first | exact Sel.here | apply Sel.there))
  subst hv
  have hss : ss.length ≤ 100000 := by rw [hI.rel.len]; exact hmax
  obtain ⟨s, hs⟩ : ∃ s, findR L o.num o.foot = s := ⟨_, rfl⟩
  have hs' := Lib.hid hs
  have hrs : RelS (look ss o.num o.foot) s := by rw [← hs]; exact hI.rel.look _ _
  have hpool : (s.tv, s.told) ∈ PL := by rw [← hs]; exact hI.found _ _
  have hsk : s.num = o.num ∧ s.foot = o.foot := by rw [← hs]; exact findR_key
  have hrs' := Lib.hid hrs
  have hpool' := Lib.hid hpool
  have hsk' := Lib.hid hsk
  have hI' := Lib.hid hI
  have ho' := Lib.hid ho
  clear hs hrs hpool hsk hI ho
  unfold opV
  go_enter Try.func7, Try.ntmps7
  go_wp2_with (first | (refine wpList_box_at (E := 31) rfl rfl (by (try simp only [Act.eval, Array.getD_eq_getD_getElem?, List.getElem?_toArray, List.getElem?_cons_succ, List.getElem?_cons_zero, Option.getD_some]) <;> exact rfl) (by exact rfl) hA ?_; intro bB w1 hB hbB; clear hF hA; have hA := hB; clear hB; (try simp only [setL, List.set_cons_zero, List.set_cons_succ, List.cons_append, List.nil_append] at hA); (have hF := hA.facts); (try simp only [facts_cons, facts_nil, facts_cells, facts_old, facts_fact, facts_obj, facts_map, facts_iter, and_true, true_and] at hF)) | (refine wpList_box_at (E := 36) rfl rfl (by (try simp only [Act.eval, Array.getD_eq_getD_getElem?, List.getElem?_toArray, List.getElem?_cons_succ, List.getElem?_cons_zero, Option.getD_some]) <;> exact rfl) (by exact rfl) hA ?_; intro bO w1 hB hbO; clear hF hA; have hA := hB; clear hB; (try simp only [setL, List.set_cons_zero, List.set_cons_succ, List.cons_append, List.nil_append] at hA); (have hF := hA.facts); (try simp only [facts_cons, facts_nil, facts_cells, facts_old, facts_fact, facts_obj, facts_map, facts_iter, and_true, true_and] at hF)) | (refine wpList_alloc_at (E := 31) (z := .agg #[.slice none 0 0]) (vs := [.slice none 0 0]) rfl rfl (by kernel_rfl) rfl hA ?_; intro bZ w1 hB hbZ; clear hF hA; have hA := hB; clear hB; (try simp only [setL, List.set_cons_zero, List.set_cons_succ, List.cons_append, List.nil_append] at hA); (have hF := hA.facts); (try simp only [facts_cons, facts_nil, facts_cells, facts_old, facts_fact, facts_obj, facts_map, facts_iter, and_true, true_and] at hF)) | (refine wpList_store_at rfl rfl rfl (by (try simp only [Act.eval, Array.getD_eq_getD_getElem?, List.getElem?_toArray, List.getElem?_cons_succ, List.getElem?_cons_zero, Option.getD_some]) <;> exact rfl) (by exact rfl) hA (by with_reducible repeat (first | exact Sel.here | apply Sel.there)) (by kernel_rfl) rfl (by first | decide | (simp; done) | omega) ?_; intro w1 hB; clear hF hA; have hA := hB; clear hB; (try simp only [setL, List.set_cons_zero, List.set_cons_succ, List.cons_append, List.nil_append] at hA); (have hF := hA.facts); (try simp only [facts_cons, facts_nil, facts_cells, facts_old, facts_fact, facts_obj, facts_map, facts_iter, and_true, true_and] at hF)) | (refine wpList_box_at rfl rfl (by (try simp only [Act.eval, Array.getD_eq_getD_getElem?, List.getElem?_toArray, List.getElem?_cons_succ, List.getElem?_cons_zero, Option.getD_some]) <;> exact rfl) (by exact rfl) hA ?_; intro b1 w1 hB hb1; clear hF hA; have hA := hB; clear hB; (try simp only [setL, List.set_cons_zero, List.set_cons_succ, List.cons_append, List.nil_append] at hA); (have hF := hA.facts); (try simp only [facts_cons, facts_nil, facts_cells, facts_old, facts_fact, facts_obj, facts_map, facts_iter, and_true, true_and] at hF)))
  refine (findR_any (hA.sep1 (by with_reducible repeat (first | exact Sel.here | apply Sel.there))) o.num o.foot (by omega)).mono ?_
  rw [hs'.out]
  rintro e w1 ⟨rfl, hT⟩; have hB := hA.call1 (by with_reducible repeat (first | exact Sel.here | apply Sel.there)) hT; clear hF hA hT; have hA := hB; clear hB; (try simp only [setL, List.set_cons_zero, List.set_cons_succ, List.cons_append, List.nil_append] at hA); (have hF := hA.facts); (try simp only [facts_cons, facts_nil, facts_cells, facts_old, facts_fact, facts_obj, facts_map, facts_iter, and_true, true_and] at hF)
  go_wp2_with (first | (refine wpList_alloc_at (E := 44) (z := .agg #[.int .u64 0, .string .empty, .bool false, .bool false, .int .i64 0, .int .i64 0, .slice none 0 0]) (vs := [.int .u64 0, .string .empty, .bool false, .bool false, .int .i64 0, .int .i64 0, .slice none 0 0]) rfl rfl (by kernel_rfl) rfl hA ?_; intro bS w1 hB hbS; clear hF hA; have hA := hB; clear hB; (try simp only [setL, List.set_cons_zero, List.set_cons_succ, List.cons_append, List.nil_append] at hA); (have hF := hA.facts); (try simp only [facts_cons, facts_nil, facts_cells, facts_old, facts_fact, facts_obj, facts_map, facts_iter, and_true, true_and] at hF)) | (refine wpList_alloc_at (E := 48) (z := .agg #[.int .u64 0, .int .i64 0, .int .u64 0, .bool false]) (vs := [.int .u64 0, .int .i64 0, .int .u64 0, .bool false]) rfl rfl (by kernel_rfl) rfl hA ?_; intro bA w1 hB hbA; clear hF hA; have hA := hB; clear hB; (try simp only [setL, List.set_cons_zero, List.set_cons_succ, List.cons_append, List.nil_append] at hA); (have hF := hA.facts); (try simp only [facts_cons, facts_nil, facts_cells, facts_old, facts_fact, facts_obj, facts_map, facts_iter, and_true, true_and] at hF)) | (refine wpList_store_at (b := bS) (j := 0) (vs := SR.cells s) rfl rfl rfl (by (try simp only [Act.eval, Array.getD_eq_getD_getElem?, List.getElem?_toArray, List.getElem?_cons_succ, List.getElem?_cons_zero, Option.getD_some]) <;> exact rfl) (by exact rfl) hA (by with_reducible repeat (first | exact Sel.here | apply Sel.there)) (by kernel_rfl) (SR.ones _) (by show 0 + 7 ≤ 7; omega) ?_; intro w1 hB; clear hF hA; have hA := hB; clear hB; simp only [SR.cells] at hA; (try simp only [setL, List.set_cons_zero, List.set_cons_succ, List.cons_append, List.nil_append] at hA); (have hF := hA.facts); (try simp only [facts_cons, facts_nil, facts_cells, facts_old, facts_fact, facts_obj, facts_map, facts_iter, and_true, true_and] at hF)) | (refine wpList_store_at rfl rfl rfl (by (try simp only [Act.eval, Array.getD_eq_getD_getElem?, List.getElem?_toArray, List.getElem?_cons_succ, List.getElem?_cons_zero, Option.getD_some]) <;> exact rfl) (by exact rfl) hA (by with_reducible repeat (first | exact Sel.here | apply Sel.there)) (by kernel_rfl) rfl (by first | decide | (simp; done) | omega) ?_; intro w1 hB; clear hF hA; have hA := hB; clear hB; (try simp only [setL, List.set_cons_zero, List.set_cons_succ, List.cons_append, List.nil_append] at hA); (have hF := hA.facts); (try simp only [facts_cons, facts_nil, facts_cells, facts_old, facts_fact, facts_obj, facts_map, facts_iter, and_true, true_and] at hF)) | (refine wpList_box_at rfl rfl (by (try simp only [Act.eval, Array.getD_eq_getD_getElem?, List.getElem?_toArray, List.getElem?_cons_succ, List.getElem?_cons_zero, Option.getD_some]) <;> exact rfl) (by exact rfl) hA ?_; intro b1 w1 hB hb1; clear hF hA; have hA := hB; clear hB; (try simp only [setL, List.set_cons_zero, List.set_cons_succ, List.cons_append, List.nil_append] at hA); (have hF := hA.facts); (try simp only [facts_cons, facts_nil, facts_cells, facts_old, facts_fact, facts_obj, facts_map, facts_iter, and_true, true_and] at hF)))
  have hb := book_expire (hA.sep1 (by with_reducible repeat (first | exact Sel.here | apply Sel.there))) ho'.out.n0 ho'.out.n1 ho'.out.f o.a
  rw [hI'.out.rel.expE (n := o.num) (f := o.foot) o.a, hs'.out] at hb
  generalize hcd : expE s o.a = c at *
  have hcd' := Lib.hid hcd
  clear hcd
  refine hb.mono ?_
  clear hb
  rintro e w1 ⟨ss', rfl, hT, hcase⟩
  have hB := hA.call1 (by with_reducible repeat (first | exact Sel.here | apply Sel.there)) hT
  clear hF hA hT
  have hA := hB
  clear hB
  simp only [List.cons_append, List.nil_append] at hA
  have hF := hA.facts
  (try simp only [setL, List.set_cons_zero, List.set_cons_succ, List.cons_append, List.nil_append] at hA); (have hF := hA.facts); (try simp only [facts_cons, facts_nil, facts_cells, facts_old, facts_fact, facts_obj, facts_map, facts_iter, and_true, true_and] at hF)
  go_wp2_with (first | (refine wpList_store_at rfl rfl rfl (by (try simp only [Act.eval, Array.getD_eq_getD_getElem?, List.getElem?_toArray, List.getElem?_cons_succ, List.getElem?_cons_zero, Option.getD_some]) <;> exact rfl) (by exact rfl) hA (by with_reducible repeat (first | exact Sel.here | apply Sel.there)) (by kernel_rfl) rfl (by first | decide | (simp; done) | omega) ?_; intro w1 hB; clear hF hA; have hA := hB; clear hB; (try simp only [setL, List.set_cons_zero, List.set_cons_succ, List.cons_append, List.nil_append] at hA); (have hF := hA.facts); (try simp only [facts_cons, facts_nil, facts_cells, facts_old, facts_fact, facts_obj, facts_map, facts_iter, and_true, true_and] at hF)) | (refine wpList_box_at rfl rfl (by (try simp only [Act.eval, Array.getD_eq_getD_getElem?, List.getElem?_toArray, List.getElem?_cons_succ, List.getElem?_cons_zero, Option.getD_some]) <;> exact rfl) (by exact rfl) hA ?_; intro b1 w1 hB hb1; clear hF hA; have hA := hB; clear hB; (try simp only [setL, List.set_cons_zero, List.set_cons_succ, List.cons_append, List.nil_append] at hA); (have hF := hA.facts); (try simp only [facts_cons, facts_nil, facts_cells, facts_old, facts_fact, facts_obj, facts_map, facts_iter, and_true, true_and] at hF)))
  have hd := expireR_any (hA.sep1 (by with_reducible repeat (first | exact Sel.here | apply Sel.there))) s o.a (by omega)
  rw [hcd'.out] at hd
  refine hd.mono ?_
  clear hd
  rintro e w1 (⟨hc, rfl, hT⟩ | ⟨hc, v', rfl, hT⟩)
  · have hss' : ss' = ss := by
      rcases hcase with ⟨_, q⟩ | ⟨q, _⟩
      · exact q
      · exact absurd q hc
    subst hss'
    have hB := hA.call1 (by with_reducible repeat (first | exact Sel.here | apply Sel.there)) hT
    clear hF hA hT hcase
    have hc' := Lib.hid hc
    clear hc
    have hA := hB
    clear hB
    simp only [List.cons_append, List.nil_append] at hA
    have hF := hA.facts
    (try simp only [setL, List.set_cons_zero, List.set_cons_succ, List.cons_append, List.nil_append] at hA); (have hF := hA.facts); (try simp only [facts_cons, facts_nil, facts_cells, facts_old, facts_fact, facts_obj, facts_map, facts_iter, and_true, true_and] at hF)
    go_wp2_with (first | (refine wpList_store_at rfl rfl rfl (by (try simp only [Act.eval, Array.getD_eq_getD_getElem?, List.getElem?_toArray, List.getElem?_cons_succ, List.getElem?_cons_zero, Option.getD_some]) <;> exact rfl) (by exact rfl) hA (by with_reducible repeat (first | exact Sel.here | apply Sel.there)) (by kernel_rfl) rfl (by first | decide | (simp; done) | omega) ?_; intro w1 hB; clear hF hA; have hA := hB; clear hB; (try simp only [setL, List.set_cons_zero, List.set_cons_succ, List.cons_append, List.nil_append] at hA); (have hF := hA.facts); (try simp only [facts_cons, facts_nil, facts_cells, facts_old, facts_fact, facts_obj, facts_map, facts_iter, and_true, true_and] at hF)) | (refine wpList_box_at rfl rfl (by (try simp only [Act.eval, Array.getD_eq_getD_getElem?, List.getElem?_toArray, List.getElem?_cons_succ, List.getElem?_cons_zero, Option.getD_some]) <;> exact rfl) (by exact rfl) hA ?_; intro b1 w1 hB hb1; clear hF hA; have hA := hB; clear hB; (try simp only [setL, List.set_cons_zero, List.set_cons_succ, List.cons_append, List.nil_append] at hA); (have hF := hA.facts); (try simp only [facts_cons, facts_nil, facts_cells, facts_old, facts_fact, facts_obj, facts_map, facts_iter, and_true, true_and] at hF)))
    refine bodyPost_ret (v := .tuple #[.agg #[.slice vx vn vc], .bool true]) (by simp [results, Try.results7, go_sem, hF]) rfl ?_
    exact ⟨_, _, L, PL, rfl, hA.pick (by with_reducible repeat (first | exact Picks.nil | refine Picks.cons (by with_reducible repeat (first | exact Sel.here | apply Sel.there)) ?_)), hI'.out, by omega⟩
  · have hturn : Turned ss o.num o.foot Ses.ended ss' := by
      rcases hcase with ⟨q, _⟩ | ⟨_, q⟩
      · exact absurd hc q
      · exact q
    have hturn' := Lib.hid hturn
    subst hc
    have hB := hA.call1 (by with_reducible repeat (first | exact Sel.here | apply Sel.there)) hT
    clear hF hA hT hcase hturn
    obtain ⟨ax4, n4, cap4, hv4, hn4⟩ := hB.row_hid .here
    subst hv4
    have hA := hB
    clear hB
    simp only [List.cons_append, List.nil_append] at hA
    have hF := hA.facts
    (try simp only [setL, List.set_cons_zero, List.set_cons_succ, List.cons_append, List.nil_append] at hA); (have hF := hA.facts); (try simp only [facts_cons, facts_nil, facts_cells, facts_old, facts_fact, facts_obj, facts_map, facts_iter, and_true, true_and] at hF)
    go_wp2_with (first | (refine wpList_store_at rfl rfl rfl (by (try simp only [Act.eval, Array.getD_eq_getD_getElem?, List.getElem?_toArray, List.getElem?_cons_succ, List.getElem?_cons_zero, Option.getD_some]) <;> exact rfl) (by exact rfl) hA (by with_reducible repeat (first | exact Sel.here | apply Sel.there)) (by kernel_rfl) rfl (by first | decide | (simp; done) | omega) ?_; intro w1 hB; clear hF hA; have hA := hB; clear hB; (try simp only [setL, List.set_cons_zero, List.set_cons_succ, List.cons_append, List.nil_append] at hA); (have hF := hA.facts); (try simp only [facts_cons, facts_nil, facts_cells, facts_old, facts_fact, facts_obj, facts_map, facts_iter, and_true, true_and] at hF)) | (refine wpList_box_at rfl rfl (by (try simp only [Act.eval, Array.getD_eq_getD_getElem?, List.getElem?_toArray, List.getElem?_cons_succ, List.getElem?_cons_zero, Option.getD_some]) <;> exact rfl) (by exact rfl) hA ?_; intro b1 w1 hB hb1; clear hF hA; have hA := hB; clear hB; (try simp only [setL, List.set_cons_zero, List.set_cons_succ, List.cons_append, List.nil_append] at hA); (have hF := hA.facts); (try simp only [facts_cons, facts_nil, facts_cells, facts_old, facts_fact, facts_obj, facts_map, facts_iter, and_true, true_and] at hF)))
    refine bodyPost_ret (v := .tuple #[.agg #[.slice ax4 n4 cap4], .bool true]) (by simp [results, Try.results7, go_sem, hF]) rfl ?_
    have hrel : Rel ss' (putR L (s.ended)) := by
      have := hI'.out.rel.turned (ga := SR.ended) hturn'.out (fun _ => rfl) (fun s1 a1 r1 _ ea => r1.ended)
      rw [hs'.out] at this
      exact this
    exact ⟨ss', _, _, PL, rfl, hA.pick (by with_reducible repeat (first | exact Picks.nil | refine Picks.cons (by with_reducible repeat (first | exact Sel.here | apply Sel.there)) ?_)), hI'.out.put hrel (fun _ q => q) hpool'.out, by have := put_len (L := L) (s.ended); omega⟩
end Go.Proofs.Ytbdcgadcjgmgbaa.Lease
