/- A book: the requests that were answered; what was told, whatever the session. -/
import Derived.Test.YtnkddjomanaadaaSortU8
namespace Go.Proofs.Ytnkddjomanaadaa.Lease
open Go.RowKit
open Go.Maps (Keyed)
open _root_.Go.Proofs.Ytnkddjomanaadaa.SortU (rowI sortI)
set_option linter.unusedSimpArgs false
set_option linter.unusedVariables false

def reqs (s : Ses) : List Int := s.told.map (·.1)
theorem saids_keys (l : List (Int × Ans)) : (saids l).map (·.1) = (l.map (·.1)).map Unt.seV := by simp [saids, saidE, Unt.seV]
def ReqPost (w : World) (p m : Nat) (ss : List Ses) (n : Int) (f : ByteArray) (e : Ending) (w' : World) : Prop := ∃ v, e = .returned v ∧ At [BookP p m ss] w [rowI v (sortI (reqs (look ss n f))), BookP p m ss] w'
set_option maxRecDepth 100000 in
theorem requests_any {w : World} {p m : Nat} {ss : List Ses} (h : Sep [BookP p m ss] w) {n : Int} {f : ByteArray} (h0 : 0 ≤ n) (h1 : n < big64) (hf : f.size ≤ maxLen) (hmax : (look ss n f).told.length ≤ 1000000) :
    Calls Try.prog 28 #[.pointer (some ⟨p, 0, none⟩), .agg #[.int .u64 n, .string f]] w (ReqPost w p m ss n f) := by
  obtain ⟨kl, hk⟩ := keyS h0 h1 hf
  cases hn : find ss n f with
  | none =>
    have hmiss := Lib.hid (find_none hn)
    have hr := Lib.hid (show sortI (reqs (look ss n f)) = [] by unfold look; rw [hn]; simp [fresh, reqs, sortI])
    have hA := begin0 h
    have hF := hA.facts
    (try simp only [setL, List.set_cons_zero, List.set_cons_succ, List.cons_append, List.nil_append] at hA); (have hF := hA.facts); (try simp only [facts_cons, facts_nil, facts_cells, facts_old, facts_fact, facts_obj, facts_map, facts_iter, and_true, true_and] at hF)
    clear h hmax
    unfold keyV at *
    go_enter Try.func28, Try.ntmps28
    go_wp2_with (first | ((with_reducible show wpList _ _ _ ({ dst := _, op := Op.store _ _ _, type := _, pos := _, after := _, guard := _ } :: _) _ _); refine wpList_store_at rfl rfl rfl (by (try simp only [Act.eval, Array.getD_eq_getD_getElem?, List.getElem?_toArray, List.getElem?_cons_succ, List.getElem?_cons_zero, Option.getD_some]) <;> exact rfl) (by exact rfl) hA (by with_reducible repeat (first | exact Sel.here | apply Sel.there)) (by kernel_rfl) rfl (by first | decide | (simp; done) | omega) ?_; intro w1 hB; clear hF hA; have hA := hB; clear hB; (try simp only [setL, List.set_cons_zero, List.set_cons_succ, List.cons_append, List.nil_append] at hA); (have hF := hA.facts); (try simp only [facts_cons, facts_nil, facts_cells, facts_old, facts_fact, facts_obj, facts_map, facts_iter, and_true, true_and] at hF)) | ((with_reducible show wpList _ _ _ ({ dst := _, op := Op.box _ _, type := _, pos := _, after := _, guard := _ } :: _) _ _); refine wpList_box_at rfl rfl (by (try simp only [Act.eval, Array.getD_eq_getD_getElem?, List.getElem?_toArray, List.getElem?_cons_succ, List.getElem?_cons_zero, Option.getD_some]) <;> exact rfl) (by exact rfl) hA ?_; intro b1 w1 hB hb1; clear hF hA; have hA := hB; clear hB; (try simp only [setL, List.set_cons_zero, List.set_cons_succ, List.cons_append, List.nil_append] at hA); (have hF := hA.facts); (try simp only [facts_cons, facts_nil, facts_cells, facts_old, facts_fact, facts_obj, facts_map, facts_iter, and_true, true_and] at hF)))
    have hl : ∀ q, (Instr.lookup 56 (.map (some m)) (.agg #[.int .u64 n, .string f]) true).run Try.prog (w1.drewN q) = .ok (.tuple #[.pointer none, .bool false]) (w1.drewN q) := fun q =>
      MapAt.look_none (w := w1.drewN q) ((hA.drewN q).get (A := mapC m (ents ss)) (by with_reducible repeat (first | exact Sel.here | apply Sel.there))) lawS Try.underlying56 hk hmiss.out (by kernel_rfl) true
    go_quiet (fail)
    have hA := hA.drewN nq; generalize World.drewN _ nq = w1 at *; clear hF; (try simp only [setL, List.set_cons_zero, List.set_cons_succ, List.cons_append, List.nil_append] at hA); (have hF := hA.facts); (try simp only [facts_cons, facts_nil, facts_cells, facts_old, facts_fact, facts_obj, facts_map, facts_iter, and_true, true_and] at hF)
    go_wp2_with (first | ((with_reducible show wpList _ _ _ ({ dst := _, op := Op.store _ _ _, type := _, pos := _, after := _, guard := _ } :: _) _ _); refine wpList_store_at rfl rfl rfl (by (try simp only [Act.eval, Array.getD_eq_getD_getElem?, List.getElem?_toArray, List.getElem?_cons_succ, List.getElem?_cons_zero, Option.getD_some]) <;> exact rfl) (by exact rfl) hA (by with_reducible repeat (first | exact Sel.here | apply Sel.there)) (by kernel_rfl) rfl (by first | decide | (simp; done) | omega) ?_; intro w1 hB; clear hF hA; have hA := hB; clear hB; (try simp only [setL, List.set_cons_zero, List.set_cons_succ, List.cons_append, List.nil_append] at hA); (have hF := hA.facts); (try simp only [facts_cons, facts_nil, facts_cells, facts_old, facts_fact, facts_obj, facts_map, facts_iter, and_true, true_and] at hF)) | ((with_reducible show wpList _ _ _ ({ dst := _, op := Op.box _ _, type := _, pos := _, after := _, guard := _ } :: _) _ _); refine wpList_box_at rfl rfl (by (try simp only [Act.eval, Array.getD_eq_getD_getElem?, List.getElem?_toArray, List.getElem?_cons_succ, List.getElem?_cons_zero, Option.getD_some]) <;> exact rfl) (by exact rfl) hA ?_; intro b1 w1 hB hb1; clear hF hA; have hA := hB; clear hB; (try simp only [setL, List.set_cons_zero, List.set_cons_succ, List.cons_append, List.nil_append] at hA); (have hF := hA.facts); (try simp only [facts_cons, facts_nil, facts_cells, facts_old, facts_fact, facts_obj, facts_map, facts_iter, and_true, true_and] at hF)))
    refine bodyPost_ret (v := .slice none 0 0) (by simp [results, Try.results28, go_sem, hF]) rfl ⟨_, rfl, ?_⟩
    rw [hr.out]
    have hN : At _ _ (rowI (.slice none 0 0) [] :: _) _ := (fold0 (m := m) (ss := ss) hA (by with_reducible repeat (first | exact Sel.here | apply Sel.there)) (by with_reducible repeat (first | exact Sel.here | apply Sel.there)) (by with_reducible repeat (first | exact Sel.here | apply Sel.there))).row_nil 29 1
    exact hN.pick (by with_reducible repeat (first | exact Picks.nil | refine Picks.cons (by with_reducible repeat (first | exact Sel.here | apply Sel.there)) ?_))
  | some s =>
    have hmem := Lib.hid (find_mem hn)
    have hlk : look ss n f = s := by unfold look; rw [hn]; rfl
    rw [hlk] at hmax
    have hlk' := Lib.hid hlk
    clear hlk
    obtain ⟨l1, l2, e, _, _, _⟩ := find_split hn
    have e' := Lib.hid e
    subst e
    have hA := begin1 h
    simp only [Ses.cells] at hA
    (try simp only [setL, List.set_cons_zero, List.set_cons_succ, List.cons_append, List.nil_append] at hA); (have hF := hA.facts); (try simp only [facts_cons, facts_nil, facts_cells, facts_old, facts_fact, facts_obj, facts_map, facts_iter, and_true, true_and] at hF)
    clear h hn
    unfold keyV at *
    go_enter Try.func28, Try.ntmps28
    go_wp2_with (first | ((with_reducible show wpList _ _ _ ({ dst := _, op := Op.store _ _ _, type := _, pos := _, after := _, guard := _ } :: _) _ _); refine wpList_store_at rfl rfl rfl (by (try simp only [Act.eval, Array.getD_eq_getD_getElem?, List.getElem?_toArray, List.getElem?_cons_succ, List.getElem?_cons_zero, Option.getD_some]) <;> exact rfl) (by exact rfl) hA (by with_reducible repeat (first | exact Sel.here | apply Sel.there)) (by kernel_rfl) rfl (by first | decide | (simp; done) | omega) ?_; intro w1 hB; clear hF hA; have hA := hB; clear hB; (try simp only [setL, List.set_cons_zero, List.set_cons_succ, List.cons_append, List.nil_append] at hA); (have hF := hA.facts); (try simp only [facts_cons, facts_nil, facts_cells, facts_old, facts_fact, facts_obj, facts_map, facts_iter, and_true, true_and] at hF)) | ((with_reducible show wpList _ _ _ ({ dst := _, op := Op.box _ _, type := _, pos := _, after := _, guard := _ } :: _) _ _); refine wpList_box_at rfl rfl (by (try simp only [Act.eval, Array.getD_eq_getD_getElem?, List.getElem?_toArray, List.getElem?_cons_succ, List.getElem?_cons_zero, Option.getD_some]) <;> exact rfl) (by exact rfl) hA ?_; intro b1 w1 hB hb1; clear hF hA; have hA := hB; clear hB; (try simp only [setL, List.set_cons_zero, List.set_cons_succ, List.cons_append, List.nil_append] at hA); (have hF := hA.facts); (try simp only [facts_cons, facts_nil, facts_cells, facts_old, facts_fact, facts_obj, facts_map, facts_iter, and_true, true_and] at hF)))
    have hl : ∀ q, (Instr.lookup 56 (.map (some m)) (.agg #[.int .u64 n, .string f]) true).run Try.prog (w1.drewN q) = .ok (.tuple #[s.ptr, .bool true]) (w1.drewN q) := fun q =>
      MapAt.look_some (w := w1.drewN q) ((hA.drewN q).get (A := mapC m (ents (l1 ++ s :: l2))) (by with_reducible repeat (first | exact Sel.here | apply Sel.there))) lawS Try.underlying56 hk hmem.out true
    unfold Ses.ptr at hl
    go_quiet (fail)
    have hA := hA.drewN nq; generalize World.drewN _ nq = w1 at *; clear hF; (try simp only [setL, List.set_cons_zero, List.set_cons_succ, List.cons_append, List.nil_append] at hA); (have hF := hA.facts); (try simp only [facts_cons, facts_nil, facts_cells, facts_old, facts_fact, facts_obj, facts_map, facts_iter, and_true, true_and] at hF)
    go_wp2_with (first | ((with_reducible show wpList _ _ _ ({ dst := _, op := Op.store _ _ _, type := _, pos := _, after := _, guard := _ } :: _) _ _); refine wpList_store_at rfl rfl rfl (by (try simp only [Act.eval, Array.getD_eq_getD_getElem?, List.getElem?_toArray, List.getElem?_cons_succ, List.getElem?_cons_zero, Option.getD_some]) <;> exact rfl) (by exact rfl) hA (by with_reducible repeat (first | exact Sel.here | apply Sel.there)) (by kernel_rfl) rfl (by first | decide | (simp; done) | omega) ?_; intro w1 hB; clear hF hA; have hA := hB; clear hB; (try simp only [setL, List.set_cons_zero, List.set_cons_succ, List.cons_append, List.nil_append] at hA); (have hF := hA.facts); (try simp only [facts_cons, facts_nil, facts_cells, facts_old, facts_fact, facts_obj, facts_map, facts_iter, and_true, true_and] at hF)) | ((with_reducible show wpList _ _ _ ({ dst := _, op := Op.box _ _, type := _, pos := _, after := _, guard := _ } :: _) _ _); refine wpList_box_at rfl rfl (by (try simp only [Act.eval, Array.getD_eq_getD_getElem?, List.getElem?_toArray, List.getElem?_cons_succ, List.getElem?_cons_zero, Option.getD_some]) <;> exact rfl) (by exact rfl) hA ?_; intro b1 w1 hB hb1; clear hF hA; have hA := hB; clear hB; (try simp only [setL, List.set_cons_zero, List.set_cons_succ, List.cons_append, List.nil_append] at hA); (have hF := hA.facts); (try simp only [facts_cons, facts_nil, facts_cells, facts_old, facts_fact, facts_obj, facts_map, facts_iter, and_true, true_and] at hF)))
    refine (SortU.mkeys_in (some s.tm) _).mono ?_
    rintro e _ ⟨rfl, rfl⟩
    have hB := hA.alloc [.map (some s.tm)] 82
    clear hF hA
    go_wp2_with fail
    refine (SortU.sorted_any hB .here (by repeat (first | exact Sel.here | apply Sel.there)) (reqs s) (saids_keys s.told) (by simp [reqs]; omega)).mono ?_
    rintro e w2 ⟨v, rfl, hD⟩
    clear hB
    go_wp2_with fail
    go_ret
    refine ⟨v, rfl, ?_⟩
    rw [hlk'.out]
    exact (fold1 (m := m) (s := s) hD (by with_reducible repeat (first | exact Sel.here | apply Sel.there)) (by with_reducible repeat (first | exact Sel.here | apply Sel.there)) (by repeat (first | exact Sel.here | apply Sel.there)) (by with_reducible repeat (first | exact Sel.here | apply Sel.there)) (by with_reducible repeat (first | exact Sel.here | apply Sel.there))).pick (by with_reducible repeat (first | exact Picks.nil | refine Picks.cons (by with_reducible repeat (first | exact Sel.here | apply Sel.there)) ?_))
/-- what was told to a request -/
def toldV (o : Option Ans) : Value := match o with
  | some a => .tuple #[.agg #[.int .i64 a.e, .int .u64 a.n, .bool a.g], .bool true]
  | none => .tuple #[.agg #[.int .i64 0, .int .u64 0, .bool false], .bool false]
theorem told_any {w : World} {p m : Nat} {ss : List Ses} (h : Sep [BookP p m ss] w) {n r : Int} {f : ByteArray} (h0 : 0 ≤ n) (h1 : n < big64) (hf : f.size ≤ maxLen) (r0 : 0 ≤ r) (r1 : r < big64) :
    Calls Try.prog 29 #[.pointer (some ⟨p, 0, none⟩), .agg #[.int .u64 n, .string f], .int .u64 r] w fun e w' => e = .returned (toldV (said (look ss n f).told r)) ∧ At [BookP p m ss] w [BookP p m ss] w' := by
  cases hn : find ss n f with
  | none =>
    have hlk : look ss n f = fresh n f 0 0 := by unfold look; rw [hn]; rfl
    rw [hlk, show said (fresh n f 0 0).told r = none from rfl]
    exact told_none h h0 h1 hf hn
  | some s =>
    have hlk : look ss n f = s := by unfold look; rw [hn]; rfl
    rw [hlk]
    cases hr : said s.told r with
    | none => exact told_new h h0 h1 hf hn r0 r1 hr
    | some a => exact told_old h h0 h1 hf hn r0 r1 hr
end Go.Proofs.Ytnkddjomanaadaa.Lease
