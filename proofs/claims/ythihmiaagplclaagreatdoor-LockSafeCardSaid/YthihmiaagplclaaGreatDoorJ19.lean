/- LockUb, joined. -/
import Derived.Test.YthihmiaagplclaaGreatDoorJ18
section
namespace Go.Proofs.YthihmiaagplclaaGreatDoor.Lock
open Go.RowKit
open Go.Maps (Keyed)
open Path (bl rightB overB)
set_option linter.unusedSimpArgs false
set_option linter.unusedVariables false

def GrRel (w : World) (first : Int) (v vC : Value) (L : List Ent) (e : Ent) (m : Nat) (b1 : Nat) (k : Nat) (u : Value) (wr : World) : Prop :=
  ∃ i : Nat, u = .int .i64 i ∧ i + k = m ∧ At [rowE v L] w [boxB b1 first v vC, rowE v L] wr ∧ ∀ x ∈ L.take i, wayB x e = false
theorem grant_yes {L : List Ent} {k : Nat} (hk : k < L.length) (h : ∀ x ∈ L.take k, wayB x L[k] = false) : grantD L k = true := by
  unfold grantD
  rw [List.getElem?_eq_getElem hk]
  simp only [List.all_eq_true]
  intro x hx
  rw [h x hx]
  rfl
theorem grant_no {L : List Ent} {k i : Nat} (hk : k < L.length) (hi : i < k) (h : wayB (L[i]'(by omega)) L[k] = true) : grantD L k = false := by
  unfold grantD
  rw [List.getElem?_eq_getElem hk]
  simp only [List.all_eq_false]
  exact ⟨L[i]'(by omega), List.mem_take_iff_getElem.2 ⟨i, by omega, rfl⟩, by rw [h]; simp⟩
set_option maxRecDepth 100000 in
set_option maxHeartbeats 2000000 in
theorem grantedR_any {w : World} {v : Value} {L : List Ent} (h : Sep [rowE v L] w) (first : Int) (vC : Value) (hvC : ∃ ax k cap, vC = .slice ax k cap) (k : Nat) (hk : k < L.length) (hmax : L.length ≤ 1000000) (hsz : ∀ x ∈ L, x.path.size ≤ 1000) :
    Calls Tryz.prog 24 #[.agg #[.int .u64 first, v, vC], .int .i64 k] w fun e w' => e = .returned (.bool (grantD L k)) ∧ At [rowE v L] w [rowE v L] w' := by
  obtain ⟨cx, ck, cc, rfl⟩ := hvC
  have hA := At.start h
  have hF := hA.facts
  clear h
  obtain ⟨ax, cap, rfl, hax, hcap, _⟩ := hA.row_form (v := v) (xs := flatE L) (by with_reducible repeat (first | exact Sel.here | apply Sel.there))
  (try simp only [setL, List.set_cons_zero, List.set_cons_succ, List.cons_append, List.nil_append] at hA); (have hF := hA.facts); (try simp only [facts_cons, facts_nil, facts_cells, facts_old, facts_fact, facts_obj, facts_map, facts_iter, facts_row, and_true, true_and] at hF)
  go_enter Tryz.func24, Tryz.ntmps24
  go_wp2_with (first | ((with_reducible show wpList _ _ _ ({ dst := _, op := Op.box _ _, type := _, pos := _, after := _, guard := _ } :: _) _ _); refine wpList_box_at (E := 36) rfl rfl (by (try simp only [Act.eval, Array.getD_eq_getD_getElem?, List.getElem?_toArray, List.getElem?_cons_succ, List.getElem?_cons_zero, Option.getD_some]) <;> exact rfl) (by exact rfl) hA ?_; intro bB w1 hB hbB; clear hF hA; have hA := hB; clear hB; (try simp only [setL, List.set_cons_zero, List.set_cons_succ, List.cons_append, List.nil_append] at hA); (have hF := hA.facts); (try simp only [facts_cons, facts_nil, facts_cells, facts_old, facts_fact, facts_obj, facts_map, facts_iter, facts_row, and_true, true_and] at hF)) | ((with_reducible show wpList _ _ _ ({ dst := _, op := Op.store _ _ _, type := _, pos := _, after := _, guard := _ } :: _) _ _); refine wpList_store_at rfl rfl rfl (by (try simp only [Act.eval, Array.getD_eq_getD_getElem?, List.getElem?_toArray, List.getElem?_cons_succ, List.getElem?_cons_zero, Option.getD_some]) <;> exact rfl) (by exact rfl) hA (by with_reducible repeat (first | exact Sel.here | apply Sel.there)) (by kernel_rfl) rfl (by first | decide | (simp; done) | omega) ?_; intro w1 hB; clear hF hA; have hA := hB; clear hB; (try simp only [setL, List.set_cons_zero, List.set_cons_succ, List.cons_append, List.nil_append] at hA); (have hF := hA.facts); (try simp only [facts_cons, facts_nil, facts_cells, facts_old, facts_fact, facts_obj, facts_map, facts_iter, facts_row, and_true, true_and] at hF)) | ((with_reducible show wpList _ _ _ ({ dst := _, op := Op.box _ _, type := _, pos := _, after := _, guard := _ } :: _) _ _); refine wpList_box_at rfl rfl (by (try simp only [Act.eval, Array.getD_eq_getD_getElem?, List.getElem?_toArray, List.getElem?_cons_succ, List.getElem?_cons_zero, Option.getD_some]) <;> exact rfl) (by exact rfl) hA ?_; intro b1 w1 hB hb1; clear hF hA; have hA := hB; clear hB; (try simp only [setL, List.set_cons_zero, List.set_cons_succ, List.cons_append, List.nil_append] at hA); (have hF := hA.facts); (try simp only [facts_cons, facts_nil, facts_cells, facts_old, facts_fact, facts_obj, facts_map, facts_iter, facts_row, and_true, true_and] at hF)))
  try go_frame
  go_loopg [5] k (GrRel w first (.slice ax L.length cap) (.slice cx ck cc) L L[k] k bB)
  case atStart => exact ⟨0, rfl, by simp, hA, by simp⟩
  case round =>
    obtain ⟨i, rfl, hik, hB, hno⟩ := hrel
    have hno' := Lib.hid hno
    clear hF hA hno
    have hA := hB
    clear hB
    by_cases hi : i < k
    · obtain ⟨g, c, rfl, _, hcm, hcl, hct, hB⟩ := hA.row_open (ax := ax) (cap := cap) (n := L.length) (xs := flatE L) (by with_reducible repeat (first | exact Sel.here | apply Sel.there)) (by omega)
      have hiL : i < L.length := by omega
      have hx : L[i]? = some L[i] := List.getElem?_eq_getElem hiL
      have hy : L[k]? = some L[k] := List.getElem?_eq_getElem hk
      have hd1 : (c.drop (i * 6)).take 6 = [.string L[i].path, .int .u64 L[i].num, .string L[i].foot, .int .i64 L[i].mode, .int .u64 L[i].n, .int .i64 L[i].stamp] := row_cells Ent.cells_len hct hx
      have hd2 : (c.drop (k * 6)).take 6 = [.string L[k].path, .int .u64 L[k].num, .string L[k].foot, .int .i64 L[k].mode, .int .u64 L[k].n, .int .i64 L[k].stamp] := row_cells Ent.cells_len hct hy
      have hway := fun w1 => wayR_any L[i] L[k] w1 (hsz _ (List.getElem_mem hiL)) (hsz _ (List.getElem_mem hk))
      have hbad := Lib.hid (grant_no hk hi)
      have hgood := Lib.hid (take_more (P := fun x => wayB x L[k]) hiL hno'.out)
      obtain ⟨wb, hwb⟩ : ∃ wb, wayB L[i] L[k] = wb := ⟨_, rfl⟩
      rw [hwb] at hway
      have hwb' := Lib.hid hwb
      clear hA hwb hx hy
      have hA := hB
      clear hB
      (try simp only [setL, List.set_cons_zero, List.set_cons_succ, List.cons_append, List.nil_append] at hA); (have hF := hA.facts); (try simp only [facts_cons, facts_nil, facts_cells, facts_old, facts_fact, facts_obj, facts_map, facts_iter, facts_row, and_true, true_and] at hF)
      go_wp2_with fail
      (refine wp_region_all (Cl _ _ _) (by kernel_rfl) (by kernel_rfl) (Cl.drew hA) ?_); (have hn1 := Cl.none hA); (have hn2 := Cl.none2 hA); (repeat (first | go_big_quiet_skip | (go_big_quiet_want; (first | (refine quiet_loads_at (ty := 52) (n := 6) rfl rfl (by with_reducible repeat (first | exact Sel.here | apply Sel.there)) (by kernel_rfl) (by kernel_rfl) (by first | assumption | ((try simp only [List.drop_succ_cons, List.drop_zero, List.take_succ_cons, List.take_zero]) <;> exact rfl)) (by exact rfl) ?_; go_frame; go_big_quiet_on) | (refine quiet_load_at rfl rfl (by with_reducible repeat (first | exact Sel.here | apply Sel.there)) (by kernel_rfl) (by first | assumption | exact rfl) ?_; go_frame; go_big_quiet_on) | (go_big_quiet_op; (first | go_big_quiet_on | ((apply Exists.intro); (refine ⟨fun w1 hw => ?_, ?_⟩); (focus ((have hw := Cl.out hw); (exact through0 hw (hway _)))); (go_big_quiet_on))))))))
      (refine wpQuiet_nil ?_); (intro w1 hB); (clear hF hA hn1 hn2); (have hA := Cl.out hB); (clear hB); (try simp only [setL, List.set_cons_zero, List.set_cons_succ, List.cons_append, List.nil_append] at hA); (have hF := hA.facts); (try simp only [facts_cons, facts_nil, facts_cells, facts_old, facts_fact, facts_obj, facts_map, facts_iter, facts_row, and_true, true_and] at hF)
      clear hway
      cases wb
      · go_wp2_with fail
        go_roundg (gk - 1)
        case measure => omega
        case rel => exact ⟨i + 1, by simp, by omega, (shut_E hA (by with_reducible repeat (first | exact Sel.here | apply Sel.there)) hcl hcap hcm hct).pick (by with_reducible repeat (first | exact Picks.nil | refine Picks.cons (by with_reducible repeat (first | exact Sel.here | apply Sel.there)) ?_)), hgood.out hwb'.out⟩
      · have hr := Lib.hid (hbad.out hwb'.out)
        go_wp2_with fail
        go_ret
        exact ⟨by rw [hr.out]; rfl, (shut_E hA (by with_reducible repeat (first | exact Sel.here | apply Sel.there)) hcl hcap hcm hct).only1 (by with_reducible repeat (first | exact Sel.here | apply Sel.there))⟩
    · have hik2 : i = k := by omega
      subst hik2
      have hr := Lib.hid (grant_yes hk hno'.out)
      (try simp only [setL, List.set_cons_zero, List.set_cons_succ, List.cons_append, List.nil_append] at hA); (have hF := hA.facts); (try simp only [facts_cons, facts_nil, facts_cells, facts_old, facts_fact, facts_obj, facts_map, facts_iter, facts_row, and_true, true_and] at hF)
      go_wp2_with fail
      go_ret
      exact ⟨by rw [hr.out]; rfl, hA.only1 (by with_reducible repeat (first | exact Sel.here | apply Sel.there))⟩

/-! ### Could -/
def CouldRel (w : World) (first : Int) (v vC : Value) (L : List Ent) (e : Ent) (b1 : Nat) (k : Nat) (u : Value) (wr : World) : Prop :=
  ∃ i : Nat, u = .int .i64 i ∧ i + k = L.length ∧ At [rowE v L] w [boxB b1 first v vC, rowE v L] wr ∧ ∀ x ∈ L.take i, wayB x e = false
theorem could_no {L : List Ent} {p : ByteArray} {mode : Int} {i : Nat} (hi : i < L.length) (h : wayB L[i] ⟨p, 0, .empty, mode, 0, 0⟩ = true) : couldD L p mode = false := by
  unfold couldD
  rw [Bool.and_eq_false_iff]
  left
  simp only [List.all_eq_false]
  exact ⟨L[i], List.getElem_mem hi, by rw [h]; simp⟩
theorem could_end {L : List Ent} {p : ByteArray} {mode : Int} (h : ∀ x ∈ L, wayB x ⟨p, 0, .empty, mode, 0, 0⟩ = false) : couldD L p mode = rightM p mode := by
  unfold couldD
  have : L.all (fun x => !wayB x ⟨p, 0, .empty, mode, 0, 0⟩) = true := by
    simp only [List.all_eq_true]
    intro x hx
    rw [h x hx]
    rfl
  rw [this, Bool.true_and]
set_option maxRecDepth 100000 in
set_option maxHeartbeats 2000000 in
theorem couldR_any {w : World} {v : Value} {L : List Ent} (h : Sep [rowE v L] w) (first : Int) (vC : Value) (hvC : ∃ ax k cap, vC = .slice ax k cap) (p : ByteArray) (mode : Int) (hp : p.size ≤ 1000) (hmax : L.length ≤ 1000000) (hsz : ∀ x ∈ L, x.path.size ≤ 1000) :
    Calls Tryz.prog 19 #[.agg #[.int .u64 first, v, vC], .string p, .int .i64 mode] w fun e w' => e = .returned (.bool (couldD L p mode)) ∧ At [rowE v L] w [rowE v L] w' := by
  obtain ⟨cx, ck, cc, rfl⟩ := hvC
  have hA := At.start h
  have hF := hA.facts
  clear h
  obtain ⟨ax, cap, rfl, hax, hcap, _⟩ := hA.row_form (v := v) (xs := flatE L) (by with_reducible repeat (first | exact Sel.here | apply Sel.there))
  (try simp only [setL, List.set_cons_zero, List.set_cons_succ, List.cons_append, List.nil_append] at hA); (have hF := hA.facts); (try simp only [facts_cons, facts_nil, facts_cells, facts_old, facts_fact, facts_obj, facts_map, facts_iter, facts_row, and_true, true_and] at hF)
  go_enter Tryz.func19, Tryz.ntmps19
  go_wp2_with (first | ((with_reducible show wpList _ _ _ ({ dst := _, op := Op.box _ _, type := _, pos := _, after := _, guard := _ } :: _) _ _); refine wpList_box_at (E := 36) rfl rfl (by (try simp only [Act.eval, Array.getD_eq_getD_getElem?, List.getElem?_toArray, List.getElem?_cons_succ, List.getElem?_cons_zero, Option.getD_some]) <;> exact rfl) (by exact rfl) hA ?_; intro bB w1 hB hbB; clear hF hA; have hA := hB; clear hB; (try simp only [setL, List.set_cons_zero, List.set_cons_succ, List.cons_append, List.nil_append] at hA); (have hF := hA.facts); (try simp only [facts_cons, facts_nil, facts_cells, facts_old, facts_fact, facts_obj, facts_map, facts_iter, facts_row, and_true, true_and] at hF)) | ((with_reducible show wpList _ _ _ ({ dst := _, op := Op.store _ _ _, type := _, pos := _, after := _, guard := _ } :: _) _ _); refine wpList_store_at rfl rfl rfl (by (try simp only [Act.eval, Array.getD_eq_getD_getElem?, List.getElem?_toArray, List.getElem?_cons_succ, List.getElem?_cons_zero, Option.getD_some]) <;> exact rfl) (by exact rfl) hA (by with_reducible repeat (first | exact Sel.here | apply Sel.there)) (by kernel_rfl) rfl (by first | decide | (simp; done) | omega) ?_; intro w1 hB; clear hF hA; have hA := hB; clear hB; (try simp only [setL, List.set_cons_zero, List.set_cons_succ, List.cons_append, List.nil_append] at hA); (have hF := hA.facts); (try simp only [facts_cons, facts_nil, facts_cells, facts_old, facts_fact, facts_obj, facts_map, facts_iter, facts_row, and_true, true_and] at hF)) | ((with_reducible show wpList _ _ _ ({ dst := _, op := Op.box _ _, type := _, pos := _, after := _, guard := _ } :: _) _ _); refine wpList_box_at rfl rfl (by (try simp only [Act.eval, Array.getD_eq_getD_getElem?, List.getElem?_toArray, List.getElem?_cons_succ, List.getElem?_cons_zero, Option.getD_some]) <;> exact rfl) (by exact rfl) hA ?_; intro b1 w1 hB hb1; clear hF hA; have hA := hB; clear hB; (try simp only [setL, List.set_cons_zero, List.set_cons_succ, List.cons_append, List.nil_append] at hA); (have hF := hA.facts); (try simp only [facts_cons, facts_nil, facts_cells, facts_old, facts_fact, facts_obj, facts_map, facts_iter, facts_row, and_true, true_and] at hF)))
  try go_frame
  go_loopg [7] L.length (CouldRel w first (.slice ax L.length cap) (.slice cx ck cc) L ⟨p, 0, .empty, mode, 0, 0⟩ bB)
  case atStart => exact ⟨0, rfl, by simp, hA, by simp⟩
  case round =>
    obtain ⟨i, rfl, hik, hB, hno⟩ := hrel
    have hno' := Lib.hid hno
    clear hF hA hno
    have hA := hB
    clear hB
    by_cases hi : i < L.length
    · obtain ⟨g, c, rfl, _, hcm, hcl, hct, hB⟩ := hA.row_open (ax := ax) (cap := cap) (n := L.length) (xs := flatE L) (by with_reducible repeat (first | exact Sel.here | apply Sel.there)) (by omega)
      have hx : L[i]? = some L[i] := List.getElem?_eq_getElem hi
      (have c0 : c[i * 6]? = some (.string L[i].path) := cells_at Ent.cells_len hct hx 0 (by omega)); (have c1 : c[i * 6 + 1]? = some (.int .u64 L[i].num) := cells_at Ent.cells_len hct hx 1 (by omega)); (have c2 : c[i * 6 + 2]? = some (.string L[i].foot) := cells_at Ent.cells_len hct hx 2 (by omega)); (have c3 : c[i * 6 + 3]? = some (.int .i64 L[i].mode) := cells_at Ent.cells_len hct hx 3 (by omega)); (have c4 : c[i * 6 + 4]? = some (.int .u64 L[i].n) := cells_at Ent.cells_len hct hx 4 (by omega)); (have c5 : c[i * 6 + 5]? = some (.int .i64 L[i].stamp) := cells_at Ent.cells_len hct hx 5 (by omega))
      have hway := fun w1 => wayR_any L[i] ⟨p, 0, .empty, mode, 0, 0⟩ w1 (hsz _ (List.getElem_mem hi)) hp
      simp only [Ent.val] at hway
      have hbad := Lib.hid (could_no (p := p) (mode := mode) hi)
      have hgood := Lib.hid (take_more (P := fun x => wayB x ⟨p, 0, .empty, mode, 0, 0⟩) hi hno'.out)
      obtain ⟨wb, hwb⟩ : ∃ wb, wayB L[i] ⟨p, 0, .empty, mode, 0, 0⟩ = wb := ⟨_, rfl⟩
      rw [hwb] at hway
      have hwb' := Lib.hid hwb
      clear hA hwb hx
      have hA := hB
      clear hB
      (try simp only [setL, List.set_cons_zero, List.set_cons_succ, List.cons_append, List.nil_append] at hA); (have hF := hA.facts); (try simp only [facts_cons, facts_nil, facts_cells, facts_old, facts_fact, facts_obj, facts_map, facts_iter, facts_row, and_true, true_and] at hF)
      go_wp2_with fail
      refine (hway _).mono ?_
      clear hway
      rintro e w2 ⟨rfl, hx⟩
      have hB := hA.ext hx
      clear hF hA hx
      have hA := hB
      clear hB
      (try simp only [setL, List.set_cons_zero, List.set_cons_succ, List.cons_append, List.nil_append] at hA); (have hF := hA.facts); (try simp only [facts_cons, facts_nil, facts_cells, facts_old, facts_fact, facts_obj, facts_map, facts_iter, facts_row, and_true, true_and] at hF)
      cases wb
      · go_wp2_with fail
        go_roundg (gk - 1)
        case measure => omega
        case rel => exact ⟨i + 1, by simp, by omega, (shut_E hA (by with_reducible repeat (first | exact Sel.here | apply Sel.there)) hcl hcap hcm hct).pick (by with_reducible repeat (first | exact Picks.nil | refine Picks.cons (by with_reducible repeat (first | exact Sel.here | apply Sel.there)) ?_)), hgood.out hwb'.out⟩
      · have hr := Lib.hid (hbad.out hwb'.out)
        go_wp2_with fail
        go_ret
        exact ⟨by rw [hr.out]; rfl, (shut_E hA (by with_reducible repeat (first | exact Sel.here | apply Sel.there)) hcl hcap hcm hct).only1 (by with_reducible repeat (first | exact Sel.here | apply Sel.there))⟩
    · have hr := Lib.hid (could_end (p := p) (mode := mode) (fun x hx => hno'.out x (by rw [List.take_of_length_le (by omega)]; exact hx)))
      obtain ⟨rb, hrb⟩ : ∃ rb, rightB (bl p) = rb := ⟨_, rfl⟩
      have hrr := Path.rightR_is wr hp hrb
      have hrb' := Lib.hid hrb
      clear hrb
      (try simp only [setL, List.set_cons_zero, List.set_cons_succ, List.cons_append, List.nil_append] at hA); (have hF := hA.facts); (try simp only [facts_cons, facts_nil, facts_cells, facts_old, facts_fact, facts_obj, facts_map, facts_iter, facts_row, and_true, true_and] at hF)
      go_wp2_with fail
      refine hrr.mono ?_
      clear hrr
      rintro e w2 ⟨rfl, hx⟩
      have hB := hA.ext hx
      clear hF hA hx
      have hA := hB
      clear hB
      (try simp only [setL, List.set_cons_zero, List.set_cons_succ, List.cons_append, List.nil_append] at hA); (have hF := hA.facts); (try simp only [facts_cons, facts_nil, facts_cells, facts_old, facts_fact, facts_obj, facts_map, facts_iter, facts_row, and_true, true_and] at hF)
      cases rb
      · go_wp2_with fail
        go_ret
        exact ⟨by rw [hr.out]; unfold rightM; rw [hrb'.out]; rfl, hA.only1 (by with_reducible repeat (first | exact Sel.here | apply Sel.there))⟩
      · by_cases m1 : 1 ≤ mode
        · by_cases m2 : mode ≤ 2
          · have hm := Lib.hid (show (decide (mode = 1) || decide (mode = 2)) = true by simp; omega)
            go_wp2_with fail
            go_ret
            exact ⟨by rw [hr.out]; unfold rightM; rw [hrb'.out, hm.out]; rfl, hA.only1 (by with_reducible repeat (first | exact Sel.here | apply Sel.there))⟩
          · have hm := Lib.hid (show (decide (mode = 1) || decide (mode = 2)) = false by simp; omega)
            have m2' := decide_eq_false m2
            have m3 := Lib.hid m2'
            go_wp2_with fail
            go_ret
            exact ⟨by rw [hr.out]; unfold rightM; rw [hrb'.out, hm.out]; first | rfl | (rw [show (true && false) = decide (mode ≤ 2) from m3.out.symm]; rfl), hA.only1 (by with_reducible repeat (first | exact Sel.here | apply Sel.there))⟩
        · have hm := Lib.hid (show (decide (mode = 1) || decide (mode = 2)) = false by simp; omega)
          go_wp2_with fail
          go_ret
          exact ⟨by rw [hr.out]; unfold rightM; rw [hrb'.out, hm.out]; rfl, hA.only1 (by with_reducible repeat (first | exact Sel.here | apply Sel.there))⟩

/-! ### Check -/
def ChkRel (w : World) (first : Int) (v vC : Value) (L : List Ent) (p : ByteArray) (n : Int) (b1 : Nat) (k : Nat) (u : Value) (wr : World) : Prop :=
  ∃ i : Nat, u = .int .i64 i ∧ i + k = L.length ∧ At [rowE v L] w [boxB b1 first v vC, rowE v L] wr ∧ ∀ x ∈ L.take i, decide (x.path = p ∧ x.n = n) = false
theorem check_at {L : List Ent} {p : ByteArray} {n : Int} {i : Nat} (hi : i < L.length) (hn : ∀ x ∈ L.take i, decide (x.path = p ∧ x.n = n) = false) (hy : L[i].path = p ∧ L[i].n = n) : checkD L p n = grantD L i := by
  unfold checkD
  rw [List.findIdx?_eq_some_iff_getElem.2 ⟨hi, by simpa using hy, fun j hj => by
    have := hn L[j] (List.mem_take_iff_getElem.2 ⟨j, by omega, rfl⟩)
    simp at this
    simpa using this⟩]
theorem check_end {L : List Ent} {p : ByteArray} {n : Int} (hn : ∀ x ∈ L, decide (x.path = p ∧ x.n = n) = false) : checkD L p n = false := by
  unfold checkD
  rw [List.findIdx?_eq_none_iff.2 hn]
set_option maxRecDepth 100000 in
set_option maxHeartbeats 2000000 in
theorem checkR_any {w : World} {v : Value} {L : List Ent} (h : Sep [rowE v L] w) (first : Int) (vC : Value) (hvC : ∃ ax k cap, vC = .slice ax k cap) (p : ByteArray) (n : Int) (hmax : L.length ≤ 1000000) (hsz : ∀ x ∈ L, x.path.size ≤ 1000) :
    Calls Tryz.prog 17 #[.agg #[.int .u64 first, v, vC], .string p, .int .u64 n] w fun e w' => e = .returned (.bool (checkD L p n)) ∧ At [rowE v L] w [rowE v L] w' := by
  obtain ⟨cx, ck, cc, rfl⟩ := hvC
  have hA := At.start h
  have hF := hA.facts
  clear h
  obtain ⟨ax, cap, rfl, hax, hcap, _⟩ := hA.row_form (v := v) (xs := flatE L) (by with_reducible repeat (first | exact Sel.here | apply Sel.there))
  (try simp only [setL, List.set_cons_zero, List.set_cons_succ, List.cons_append, List.nil_append] at hA); (have hF := hA.facts); (try simp only [facts_cons, facts_nil, facts_cells, facts_old, facts_fact, facts_obj, facts_map, facts_iter, facts_row, and_true, true_and] at hF)
  go_enter Tryz.func17, Tryz.ntmps17
  go_wp2_with (first | ((with_reducible show wpList _ _ _ ({ dst := _, op := Op.box _ _, type := _, pos := _, after := _, guard := _ } :: _) _ _); refine wpList_box_at (E := 36) rfl rfl (by (try simp only [Act.eval, Array.getD_eq_getD_getElem?, List.getElem?_toArray, List.getElem?_cons_succ, List.getElem?_cons_zero, Option.getD_some]) <;> exact rfl) (by exact rfl) hA ?_; intro bB w1 hB hbB; clear hF hA; have hA := hB; clear hB; (try simp only [setL, List.set_cons_zero, List.set_cons_succ, List.cons_append, List.nil_append] at hA); (have hF := hA.facts); (try simp only [facts_cons, facts_nil, facts_cells, facts_old, facts_fact, facts_obj, facts_map, facts_iter, facts_row, and_true, true_and] at hF)) | ((with_reducible show wpList _ _ _ ({ dst := _, op := Op.store _ _ _, type := _, pos := _, after := _, guard := _ } :: _) _ _); refine wpList_store_at rfl rfl rfl (by (try simp only [Act.eval, Array.getD_eq_getD_getElem?, List.getElem?_toArray, List.getElem?_cons_succ, List.getElem?_cons_zero, Option.getD_some]) <;> exact rfl) (by exact rfl) hA (by with_reducible repeat (first | exact Sel.here | apply Sel.there)) (by kernel_rfl) rfl (by first | decide | (simp; done) | omega) ?_; intro w1 hB; clear hF hA; have hA := hB; clear hB; (try simp only [setL, List.set_cons_zero, List.set_cons_succ, List.cons_append, List.nil_append] at hA); (have hF := hA.facts); (try simp only [facts_cons, facts_nil, facts_cells, facts_old, facts_fact, facts_obj, facts_map, facts_iter, facts_row, and_true, true_and] at hF)) | ((with_reducible show wpList _ _ _ ({ dst := _, op := Op.box _ _, type := _, pos := _, after := _, guard := _ } :: _) _ _); refine wpList_box_at rfl rfl (by (try simp only [Act.eval, Array.getD_eq_getD_getElem?, List.getElem?_toArray, List.getElem?_cons_succ, List.getElem?_cons_zero, Option.getD_some]) <;> exact rfl) (by exact rfl) hA ?_; intro b1 w1 hB hb1; clear hF hA; have hA := hB; clear hB; (try simp only [setL, List.set_cons_zero, List.set_cons_succ, List.cons_append, List.nil_append] at hA); (have hF := hA.facts); (try simp only [facts_cons, facts_nil, facts_cells, facts_old, facts_fact, facts_obj, facts_map, facts_iter, facts_row, and_true, true_and] at hF)))
  try go_frame
  go_loopg [7] L.length (ChkRel w first (.slice ax L.length cap) (.slice cx ck cc) L p n bB)
  case atStart => exact ⟨0, rfl, by simp, hA, by simp⟩
  case round =>
    obtain ⟨i, rfl, hik, hB, hno⟩ := hrel
    have hno' := Lib.hid hno
    clear hF hA hno
    have hA := hB
    clear hB
    by_cases hi : i < L.length
    · have hgr := fun (w1 : World) (q : Sep [rowE (.slice ax L.length cap) L] w1) => grantedR_any q first (.slice cx ck cc) ⟨_, _, _, rfl⟩ i hi hmax hsz
      obtain ⟨gb, hgb⟩ : ∃ gb, grantD L i = gb := ⟨_, rfl⟩
      rw [hgb] at hgr
      have hat := Lib.hid (fun q => (check_at (p := p) (n := n) hi hno'.out q).trans hgb)
      clear hgb
      obtain ⟨g, c, rfl, _, hcm, hcl, hct, hB⟩ := hA.row_open (ax := ax) (cap := cap) (n := L.length) (xs := flatE L) (by with_reducible repeat (first | exact Sel.here | apply Sel.there)) (by omega)
      have hx : L[i]? = some L[i] := List.getElem?_eq_getElem hi
      (have c0 : c[i * 6]? = some (.string L[i].path) := cells_at Ent.cells_len hct hx 0 (by omega)); (have c1 : c[i * 6 + 1]? = some (.int .u64 L[i].num) := cells_at Ent.cells_len hct hx 1 (by omega)); (have c2 : c[i * 6 + 2]? = some (.string L[i].foot) := cells_at Ent.cells_len hct hx 2 (by omega)); (have c3 : c[i * 6 + 3]? = some (.int .i64 L[i].mode) := cells_at Ent.cells_len hct hx 3 (by omega)); (have c4 : c[i * 6 + 4]? = some (.int .u64 L[i].n) := cells_at Ent.cells_len hct hx 4 (by omega)); (have c5 : c[i * 6 + 5]? = some (.int .i64 L[i].stamp) := cells_at Ent.cells_len hct hx 5 (by omega))
      have hgood := Lib.hid (take_more (P := fun x => decide (x.path = p ∧ x.n = n)) hi hno'.out)
      clear hA hx
      have hA := hB
      clear hB
      (try simp only [setL, List.set_cons_zero, List.set_cons_succ, List.cons_append, List.nil_append] at hA); (have hF := hA.facts); (try simp only [facts_cons, facts_nil, facts_cells, facts_old, facts_fact, facts_obj, facts_map, facts_iter, facts_row, and_true, true_and] at hF)
      by_cases h1 : L[i].path = p
      · have e1 : (L[i].path.toList == p.toList) = true := by rw [same_ba]; exact decide_eq_true h1
        by_cases h2 : L[i].n = n
        · have e2 : (L[i].n == n) = true := by simpa using h2
          have hr := Lib.hid (hat.out ⟨h1, h2⟩)
          clear h1 h2
          go_wp2_with fail
          have hB := shut_E hA (by with_reducible repeat (first | exact Sel.here | apply Sel.there)) hcl hcap hcm hct
          clear hF hA
          refine (hgr _ (hB.sep1 (by with_reducible repeat (first | exact Sel.here | apply Sel.there)))).mono ?_
          clear hgr
          rintro e w2 ⟨rfl, hT⟩
          have hA := hB.call1 (A := rowE (.slice (some ⟨g, 0, none⟩) L.length cap) L) .here hT
          clear hB hT
          go_wp2_with fail
          go_ret
          exact ⟨by rw [hr.out]; rfl, hA.only1 .here⟩
        · have e2 : (L[i].n == n) = false := by simpa using h2
          have hr := Lib.hid (hgood.out (decide_eq_false (fun q => h2 q.2)))
          clear h1 h2
          go_wp2_with fail
          go_roundg (gk - 1)
          case measure => omega
          case rel => exact ⟨i + 1, by simp, by omega, (shut_E hA (by with_reducible repeat (first | exact Sel.here | apply Sel.there)) hcl hcap hcm hct).pick (by with_reducible repeat (first | exact Picks.nil | refine Picks.cons (by with_reducible repeat (first | exact Sel.here | apply Sel.there)) ?_)), hr.out⟩
      · have e1 : (L[i].path.toList == p.toList) = false := by rw [same_ba]; exact decide_eq_false h1
        have hr := Lib.hid (hgood.out (decide_eq_false (fun q => h1 q.1)))
        clear h1
        go_wp2_with fail
        go_roundg (gk - 1)
        case measure => omega
        case rel => exact ⟨i + 1, by simp, by omega, (shut_E hA (by with_reducible repeat (first | exact Sel.here | apply Sel.there)) hcl hcap hcm hct).pick (by with_reducible repeat (first | exact Picks.nil | refine Picks.cons (by with_reducible repeat (first | exact Sel.here | apply Sel.there)) ?_)), hr.out⟩
    · have hr := Lib.hid (check_end (p := p) (n := n) (fun x hx => hno'.out x (by rw [List.take_of_length_le (by omega)]; exact hx)))
      (try simp only [setL, List.set_cons_zero, List.set_cons_succ, List.cons_append, List.nil_append] at hA); (have hF := hA.facts); (try simp only [facts_cons, facts_nil, facts_cells, facts_old, facts_fact, facts_obj, facts_map, facts_iter, facts_row, and_true, true_and] at hF)
      go_wp2_with fail
      go_ret
      exact ⟨by rw [hr.out]; rfl, hA.only1 (by with_reducible repeat (first | exact Sel.here | apply Sel.there))⟩
end Go.Proofs.YthihmiaagplclaaGreatDoor.Lock
end
