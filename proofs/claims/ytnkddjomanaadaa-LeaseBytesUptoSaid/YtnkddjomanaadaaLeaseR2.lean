/- The document's answer of layer 16 (lease): Said. -/
import Derived.Test.YtnkddjomanaadaaLeaseR
namespace Go.Proofs.Ytnkddjomanaadaa.Lease
open Go.RowKit
set_option linter.unusedSimpArgs false
set_option linter.unusedVariables false

theorem AR.cells_len (s : AR) : s.cells.length = 4 := rfl
theorem AR.ones (s : AR) : s.cells.all (·.oneCell') = true := rfl
def flatA (l : List AR) : List Value := l.flatMap AR.cells
abbrev rowA (v : Value) (l : List AR) : Part := .row 61 4 v l.length (flatA l)
def noAR : AR := ⟨0, 0, 0, false⟩
def saidA (l : List AR) (r : Int) : Option AR := l.find? (fun a => a.r == r)
theorem shut_a {L0 K F : List Part} {w0 w : World} {g cap : Nat} {c : List Value} {l : List AR} (hA : At L0 w0 K w) (s : Sel (Part.cells g c 61) K F) (hcl : c.length = cap * 4) (hcap : l.length ≤ cap) (hcm : cap ≤ maxLen) (hct : c.take (l.length * 4) = flatA l) :
    At L0 w0 (rowA (.slice (some ⟨g, 0, none⟩) l.length cap) l :: F) w := hA.row_shut s hcl hcap hcm hct
abbrev zeroA (b : Nat) : Part := .cells b [.int .u64 0, .int .i64 0, .int .u64 0, .bool false] 61
def SaidRel (w : World) (s : SR) (r : Int) (b1 b2 : Nat) (k : Nat) (u : Value) (wr : World) : Prop :=
  ∃ i : Nat, u = .int .i64 i ∧ i + k = s.told.length ∧ At [rowA s.tv s.told] w [zeroA b2, Part.cells b1 s.cells 47, rowA s.tv s.told] wr ∧ ∀ x ∈ s.told.take i, (x.r == r) = false
set_option maxRecDepth 100000 in
set_option maxHeartbeats 1000000 in
theorem saidA_any {w : World} {s : SR} (h : Sep [rowA s.tv s.told] w) (r : Int) (hmax : s.told.length ≤ 1000000) :
    Calls Try.prog 38 #[.agg s.cells.toArray, .int .u64 r] w fun e w' => e = .returned (.tuple #[.agg ((saidA s.told r).getD noAR).cells.toArray, .bool (saidA s.told r).isSome]) ∧ At [rowA s.tv s.told] w [rowA s.tv s.told] w' := by
  obtain ⟨num, foot, op, dead, dl, ttl, ax, cap, told⟩ := s
  have hA := At.start h
  have hF := hA.facts
  clear h
  simp only [SR.tv] at *
  obtain ⟨ax', cap', he0, hax, hcap, _⟩ := hA.row_form (v := .slice ax told.length cap) (xs := flatA told) (by with_reducible repeat (first | exact Sel.here | apply Sel.there))
  cases he0
  unfold SR.cells
  go_enter Try.func38, Try.ntmps38
  go_wp2_with (first
    | (refine wpList_box_at (E := 47) rfl rfl (by (try simp only [Act.eval, Array.getD_eq_getD_getElem?, List.getElem?_toArray, List.getElem?_cons_succ, List.getElem?_cons_zero, Option.getD_some]) <;> exact rfl) (by exact rfl) hA ?_; intro bB w1 hB hbB; clear hF hA; have hA := hB; clear hB; (try simp only [setL, List.set_cons_zero, List.set_cons_succ, List.cons_append, List.nil_append] at hA); (have hF := hA.facts); (try simp only [facts_cons, facts_nil, facts_cells, facts_old, facts_fact, facts_obj, facts_map, facts_iter, and_true, true_and] at hF))
    | ((with_reducible show wpList _ _ _ ({ dst := _, op := Op.store _ _ _, type := _, pos := _, after := _, guard := _ } :: _) _ _); refine wpList_store_at rfl rfl rfl (by (try simp only [Act.eval, Array.getD_eq_getD_getElem?, List.getElem?_toArray, List.getElem?_cons_succ, List.getElem?_cons_zero, Option.getD_some]) <;> exact rfl) (by exact rfl) hA (by with_reducible repeat (first | exact Sel.here | apply Sel.there)) (by kernel_rfl) rfl (by first | decide | (simp; done) | omega) ?_; intro w1 hB; clear hF hA; have hA := hB; clear hB; (try simp only [setL, List.set_cons_zero, List.set_cons_succ, List.cons_append, List.nil_append] at hA); (have hF := hA.facts); (try simp only [facts_cons, facts_nil, facts_cells, facts_old, facts_fact, facts_obj, facts_map, facts_iter, and_true, true_and] at hF)) | ((with_reducible show wpList _ _ _ ({ dst := _, op := Op.box _ _, type := _, pos := _, after := _, guard := _ } :: _) _ _); refine wpList_box_at rfl rfl (by (try simp only [Act.eval, Array.getD_eq_getD_getElem?, List.getElem?_toArray, List.getElem?_cons_succ, List.getElem?_cons_zero, Option.getD_some]) <;> exact rfl) (by exact rfl) hA ?_; intro b1 w1 hB hb1; clear hF hA; have hA := hB; clear hB; (try simp only [setL, List.set_cons_zero, List.set_cons_succ, List.cons_append, List.nil_append] at hA); (have hF := hA.facts); (try simp only [facts_cons, facts_nil, facts_cells, facts_old, facts_fact, facts_obj, facts_map, facts_iter, and_true, true_and] at hF)) | ((with_reducible show wpList _ _ _ ({ dst := _, op := Op.alloc _, type := _, pos := _, after := _, guard := _ } :: _) _ _); refine wpList_alloc_at (E := 61) (z := .agg #[.int .u64 0, .int .i64 0, .int .u64 0, .bool false]) (vs := [.int .u64 0, .int .i64 0, .int .u64 0, .bool false]) rfl rfl (by kernel_rfl) rfl hA ?_; intro b1 w1 hB hb1; clear hF hA; have hA := hB; clear hB; (try simp only [setL, List.set_cons_zero, List.set_cons_succ, List.cons_append, List.nil_append] at hA); (have hF := hA.facts); (try simp only [facts_cons, facts_nil, facts_cells, facts_old, facts_fact, facts_obj, facts_map, facts_iter, and_true, true_and] at hF)))
  try go_frame
  go_loopg [6] told.length (SaidRel w ⟨num, foot, op, dead, dl, ttl, ax, cap, told⟩ r bB b1)
  case atStart => exact ⟨0, rfl, by simp, hA, by simp⟩
  case round =>
    obtain ⟨i, rfl, hik, hB, hno⟩ := hrel
    have hno' := Lib.hid hno
    clear hF hA hno
    have hA := hB
    clear hB
    simp only [SR.cells, SR.tv] at hA hik hno'
    by_cases hi : i < told.length
    · obtain ⟨g, c, rfl, _, hcm, hcl, hct, hB⟩ := hA.row_open (ax := ax) (cap := cap) (n := told.length) (xs := flatA told) (by with_reducible repeat (first | exact Sel.here | apply Sel.there)) (by omega)
      have hx : told[i]? = some told[i] := List.getElem?_eq_getElem hi
      have c0 : c[i * 4]? = some (.int .u64 told[i].r) := cells_at AR.cells_len hct hx 0 (by omega)
      have c1 : c[i * 4 + 1]? = some (.int .i64 told[i].e) := cells_at AR.cells_len hct hx 1 (by omega)
      have c2 : c[i * 4 + 2]? = some (.int .u64 told[i].n) := cells_at AR.cells_len hct hx 2 (by omega)
      have c3 : c[i * 4 + 3]? = some (.bool told[i].g) := cells_at AR.cells_len hct hx 3 (by omega)
      clear hA
      have hA := hB
      clear hB
      (try simp only [setL, List.set_cons_zero, List.set_cons_succ, List.cons_append, List.nil_append] at hA); (have hF := hA.facts); (try simp only [facts_cons, facts_nil, facts_cells, facts_old, facts_fact, facts_obj, facts_map, facts_iter, and_true, true_and] at hF)
      cases h1 : (told[i].r == r)
      · have hm : ∀ x ∈ told.take (i + 1), (x.r == r) = false := fun x hx => by
          rw [List.take_succ_eq_append_getElem hi] at hx
          rcases List.mem_append.1 hx with hx | hx
          · exact hno'.out x hx
          · rw [List.mem_singleton.1 hx, h1]
        have hm' := Lib.hid hm
        clear hm
        go_wp2_with fail
        go_roundg (gk - 1)
        case measure => omega
        case rel => exact ⟨i + 1, by simp, by simp only; omega, (shut_a hA (by with_reducible repeat (first | exact Sel.here | apply Sel.there)) hcl hcap hcm hct).only3 (by with_reducible repeat (first | exact Sel.here | apply Sel.there)) (by repeat (first | exact Sel.here | apply Sel.there)) (by repeat (first | exact Sel.here | apply Sel.there)), hm'.out⟩
      · have hfi : saidA told r = some told[i] := find_first hx hno'.out h1
        have hfi' := Lib.hid hfi
        clear hfi
        go_wp2_with (first | (refine wpList_store_at (b := b1) (j := 0) (vs := AR.cells told[i]) rfl rfl rfl (by (try simp only [Act.eval, Array.getD_eq_getD_getElem?, List.getElem?_toArray, List.getElem?_cons_succ, List.getElem?_cons_zero, Option.getD_some]) <;> exact rfl) (by first | exact rfl | (rw [← (show told[i].r = r by simpa using h1)]; rfl)) hA (by with_reducible repeat (first | exact Sel.here | apply Sel.there)) (by kernel_rfl) (AR.ones _) (by show 0 + 4 ≤ 4; omega) ?_; intro w1 hB; clear hF hA; have hA := hB; clear hB; simp only [AR.cells] at hA; (try simp only [setL, List.set_cons_zero, List.set_cons_succ, List.cons_append, List.nil_append] at hA); (have hF := hA.facts); (try simp only [facts_cons, facts_nil, facts_cells, facts_old, facts_fact, facts_obj, facts_map, facts_iter, and_true, true_and] at hF)))
        refine bodyPost_ret (v := .tuple #[.agg (AR.cells told[i]).toArray, .bool true]) (by simp [AR.cells, results, Try.results38, go_sem, hF]) rfl ⟨by rw [hfi'.out]; rfl, (shut_a hA (by with_reducible repeat (first | exact Sel.here | apply Sel.there)) hcl hcap hcm hct).only1 (by with_reducible repeat (first | exact Sel.here | apply Sel.there))⟩
    · have hfi : saidA told r = none := List.find?_eq_none.2 (fun x hx => by rw [hno'.out x (by rw [List.take_of_length_le (by omega)]; exact hx)]; simp)
      have hfi' := Lib.hid hfi
      clear hfi
      (try simp only [setL, List.set_cons_zero, List.set_cons_succ, List.cons_append, List.nil_append] at hA); (have hF := hA.facts); (try simp only [facts_cons, facts_nil, facts_cells, facts_old, facts_fact, facts_obj, facts_map, facts_iter, and_true, true_and] at hF)
      go_wp2_with (first | ((with_reducible show wpList _ _ _ ({ dst := _, op := Op.store _ _ _, type := _, pos := _, after := _, guard := _ } :: _) _ _); refine wpList_store_at rfl rfl rfl (by (try simp only [Act.eval, Array.getD_eq_getD_getElem?, List.getElem?_toArray, List.getElem?_cons_succ, List.getElem?_cons_zero, Option.getD_some]) <;> exact rfl) (by exact rfl) hA (by with_reducible repeat (first | exact Sel.here | apply Sel.there)) (by kernel_rfl) rfl (by first | decide | (simp; done) | omega) ?_; intro w1 hB; clear hF hA; have hA := hB; clear hB; (try simp only [setL, List.set_cons_zero, List.set_cons_succ, List.cons_append, List.nil_append] at hA); (have hF := hA.facts); (try simp only [facts_cons, facts_nil, facts_cells, facts_old, facts_fact, facts_obj, facts_map, facts_iter, and_true, true_and] at hF)) | ((with_reducible show wpList _ _ _ ({ dst := _, op := Op.box _ _, type := _, pos := _, after := _, guard := _ } :: _) _ _); refine wpList_box_at rfl rfl (by (try simp only [Act.eval, Array.getD_eq_getD_getElem?, List.getElem?_toArray, List.getElem?_cons_succ, List.getElem?_cons_zero, Option.getD_some]) <;> exact rfl) (by exact rfl) hA ?_; intro b1 w1 hB hb1; clear hF hA; have hA := hB; clear hB; (try simp only [setL, List.set_cons_zero, List.set_cons_succ, List.cons_append, List.nil_append] at hA); (have hF := hA.facts); (try simp only [facts_cons, facts_nil, facts_cells, facts_old, facts_fact, facts_obj, facts_map, facts_iter, and_true, true_and] at hF)))
      refine bodyPost_ret (v := .tuple #[.agg (AR.cells noAR).toArray, .bool false]) (by simp [AR.cells, noAR, results, Try.results38, go_sem, hF]) rfl ⟨by rw [hfi'.out]; rfl, hA.only1 (by with_reducible repeat (first | exact Sel.here | apply Sel.there))⟩
/-- Cut, the document's -/
theorem cutR_any (t : Int) (w : World) : Calls Try.prog 35 #[.int .i64 t] w fun e w' => e = .returned (.int .i64 (cutI t)) ∧ w = w' := by
  unfold cutI
  by_cases h0 : t < 0
  · go_enter Try.func35, Try.ntmps35
    go_wp2_with fail
    refine bodyPost_ret (results_tmp rfl _ _ _) rfl ?_
    exact ⟨by simp, rfl⟩
  · by_cases h1 : 2199023255552 < t
    · go_enter Try.func35, Try.ntmps35
      go_wp2_with fail
      refine bodyPost_ret (results_tmp rfl _ _ _) rfl ?_
      exact ⟨by simp, rfl⟩
    · go_enter Try.func35, Try.ntmps35
      go_wp2_with fail
      go_ret
      exact ⟨by simp, rfl⟩
end Go.Proofs.Ytnkddjomanaadaa.Lease
