/- The walk of a book's count of the sessions that are open. -/
import Derived.Test.YtnkddjomanaadaaLeaseW4
namespace Go.Proofs.Ytnkddjomanaadaa.Lease
open Go.RowKit
open Go.Maps (Keyed)
set_option linter.unusedSimpArgs false
set_option linter.unusedVariables false

/-- how many sessions with a footprint are open -/
def cnt (ss : List Ses) (f : ByteArray) : Nat := (ss.filter (fun s => s.foot.toList == f.toList && s.op)).length
theorem cnt_snoc (ds : List Ses) (s : Ses) (f : ByteArray) : cnt (ds ++ [s]) f = cnt ds f + if s.foot.toList == f.toList && s.op then 1 else 0 := by
  unfold cnt
  rw [List.filter_append]
  cases h : (s.foot.toList == f.toList && s.op) <;> simp [List.filter_cons, h]
theorem cnt_le (ds : List Ses) (f : ByteArray) : cnt ds f ≤ ds.length := List.length_filter_le _ _
theorem ents_snoc (ds : List Ses) (s : Ses) : ents ds ++ [ent s] = ents (ds ++ [s]) := by simp [ents]
theorem ents_inj {ss : List Ses} (h : (ents ss).Pairwise (fun p q => p.1 ≠ q.1)) {x y : Ses} (hx : x ∈ ss) (hy : y ∈ ss) (e : ent x = ent y) : x = y := by
  have h1 : ss.Pairwise (fun p q => (ent p).1 ≠ (ent q).1) := (List.pairwise_map (f := ent) (R := fun p q : Value × Value => p.1 ≠ q.1)).1 h
  obtain ⟨i, hi⟩ := List.mem_iff_getElem?.1 hx
  obtain ⟨j, hj⟩ := List.mem_iff_getElem?.1 hy
  by_cases hij : i = j
  · subst hij; rw [hi] at hj; exact Option.some.inj hj
  · exfalso
    obtain ⟨hi1, hi2⟩ := List.getElem?_eq_some_iff.1 hi
    obtain ⟨hj1, hj2⟩ := List.getElem?_eq_some_iff.1 hj
    have hp := List.pairwise_iff_getElem.1 h1
    rcases Nat.lt_or_gt_of_ne hij with q | q
    · exact hp i j hi1 hj1 q (by rw [hi2, hj2, e])
    · exact hp j i hj1 hi1 q (by rw [hi2, hj2, e])
/-- all have come: they are the sessions, in some order -/
theorem ents_perm {ss ds : List Ses} (h : (ents ss).Pairwise (fun p q => p.1 ≠ q.1)) (hd : ∀ s ∈ ds, s ∈ ss) (hp : (ents ss).Perm (ents ds)) : ss.Perm ds := by
  have hn : ∀ l : List Ses, (ents l).Pairwise (fun p q => p.1 ≠ q.1) → l.Nodup := fun l hl => ((List.pairwise_map (f := ent) (R := fun p q : Value × Value => p.1 ≠ q.1)).1 hl).imp (fun h e => h (by rw [e]))
  have hd2 : (ents ds).Pairwise (fun p q => p.1 ≠ q.1) := (hp.pairwise_iff (fun h => Ne.symm h)).1 h
  refine (List.perm_ext_iff_of_nodup (hn _ h) (hn _ hd2)).2 (fun x => ⟨fun hx => ?_, hd x⟩)
  have : ent x ∈ ents ds := hp.mem_iff.1 (List.mem_map.2 ⟨x, hx, rfl⟩)
  obtain ⟨y, hy, he⟩ := List.mem_map.1 this
  rw [← ents_inj h (hd y hy) hx he]
  exact hy
theorem cnt_perm {ss ds : List Ses} (h : ss.Perm ds) (f : ByteArray) : cnt ss f = cnt ds f := (h.filter _).length_eq

def CntRel (p m r : Nat) (ss : List Ses) (f : ByteArray) (w : World) (k : Nat) (v : Value) (wr : World) : Prop :=
  ∃ ds : List Ses, At [BookP p m ss] w [Part.iter Try.prog 31 r m (ents ss) (ents ds), headC p m, restP ss] wr ∧ (∀ s ∈ ds, s ∈ ss) ∧ v = .int .i64 (cnt ds f) ∧ ds.length + k = ss.length

set_option maxRecDepth 100000 in
theorem open_any {w : World} {p m : Nat} {ss : List Ses} (h : Sep [BookP p m ss] w) (f : ByteArray) (hl : ss.length ≤ 1000000000) :
    Calls Try.prog 31 #[.pointer (some ⟨p, 0, none⟩), .string f] w fun e w' => e = .returned (.int .i64 (cnt ss f)) ∧ At [BookP p m ss] w [BookP p m ss] w' := by
  have hA := begin0 h
  have hF := hA.facts
  (try simp only [setL, List.set_cons_zero, List.set_cons_succ, List.cons_append, List.nil_append] at hA); (have hF := hA.facts); (try simp only [facts_cons, facts_nil, facts_cells, facts_old, facts_fact, facts_obj, facts_map, facts_iter, and_true, true_and] at hF)
  clear h
  go_enter Try.func31, Try.ntmps31
  go_wp2_with (first | ((with_reducible show wpList _ _ _ ({ dst := _, op := Op.store _ _ _, type := _, pos := _, after := _, guard := _ } :: _) _ _); refine wpList_store_at rfl rfl rfl (by (try simp only [Act.eval, Array.getD_eq_getD_getElem?, List.getElem?_toArray, List.getElem?_cons_succ, List.getElem?_cons_zero, Option.getD_some]) <;> exact rfl) (by exact rfl) hA (by with_reducible repeat (first | exact Sel.here | apply Sel.there)) (by kernel_rfl) rfl (by first | decide | (simp; done) | omega) ?_; intro w1 hB; clear hF hA; have hA := hB; clear hB; (try simp only [setL, List.set_cons_zero, List.set_cons_succ, List.cons_append, List.nil_append] at hA); (have hF := hA.facts); (try simp only [facts_cons, facts_nil, facts_cells, facts_old, facts_fact, facts_obj, facts_map, facts_iter, and_true, true_and] at hF)) | ((with_reducible show wpList _ _ _ ({ dst := _, op := Op.box _ _, type := _, pos := _, after := _, guard := _ } :: _) _ _); refine wpList_box_at rfl rfl (by (try simp only [Act.eval, Array.getD_eq_getD_getElem?, List.getElem?_toArray, List.getElem?_cons_succ, List.getElem?_cons_zero, Option.getD_some]) <;> exact rfl) (by exact rfl) hA ?_; intro b1 w1 hB hb1; clear hF hA; have hA := hB; clear hB; (try simp only [setL, List.set_cons_zero, List.set_cons_succ, List.cons_append, List.nil_append] at hA); (have hF := hA.facts); (try simp only [facts_cons, facts_nil, facts_cells, facts_old, facts_fact, facts_obj, facts_map, facts_iter, and_true, true_and] at hF)) | (refine wpList_range_at rfl rfl rfl hA (by with_reducible repeat (first | exact Sel.here | apply Sel.there)) Try.underlying56 ?_; intro r w1 hB hr; clear hF hA; have hA := hB; clear hB; (try simp only [setL, List.set_cons_zero, List.set_cons_succ, List.cons_append, List.nil_append] at hA); (have hF := hA.facts); (try simp only [facts_cons, facts_nil, facts_cells, facts_old, facts_fact, facts_obj, facts_map, facts_iter, and_true, true_and] at hF)))
  go_frame
  go_loopg [5] ss.length (CntRel p m r ss f w)
  case atStart => exact ⟨[], hA, nofun, by simp [cnt], by simp⟩
  case round =>
    obtain ⟨ds, hA2, hds, rfl, hk⟩ := hrel
    clear hF hA
    have hA := hA2
    clear hA2
    (try simp only [setL, List.set_cons_zero, List.set_cons_succ, List.cons_append, List.nil_append] at hA); (have hF := hA.facts); (try simp only [facts_cons, facts_nil, facts_cells, facts_old, facts_fact, facts_obj, facts_map, facts_iter, and_true, true_and] at hF)
    go_step
    go_step
    refine wpList_next_at rfl rfl rfl hA (by with_reducible repeat (first | exact Sel.here | apply Sel.there)) (fun hp => ?_) (fun q w1 hq hd hB => ?_)
    · have hI : IterAt Try.prog 31 wr r m (ents ss) (ents ds) := hA.get (A := Part.iter _ _ r m (ents ss) (ents ds)) (by with_reducible repeat (first | exact Sel.here | apply Sel.there))
      have hc := Lib.hid (cnt_perm (ents_perm hI.keys hds hp) f)
      have hM := At.ranged hA (by with_reducible repeat (first | exact Sel.here | apply Sel.there))
      go_wp2_with fail
      go_ret
      exact ⟨by rw [hc.out]; rfl, close0 (m := m) (ss := ss) hM (by with_reducible repeat (first | exact Sel.here | apply Sel.there)) (by with_reducible repeat (first | exact Sel.here | apply Sel.there)) (by with_reducible repeat (first | exact Sel.here | apply Sel.there))⟩
    · obtain ⟨s, hs, rfl⟩ := List.mem_map.1 hq
      have hI : IterAt Try.prog 31 w1 r m (ents ss) (ents ds ++ [ent s]) := hB.get (A := Part.iter _ _ r m (ents ss) (ents ds ++ [ent s])) (by with_reducible repeat (first | exact Sel.here | apply Sel.there))
      have hen := hI.entry
      have hlen : (ds ++ [s]).length ≤ ss.length := by have := hI.len; simpa [ents] using this
      have hsub : ∀ x ∈ ds ++ [s], x ∈ ss := fun x hx => by
        rcases List.mem_append.1 hx with hx | hx
        · exact hds x hx
        · have : x = s := by simpa using hx
          rw [this]; exact hs
      rw [ents_snoc] at hB
      obtain ⟨l1, l2, e⟩ := List.append_of_mem hs
      have he := Lib.hid e
      clear hF hA
      have hA := out' e hB (by with_reducible repeat (first | exact Sel.here | apply Sel.there))
      have hk' := Lib.hid hk
      have hsub' := Lib.hid hsub
      have hsn := Lib.hid (cnt_snoc ds s f)
      have hcl := cnt_le ds f
      simp only [List.length_append, List.length_cons, List.length_nil, Nat.zero_add] at hlen
      clear hI e hB hk hsub hds hq hd
      simp only [Ses.cells] at hA
      (try simp only [setL, List.set_cons_zero, List.set_cons_succ, List.cons_append, List.nil_append] at hA); (have hF := hA.facts); (try simp only [facts_cons, facts_nil, facts_cells, facts_old, facts_fact, facts_obj, facts_map, facts_iter, and_true, true_and] at hF)
      simp only [ent, Ses.key, keyV, Ses.ptr] at hen
      cases hfe : (s.foot.toList == f.toList)
      all_goals cases hop : s.op
      all_goals
        go_wp2_with (first | ((with_reducible show wpList _ _ _ ({ dst := _, op := Op.store _ _ _, type := _, pos := _, after := _, guard := _ } :: _) _ _); refine wpList_store_at rfl rfl rfl (by (try simp only [Act.eval, Array.getD_eq_getD_getElem?, List.getElem?_toArray, List.getElem?_cons_succ, List.getElem?_cons_zero, Option.getD_some]) <;> exact rfl) (by exact rfl) hA (by with_reducible repeat (first | exact Sel.here | apply Sel.there)) (by kernel_rfl) rfl (by first | decide | (simp; done) | omega) ?_; intro w1 hB; clear hF hA; have hA := hB; clear hB; (try simp only [setL, List.set_cons_zero, List.set_cons_succ, List.cons_append, List.nil_append] at hA); (have hF := hA.facts); (try simp only [facts_cons, facts_nil, facts_cells, facts_old, facts_fact, facts_obj, facts_map, facts_iter, and_true, true_and] at hF)) | ((with_reducible show wpList _ _ _ ({ dst := _, op := Op.box _ _, type := _, pos := _, after := _, guard := _ } :: _) _ _); refine wpList_box_at rfl rfl (by (try simp only [Act.eval, Array.getD_eq_getD_getElem?, List.getElem?_toArray, List.getElem?_cons_succ, List.getElem?_cons_zero, Option.getD_some]) <;> exact rfl) (by exact rfl) hA ?_; intro b1 w1 hB hb1; clear hF hA; have hA := hB; clear hB; (try simp only [setL, List.set_cons_zero, List.set_cons_succ, List.cons_append, List.nil_append] at hA); (have hF := hA.facts); (try simp only [facts_cons, facts_nil, facts_cells, facts_old, facts_fact, facts_obj, facts_map, facts_iter, and_true, true_and] at hF)) | ((with_reducible show wpList _ _ _ ({ dst := _, op := Op.alloc _, type := _, pos := _, after := _, guard := _ } :: _) _ _); refine wpList_alloc_at (E := 31) (z := .agg #[.int .u64 0, .string .empty]) (vs := [.int .u64 0, .string .empty]) rfl rfl (by kernel_rfl) rfl hA ?_; intro b1 w1 hB hb1; clear hF hA; have hA := hB; clear hB; (try simp only [setL, List.set_cons_zero, List.set_cons_succ, List.cons_append, List.nil_append] at hA); (have hF := hA.facts); (try simp only [facts_cons, facts_nil, facts_cells, facts_old, facts_fact, facts_obj, facts_map, facts_iter, and_true, true_and] at hF)))
        go_roundg (gk - 1)
        case measure => have := hk'.out; omega
        case rel => exact ⟨ds ++ [s], (in' he.out hA (by repeat (first | exact Sel.here | apply Sel.there)) (by with_reducible repeat (first | exact Sel.here | apply Sel.there)) (by with_reducible repeat (first | exact Sel.here | apply Sel.there))).only3 (by with_reducible repeat (first | exact Sel.here | apply Sel.there)) (by with_reducible repeat (first | exact Sel.here | apply Sel.there)) (by with_reducible repeat (first | exact Sel.here | apply Sel.there)), hsub'.out, by rw [hsn.out]; simp [hfe, hop], by have := hk'.out; simp; omega⟩
end Go.Proofs.Ytnkddjomanaadaa.Lease
