/- A book: all its sessions, in their order. -/
import Derived.Test.YtbdcgadcjgmgbaaLeaseW9
import Derived.Test.YtbdcgadcjgmgbaaSessS
namespace Go.Proofs.Ytbdcgadcjgmgbaa.Lease
open Go.RowKit
open Go.Maps (Keyed)
open _root_.Go.Proofs.Ytbdcgadcjgmgbaa.Sess (seV seL sortS seL_len)
set_option linter.unusedSimpArgs false
set_option linter.unusedVariables false

abbrev rowSe (v : Value) (l : List (Int × ByteArray)) : Part := .row 25 2 v l.length (l.flatMap seL)
def keysOf (ss : List Ses) : List (Int × ByteArray) := ss.map (fun s => (s.num, s.foot))
theorem ents_keys (ss : List Ses) : (ents ss).map (·.1) = (keysOf ss).map seV := by simp [ents, ent, keysOf, seV, Ses.key, keyV]
def SessionsPost (w : World) (p m : Nat) (ss : List Ses) (e : Ending) (w' : World) : Prop := ∃ v, e = .returned v ∧ At [BookP p m ss] w [rowSe v (sortS (keysOf ss)), BookP p m ss] w'
set_option maxRecDepth 100000 in
theorem sessions_all {w : World} {p m : Nat} {ss : List Ses} (h : Sep [BookP p m ss] w) (hmax : ss.length ≤ 1000000) :
    Calls Try.prog 8 #[.pointer (some ⟨p, 0, none⟩)] w (SessionsPost w p m ss) := by
  have hA := begin0 h
  have hF := hA.facts
  (try simp only [setL, List.set_cons_zero, List.set_cons_succ, List.cons_append, List.nil_append] at hA); (have hF := hA.facts); (try simp only [facts_cons, facts_nil, facts_cells, facts_old, facts_fact, facts_obj, facts_map, facts_iter, and_true, true_and] at hF)
  clear h
  go_enter Try.func8, Try.ntmps8
  go_wp2_with fail
  refine (callsIn_wide.1 (Sess.keys_in Fence.wide 1 trivial rfl (some m) w)).mono ?_
  rintro e _ ⟨rfl, rfl⟩
  have hB := hA.alloc [.map (some m)] 68
  go_wp2_with fail
  refine (Sess.collect_keys w.heap.size m (ents ss) (keysOf ss) (ents_keys ss) _ (by simp) ((BlockIs.alloc w [.map (some m)] 68).cell 0) (hB.get (A := mapC m (ents ss)) (by with_reducible repeat (first | exact Sel.here | apply Sel.there))) (by simp [keysOf]; omega)).mono ?_
  rintro e w1 ⟨v, ls, rfl, hp, hrow, _, hb⟩
  have hC := hB.row_new hb hrow
  have hso := Lib.hid (Sess.sort_perm hp)
  have hll := hp.length_eq
  have hlk : ls.length ≤ 100000000 := by rw [hll]; simp [keysOf]; omega
  clear hF hA hB
  go_wp2_with fail
  refine (Sess.sorted_any (hC.get (A := Part.row 25 2 v ls.length (ls.flatMap seL)) (by with_reducible repeat (first | exact Sel.here | apply Sel.there))) hlk).mono ?_
  rintro e w2 ⟨rfl, hrow2, hgr⟩
  have hD := hC.turn (A := Part.row 25 2 v ls.length (ls.flatMap seL)) (by with_reducible repeat (first | exact Sel.here | apply Sel.there)) (Part.row 25 2 v (sortS ls).length ((sortS ls).flatMap seL)) hrow2 (fun b hb => .inl hb) (exc_grown hgr)
  rw [hso.out] at hD
  go_wp2_with fail
  go_ret
  exact ⟨v, rfl, (fold0 (m := m) (ss := ss) hD (by with_reducible repeat (first | exact Sel.here | apply Sel.there)) (by with_reducible repeat (first | exact Sel.here | apply Sel.there)) (by with_reducible repeat (first | exact Sel.here | apply Sel.there))).only2 (by repeat (first | exact Sel.here | apply Sel.there)) (by with_reducible repeat (first | exact Sel.here | apply Sel.there))⟩

/-! ### Due -/
def dueB (time : Int) (s : Ses) : Bool := s.op && decide (s.dl ≤ time)
def dueOf (ss : List Ses) (time : Int) : List (Int × ByteArray) := keysOf (ss.filter (dueB time))
theorem infoSe : (Try.prog.info? 25).map (fun i => (i.zero, i.size, i.bytes)) = some (some (.agg #[.int .u64 0, .string .empty]), 2, 24) := by kernel_rfl
theorem rowSe_snoc (v : Value) (l : List (Int × ByteArray)) (x : Int × ByteArray) : Part.row 25 2 v (l.length + 1) (l.flatMap seL ++ seL x) = rowSe v (l ++ [x]) := by simp [rowSe]
theorem due_snoc (ds : List Ses) (s : Ses) (time : Int) : dueOf (ds ++ [s]) time = if dueB time s then dueOf ds time ++ [(s.num, s.foot)] else dueOf ds time := by
  unfold dueOf keysOf
  rw [List.filter_append]
  cases h : dueB time s <;> simp [h]
theorem due_le (ds : List Ses) (time : Int) : (dueOf ds time).length ≤ ds.length := by
  unfold dueOf keysOf
  rw [List.length_map]
  exact List.length_filter_le _ _
theorem due_perm {ss ds : List Ses} (h : ss.Perm ds) (time : Int) : (dueOf ss time).Perm (dueOf ds time) := (h.filter _).map _
theorem perm_of_ents {ss ds : List Ses} (h : (ents ss).Perm (ents ds)) (hs : ∀ d ∈ ds, d ∈ ss) (hk : (ents ss).Pairwise (fun p q => p.1 ≠ q.1)) : ss.Perm ds := by
  have hk2 : (ents ds).Pairwise (fun p q => p.1 ≠ q.1) := by
    refine h.pairwise hk ?_
    intro x y q e
    exact q e.symm
  have n1 : ss.Nodup := (List.pairwise_map.1 hk).imp (fun q e => q (by rw [e]))
  have n2 : ds.Nodup := (List.pairwise_map.1 hk2).imp (fun q e => q (by rw [e]))
  refine (List.perm_ext_iff_of_nodup n1 n2).2 fun x => ⟨fun hx => ?_, hs x⟩
  have : ent x ∈ ents ds := h.mem_iff.1 (List.mem_map.2 ⟨x, hx, rfl⟩)
  obtain ⟨d, hd, he⟩ := List.mem_map.1 this
  have hds := hs d hd
  obtain ⟨i, hi⟩ := List.mem_iff_getElem?.1 hx
  obtain ⟨j, hj⟩ := List.mem_iff_getElem?.1 hds
  have hp := List.pairwise_iff_getElem.1 (List.pairwise_map.1 hk)
  by_cases hij : i = j
  · subst hij
    rw [hi] at hj
    cases hj
    exact hd
  · exfalso
    obtain ⟨hi1, hi2⟩ := List.getElem?_eq_some_iff.1 hi
    obtain ⟨hj1, hj2⟩ := List.getElem?_eq_some_iff.1 hj
    rcases Nat.lt_or_gt_of_ne hij with q | q
    · exact hp i j hi1 hj1 q (by rw [hi2, hj2, he])
    · exact hp j i hj1 hi1 q (by rw [hi2, hj2, he])

def DueRelA (p m r : Nat) (ss : List Ses) (time : Int) (w : World) (k : Nat) (v : Value) (wr : World) : Prop :=
  ∃ ds : List Ses, At [BookP p m ss] w [Part.iter Try.prog 25 r m (ents ss) (ents ds), rowSe v (dueOf ds time), headC p m, restP ss] wr ∧ ds.length + k = ss.length ∧ ∀ d ∈ ds, d ∈ ss
def DuePost (w : World) (p m : Nat) (ss : List Ses) (time : Int) (e : Ending) (w' : World) : Prop := ∃ v, e = .returned v ∧ At [BookP p m ss] w [rowSe v (sortS (dueOf ss time)), BookP p m ss] w'
theorem rowSe_nil {L0 L : List Part} {w0 w : World} (h : At L0 w0 L w) : At L0 w0 (rowSe (.slice none 0 0) [] :: L) w := h.row_nil 25 2
set_option maxRecDepth 100000 in
set_option maxHeartbeats 1000000 in
theorem due_all {w : World} {p m : Nat} {ss : List Ses} (h : Sep [BookP p m ss] w) (time : Int) (hmax : ss.length ≤ 1000000) :
    Calls Try.prog 9 #[.pointer (some ⟨p, 0, none⟩), .int .i64 time] w (DuePost w p m ss time) := by
  obtain ⟨i0, hi0, hz0, hz1, hz2⟩ := info_parts infoSe
  have hA := begin0 h
  have hF := hA.facts
  (try simp only [setL, List.set_cons_zero, List.set_cons_succ, List.cons_append, List.nil_append] at hA); (have hF := hA.facts); (try simp only [facts_cons, facts_nil, facts_cells, facts_old, facts_fact, facts_obj, facts_map, facts_iter, and_true, true_and] at hF)
  clear h
  go_enter Try.func9, Try.ntmps9
  go_wp2_with (first | (refine wpList_store_at rfl rfl rfl (by (try simp only [Act.eval, Array.getD_eq_getD_getElem?, List.getElem?_toArray, List.getElem?_cons_succ, List.getElem?_cons_zero, Option.getD_some]) <;> exact rfl) (by exact rfl) hA (by with_reducible repeat (first | exact Sel.here | apply Sel.there)) (by kernel_rfl) rfl (by first | decide | (simp; done) | omega) ?_; intro w1 hB; clear hF hA; have hA := hB; clear hB; (try simp only [setL, List.set_cons_zero, List.set_cons_succ, List.cons_append, List.nil_append] at hA); (have hF := hA.facts); (try simp only [facts_cons, facts_nil, facts_cells, facts_old, facts_fact, facts_obj, facts_map, facts_iter, and_true, true_and] at hF)) | (refine wpList_box_at rfl rfl (by (try simp only [Act.eval, Array.getD_eq_getD_getElem?, List.getElem?_toArray, List.getElem?_cons_succ, List.getElem?_cons_zero, Option.getD_some]) <;> exact rfl) (by exact rfl) hA ?_; intro b1 w1 hB hb1; clear hF hA; have hA := hB; clear hB; (try simp only [setL, List.set_cons_zero, List.set_cons_succ, List.cons_append, List.nil_append] at hA); (have hF := hA.facts); (try simp only [facts_cons, facts_nil, facts_cells, facts_old, facts_fact, facts_obj, facts_map, facts_iter, and_true, true_and] at hF)) | (refine wpList_range_at rfl rfl rfl hA (by with_reducible repeat (first | exact Sel.here | apply Sel.there)) Try.underlying68 ?_; intro r w1 hB hr; clear hF hA; have hA := hB; clear hB; (try simp only [setL, List.set_cons_zero, List.set_cons_succ, List.cons_append, List.nil_append] at hA); (have hF := hA.facts); (try simp only [facts_cons, facts_nil, facts_cells, facts_old, facts_fact, facts_obj, facts_map, facts_iter, and_true, true_and] at hF)))
  try go_frame
  go_loopg [5] ss.length (DueRelA p m r ss time w)
  case atStart => exact ⟨[], (rowSe_nil hA).only4 (by repeat (first | exact Sel.here | apply Sel.there)) (by repeat (first | exact Sel.here | apply Sel.there)) (by repeat (first | exact Sel.here | apply Sel.there)) (by repeat (first | exact Sel.here | apply Sel.there)), by simp, nofun⟩
  case round =>
    obtain ⟨ds, hA2, hk, hds⟩ := hrel
    clear hF hA
    have hA := hA2
    clear hA2
    (try simp only [setL, List.set_cons_zero, List.set_cons_succ, List.cons_append, List.nil_append] at hA); (have hF := hA.facts); (try simp only [facts_cons, facts_nil, facts_cells, facts_old, facts_fact, facts_obj, facts_map, facts_iter, and_true, true_and] at hF)
    go_step
    go_step
    refine wpList_next_at rfl rfl rfl hA (by with_reducible repeat (first | exact Sel.here | apply Sel.there)) (fun hp => ?_) (fun q w1 hq hd hB => ?_)
    · have hkeys : (ents ss).Pairwise (fun p q => p.1 ≠ q.1) := IterAt.keys (hA.get (A := Part.iter Try.prog 25 r m (ents ss) (ents ds)) (by with_reducible repeat (first | exact Sel.here | apply Sel.there)))
      have hpp := perm_of_ents hp hds hkeys
      have hso := Lib.hid (Sess.sort_perm (due_perm hpp time))
      have hM := At.ranged hA (by with_reducible repeat (first | exact Sel.here | apply Sel.there))
      have hdl := due_le ds time
      have hll := hpp.length_eq
      have hlk : (dueOf ds time).length ≤ 100000000 := by omega
      clear hp hkeys hpp hF hA
      go_wp2_with fail
      refine (Sess.sorted_any (hM.get (A := rowSe u5 (dueOf ds time)) (by with_reducible repeat (first | exact Sel.here | apply Sel.there))) hlk).mono ?_
      rintro e w2 ⟨rfl, hrow2, hgr⟩
      have hD := hM.turn (A := rowSe u5 (dueOf ds time)) (by with_reducible repeat (first | exact Sel.here | apply Sel.there)) (Part.row 25 2 u5 (sortS (dueOf ds time)).length ((sortS (dueOf ds time)).flatMap seL)) hrow2 (fun b hb => .inl hb) (exc_grown hgr)
      rw [← hso.out] at hD
      go_wp2_with fail
      go_ret
      exact ⟨u5, rfl, (fold0 (m := m) (ss := ss) hD (by with_reducible repeat (first | exact Sel.here | apply Sel.there)) (by with_reducible repeat (first | exact Sel.here | apply Sel.there)) (by with_reducible repeat (first | exact Sel.here | apply Sel.there))).only2 (by repeat (first | exact Sel.here | apply Sel.there)) (by with_reducible repeat (first | exact Sel.here | apply Sel.there))⟩
    · obtain ⟨s, hs, rfl⟩ := List.mem_map.1 hq
      have hI : IterAt Try.prog 25 w1 r m (ents ss) (ents ds ++ [ent s]) := hB.get (A := Part.iter Try.prog 25 r m (ents ss) (ents ds ++ [ent s])) (by with_reducible repeat (first | exact Sel.here | apply Sel.there))
      have hen := hI.entry
      have hlen : (ds ++ [s]).length ≤ ss.length := by have := hI.len; simpa [ents] using this
      rw [Lease.ents_snoc] at hB
      obtain ⟨l1, l2, e⟩ := List.append_of_mem hs
      have he := Lib.hid e
      have hsn := Lib.hid (due_snoc ds s time)
      have hin := Lib.hid (show ∀ d ∈ ds ++ [s], d ∈ ss from fun d hd => by
        rcases List.mem_append.1 hd with hd | hd
        · exact hds d hd
        · rw [List.mem_singleton.1 hd]; exact hs)
      have hdl := due_le ds time
      clear hF hA
      have hA := out' e hB (by with_reducible repeat (first | exact Sel.here | apply Sel.there))
      have hk' := Lib.hid hk
      simp only [List.length_append, List.length_cons, List.length_nil, Nat.zero_add] at hlen
      clear hI e hB hq hd hds hs
      simp only [Ses.cells] at hA
      (try simp only [setL, List.set_cons_zero, List.set_cons_succ, List.cons_append, List.nil_append] at hA); (have hF := hA.facts); (try simp only [facts_cons, facts_nil, facts_cells, facts_old, facts_fact, facts_obj, facts_map, facts_iter, and_true, true_and] at hF)
      simp only [ent, Ses.key, keyV, Ses.ptr] at hen
      by_cases ho : s.op = true
      · by_cases ht : s.dl ≤ time
        · have hb : dueB time s = true := by simp [dueB, ho, ht]
          have hdn := Lib.hid (hsn.out.trans (if_pos hb))
          clear hb
          rw [ho] at hA hF
          go_wp2_with (first
            | (refine wpList_store_at rfl rfl rfl (by (try simp only [Act.eval, Array.getD_eq_getD_getElem?, List.getElem?_toArray, List.getElem?_cons_succ, List.getElem?_cons_zero, Option.getD_some]) <;> exact rfl) (by exact rfl) hA (by with_reducible repeat (first | exact Sel.here | apply Sel.there)) (by kernel_rfl) rfl (by first | decide | (simp; done) | omega) ?_; intro w1 hB; clear hF hA; have hA := hB; clear hB; (try simp only [setL, List.set_cons_zero, List.set_cons_succ, List.cons_append, List.nil_append] at hA); (have hF := hA.facts); (try simp only [facts_cons, facts_nil, facts_cells, facts_old, facts_fact, facts_obj, facts_map, facts_iter, and_true, true_and] at hF)) | (refine wpList_box_at rfl rfl (by (try simp only [Act.eval, Array.getD_eq_getD_getElem?, List.getElem?_toArray, List.getElem?_cons_succ, List.getElem?_cons_zero, Option.getD_some]) <;> exact rfl) (by exact rfl) hA ?_; intro b1 w1 hB hb1; clear hF hA; have hA := hB; clear hB; (try simp only [setL, List.set_cons_zero, List.set_cons_succ, List.cons_append, List.nil_append] at hA); (have hF := hA.facts); (try simp only [facts_cons, facts_nil, facts_cells, facts_old, facts_fact, facts_obj, facts_map, facts_iter, and_true, true_and] at hF)) | (refine wpList_alloc_at (E := 25) (z := .agg #[.int .u64 0, .string .empty]) (vs := [.int .u64 0, .string .empty]) rfl rfl (by kernel_rfl) rfl hA ?_; intro b1 w1 hB hb1; clear hF hA; have hA := hB; clear hB; (try simp only [setL, List.set_cons_zero, List.set_cons_succ, List.cons_append, List.nil_append] at hA); (have hF := hA.facts); (try simp only [facts_cons, facts_nil, facts_cells, facts_old, facts_fact, facts_obj, facts_map, facts_iter, and_true, true_and] at hF))
            | (refine wpList_one_at (e := 25) (vs := seL (s.num, s.foot)) rfl rfl (by (try simp only [Act.eval, Array.getD_eq_getD_getElem?, List.getElem?_toArray, List.getElem?_cons_succ, List.getElem?_cons_zero, Option.getD_some]) <;> exact rfl) (fun _ => by kernel_rfl) hA ?_; intro b2 w1 hB hb2; clear hF hA; have hA := hB; clear hB; (try simp only [setL, List.set_cons_zero, List.set_cons_succ, List.cons_append, List.nil_append] at hA); (have hF := hA.facts); (try simp only [facts_cons, facts_nil, facts_cells, facts_old, facts_fact, facts_obj, facts_map, facts_iter, and_true, true_and] at hF))
            | (refine wpList_append_at (e := 25) (size := 2) (v := u5) (xs := (dueOf ds time).flatMap seL) (n := (dueOf ds time).length) (m := 1) (news := seL (s.num, s.foot)) rfl _ _ 39 rfl Try.underlying39 hi0 hz0 hz1 hz2 rfl (by omega) hA (by with_reducible repeat (first | exact Sel.here | apply Sel.there)) (by (try simp only [Act.eval, Array.getD_eq_getD_getElem?, List.getElem?_toArray, List.getElem?_cons_succ, List.getElem?_cons_zero, Option.getD_some]) <;> exact rfl) (by (try simp only [Act.eval, Array.getD_eq_getD_getElem?, List.getElem?_toArray, List.getElem?_cons_succ, List.getElem?_cons_zero, Option.getD_some]) <;> exact rfl) rfl (hA.cells_reads (by with_reducible repeat (first | exact Sel.here | apply Sel.there)) _ _) (Sess.seL_one _) (by unfold maxLen; omega) (by omega) ?_; intro v1 w1 hB; rw [rowSe_snoc] at hB; clear hF hA; have hA := hB; clear hB; (try simp only [setL, List.set_cons_zero, List.set_cons_succ, List.cons_append, List.nil_append] at hA); (have hF := hA.facts); (try simp only [facts_cons, facts_nil, facts_cells, facts_old, facts_fact, facts_obj, facts_map, facts_iter, and_true, true_and] at hF)))
          go_roundg (gk - 1)
          case measure => have := hk'.out; omega
          case rel =>
            rw [← ho] at hA
            have hX := in' he.out hA (by repeat (first | exact Sel.here | apply Sel.there)) (by with_reducible repeat (first | exact Sel.here | apply Sel.there)) (by with_reducible repeat (first | exact Sel.here | apply Sel.there))
            exact ⟨ds ++ [s], by rw [hdn.out]; exact hX.only4 (by with_reducible repeat (first | exact Sel.here | apply Sel.there)) (by with_reducible repeat (first | exact Sel.here | apply Sel.there)) (by with_reducible repeat (first | exact Sel.here | apply Sel.there)) (by with_reducible repeat (first | exact Sel.here | apply Sel.there)), by have := hk'.out; simp; omega, hin.out⟩
        · have hb : dueB time s = false := by simp [dueB, ho, ht]
          have hdn := Lib.hid (hsn.out.trans (if_neg (by rw [hb]; simp)))
          clear hb
          rw [ho] at hA hF
          go_wp2_with (first | (refine wpList_store_at rfl rfl rfl (by (try simp only [Act.eval, Array.getD_eq_getD_getElem?, List.getElem?_toArray, List.getElem?_cons_succ, List.getElem?_cons_zero, Option.getD_some]) <;> exact rfl) (by exact rfl) hA (by with_reducible repeat (first | exact Sel.here | apply Sel.there)) (by kernel_rfl) rfl (by first | decide | (simp; done) | omega) ?_; intro w1 hB; clear hF hA; have hA := hB; clear hB; (try simp only [setL, List.set_cons_zero, List.set_cons_succ, List.cons_append, List.nil_append] at hA); (have hF := hA.facts); (try simp only [facts_cons, facts_nil, facts_cells, facts_old, facts_fact, facts_obj, facts_map, facts_iter, and_true, true_and] at hF)) | (refine wpList_box_at rfl rfl (by (try simp only [Act.eval, Array.getD_eq_getD_getElem?, List.getElem?_toArray, List.getElem?_cons_succ, List.getElem?_cons_zero, Option.getD_some]) <;> exact rfl) (by exact rfl) hA ?_; intro b1 w1 hB hb1; clear hF hA; have hA := hB; clear hB; (try simp only [setL, List.set_cons_zero, List.set_cons_succ, List.cons_append, List.nil_append] at hA); (have hF := hA.facts); (try simp only [facts_cons, facts_nil, facts_cells, facts_old, facts_fact, facts_obj, facts_map, facts_iter, and_true, true_and] at hF)) | (refine wpList_alloc_at (E := 25) (z := .agg #[.int .u64 0, .string .empty]) (vs := [.int .u64 0, .string .empty]) rfl rfl (by kernel_rfl) rfl hA ?_; intro b1 w1 hB hb1; clear hF hA; have hA := hB; clear hB; (try simp only [setL, List.set_cons_zero, List.set_cons_succ, List.cons_append, List.nil_append] at hA); (have hF := hA.facts); (try simp only [facts_cons, facts_nil, facts_cells, facts_old, facts_fact, facts_obj, facts_map, facts_iter, and_true, true_and] at hF)))
          go_roundg (gk - 1)
          case measure => have := hk'.out; omega
          case rel =>
            rw [← ho] at hA
            have hX := in' he.out hA (by repeat (first | exact Sel.here | apply Sel.there)) (by with_reducible repeat (first | exact Sel.here | apply Sel.there)) (by with_reducible repeat (first | exact Sel.here | apply Sel.there))
            exact ⟨ds ++ [s], by rw [hdn.out]; exact hX.only4 (by with_reducible repeat (first | exact Sel.here | apply Sel.there)) (by with_reducible repeat (first | exact Sel.here | apply Sel.there)) (by with_reducible repeat (first | exact Sel.here | apply Sel.there)) (by with_reducible repeat (first | exact Sel.here | apply Sel.there)), by have := hk'.out; simp; omega, hin.out⟩
      · have ho : s.op = false := by simpa using ho
        have hb : dueB time s = false := by simp [dueB, ho]
        have hdn := Lib.hid (hsn.out.trans (if_neg (by rw [hb]; simp)))
        clear hb
        rw [ho] at hA hF
        go_wp2_with (first | (refine wpList_store_at rfl rfl rfl (by (try simp only [Act.eval, Array.getD_eq_getD_getElem?, List.getElem?_toArray, List.getElem?_cons_succ, List.getElem?_cons_zero, Option.getD_some]) <;> exact rfl) (by exact rfl) hA (by with_reducible repeat (first | exact Sel.here | apply Sel.there)) (by kernel_rfl) rfl (by first | decide | (simp; done) | omega) ?_; intro w1 hB; clear hF hA; have hA := hB; clear hB; (try simp only [setL, List.set_cons_zero, List.set_cons_succ, List.cons_append, List.nil_append] at hA); (have hF := hA.facts); (try simp only [facts_cons, facts_nil, facts_cells, facts_old, facts_fact, facts_obj, facts_map, facts_iter, and_true, true_and] at hF)) | (refine wpList_box_at rfl rfl (by (try simp only [Act.eval, Array.getD_eq_getD_getElem?, List.getElem?_toArray, List.getElem?_cons_succ, List.getElem?_cons_zero, Option.getD_some]) <;> exact rfl) (by exact rfl) hA ?_; intro b1 w1 hB hb1; clear hF hA; have hA := hB; clear hB; (try simp only [setL, List.set_cons_zero, List.set_cons_succ, List.cons_append, List.nil_append] at hA); (have hF := hA.facts); (try simp only [facts_cons, facts_nil, facts_cells, facts_old, facts_fact, facts_obj, facts_map, facts_iter, and_true, true_and] at hF)) | (refine wpList_alloc_at (E := 25) (z := .agg #[.int .u64 0, .string .empty]) (vs := [.int .u64 0, .string .empty]) rfl rfl (by kernel_rfl) rfl hA ?_; intro b1 w1 hB hb1; clear hF hA; have hA := hB; clear hB; (try simp only [setL, List.set_cons_zero, List.set_cons_succ, List.cons_append, List.nil_append] at hA); (have hF := hA.facts); (try simp only [facts_cons, facts_nil, facts_cells, facts_old, facts_fact, facts_obj, facts_map, facts_iter, and_true, true_and] at hF)))
        go_roundg (gk - 1)
        case measure => have := hk'.out; omega
        case rel =>
          rw [← ho] at hA
          have hX := in' he.out hA (by repeat (first | exact Sel.here | apply Sel.there)) (by with_reducible repeat (first | exact Sel.here | apply Sel.there)) (by with_reducible repeat (first | exact Sel.here | apply Sel.there))
          exact ⟨ds ++ [s], by rw [hdn.out]; exact hX.only4 (by with_reducible repeat (first | exact Sel.here | apply Sel.there)) (by with_reducible repeat (first | exact Sel.here | apply Sel.there)) (by with_reducible repeat (first | exact Sel.here | apply Sel.there)) (by with_reducible repeat (first | exact Sel.here | apply Sel.there)), by have := hk'.out; simp; omega, hin.out⟩
end Go.Proofs.Ytbdcgadcjgmgbaa.Lease
