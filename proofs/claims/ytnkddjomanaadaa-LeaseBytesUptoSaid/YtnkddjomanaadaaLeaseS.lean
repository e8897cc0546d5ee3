/- A book: all its sessions, in their order. -/
import Derived.Test.YtnkddjomanaadaaLeaseW9
import Derived.Test.YtnkddjomanaadaaSessS
namespace Go.Proofs.Ytnkddjomanaadaa.Lease
open Go.RowKit
open Go.Maps (Keyed)
open _root_.Go.Proofs.Ytnkddjomanaadaa.Sess (seV seL sortS seL_len)
set_option linter.unusedSimpArgs false
set_option linter.unusedVariables false

abbrev rowSe (v : Value) (l : List (Int × ByteArray)) : Part := .row 31 2 v l.length (l.flatMap seL)
def keysOf (ss : List Ses) : List (Int × ByteArray) := ss.map (fun s => (s.num, s.foot))
theorem ents_keys (ss : List Ses) : (ents ss).map (·.1) = (keysOf ss).map seV := by simp [ents, ent, keysOf, seV, Ses.key, keyV]
def SessionsPost (w : World) (p m : Nat) (ss : List Ses) (e : Ending) (w' : World) : Prop := ∃ v, e = .returned v ∧ At [BookP p m ss] w [rowSe v (sortS (keysOf ss)), BookP p m ss] w'
set_option maxRecDepth 100000 in
theorem sessions_all {w : World} {p m : Nat} {ss : List Ses} (h : Sep [BookP p m ss] w) (hmax : ss.length ≤ 1000000) :
    Calls Try.prog 23 #[.pointer (some ⟨p, 0, none⟩)] w (SessionsPost w p m ss) := by
  have hA := begin0 h
  have hF := hA.facts
  (try simp only [setL, List.set_cons_zero, List.set_cons_succ, List.cons_append, List.nil_append] at hA); (have hF := hA.facts); (try simp only [facts_cons, facts_nil, facts_cells, facts_old, facts_fact, facts_obj, facts_map, facts_iter, and_true, true_and] at hF)
  clear h
  go_enter Try.func23, Try.ntmps23
  go_wp2_with fail
  refine (callsIn_wide.1 (Sess.keys_in Fence.wide 1 trivial rfl (some m) w)).mono ?_
  rintro e _ ⟨rfl, rfl⟩
  have hB := hA.alloc [.map (some m)] 56
  go_wp2_with fail
  refine (Sess.collect_keys w.heap.size m (ents ss) (keysOf ss) (ents_keys ss) _ (by simp) ((BlockIs.alloc w [.map (some m)] 56).cell 0) (hB.get (A := mapC m (ents ss)) (by with_reducible repeat (first | exact Sel.here | apply Sel.there))) (by simp [keysOf]; omega)).mono ?_
  rintro e w1 ⟨v, ls, rfl, hp, hrow, _, hb⟩
  have hC := hB.row_new hb hrow
  have hso := Lib.hid (Sess.sort_perm hp)
  have hll := hp.length_eq
  have hlk : ls.length ≤ 100000000 := by rw [hll]; simp [keysOf]; omega
  clear hF hA hB
  go_wp2_with fail
  refine (Sess.sorted_any (hC.get (A := Part.row 31 2 v ls.length (ls.flatMap seL)) (by with_reducible repeat (first | exact Sel.here | apply Sel.there))) hlk).mono ?_
  rintro e w2 ⟨rfl, hrow2, hgr⟩
  have hD := hC.turn (A := Part.row 31 2 v ls.length (ls.flatMap seL)) (by with_reducible repeat (first | exact Sel.here | apply Sel.there)) (Part.row 31 2 v (sortS ls).length ((sortS ls).flatMap seL)) hrow2 (fun b hb => .inl hb) (exc_grown hgr)
  rw [hso.out] at hD
  go_wp2_with fail
  go_ret
  exact ⟨v, rfl, (fold0 (m := m) (ss := ss) hD (by with_reducible repeat (first | exact Sel.here | apply Sel.there)) (by with_reducible repeat (first | exact Sel.here | apply Sel.there)) (by with_reducible repeat (first | exact Sel.here | apply Sel.there))).only2 (by repeat (first | exact Sel.here | apply Sel.there)) (by with_reducible repeat (first | exact Sel.here | apply Sel.there))⟩

/-! ### Due -/
def dueB (time : Int) (s : Ses) : Bool := s.op && decide (s.dl ≤ time)
def dueOf (ss : List Ses) (time : Int) : List (Int × ByteArray) := keysOf (ss.filter (dueB time))
theorem infoSe : (Try.prog.info? 31).map (fun i => (i.zero, i.size, i.bytes)) = some (some (.agg #[.int .u64 0, .string .empty]), 2, 24) := by kernel_rfl
theorem rowSe_snoc (v : Value) (l : List (Int × ByteArray)) (x : Int × ByteArray) : Part.row 31 2 v (l.length + 1) (l.flatMap seL ++ seL x) = rowSe v (l ++ [x]) := by simp [rowSe]
theorem due_snoc (ds : List Ses) (s : Ses) (time : Int) : dueOf (ds ++ [s]) time = if dueB time s then dueOf ds time ++ [(s.num, s.foot)] else dueOf ds time := by
  unfold dueOf keysOf
  rw [List.filter_append]
  cases h : dueB time s <;> simp [h]
theorem due_le (ds : List Ses) (time : Int) : (dueOf ds time).length ≤ ds.length := by
  unfold dueOf keysOf
  rw [List.length_map]
  exact List.length_filter_le _ _
theorem due_perm {ss ds : List Ses} (h : ss.Perm ds) (time : Int) : (dueOf ss time).Perm (dueOf ds time) := (h.filter _).map _
theorem perm_of_ents {ss ds : List Ses} (h : (ents ss).Perm (ents ds)) (hs : ∀ d ∈ ds, d ∈ ss) (hk : (ents ss).Pairwise (fun p q => p.1 ≠ q.1)) : ss.Perm ds := by
  have hk2 : (ents ds).Pairwise (fun p q => p.1 ≠ q.1) := by
    refine h.pairwise hk ?_
    intro x y q e
    exact q e.symm
  have n1 : ss.Nodup := (List.pairwise_map.1 hk).imp (fun q e => q (by rw [e]))
  have n2 : ds.Nodup := (List.pairwise_map.1 hk2).imp (fun q e => q (by rw [e]))
  refine (List.perm_ext_iff_of_nodup n1 n2).2 fun x => ⟨fun hx => ?_, hs x⟩
  have : ent x ∈ ents ds := h.mem_iff.1 (List.mem_map.2 ⟨x, hx, rfl⟩)
  obtain ⟨d, hd, he⟩ := List.mem_map.1 this
  have hds := hs d hd
  obtain ⟨i, hi⟩ := List.mem_iff_getElem?.1 hx
  obtain ⟨j, hj⟩ := List.mem_iff_getElem?.1 hds
  have hp := List.pairwise_iff_getElem.1 (List.pairwise_map.1 hk)
  by_cases hij : i = j
  · subst hij
    rw [hi] at hj
    cases hj
    exact hd
  · exfalso
    obtain ⟨hi1, hi2⟩ := List.getElem?_eq_some_iff.1 hi
    obtain ⟨hj1, hj2⟩ := List.getElem?_eq_some_iff.1 hj
    rcases Nat.lt_or_gt_of_ne hij with q | q
    · exact hp i j hi1 hj1 q (by rw [hi2, hj2, he])
    · exact hp j i hj1 hi1 q (by rw [hi2, hj2, he])

def DueRelA (p m r : Nat) (ss : List Ses) (time : Int) (w : World) (k : Nat) (v : Value) (wr : World) : Prop :=
  ∃ ds : List Ses, At [BookP p m ss] w [Part.iter Try.prog 31 r m (ents ss) (ents ds), rowSe v (dueOf ds time), headC p m, restP ss] wr ∧ ds.length + k = ss.length ∧ ∀ d ∈ ds, d ∈ ss
def DuePost (w : World) (p m : Nat) (ss : List Ses) (time : Int) (e : Ending) (w' : World) : Prop := ∃ v, e = .returned v ∧ At [BookP p m ss] w [rowSe v (sortS (dueOf ss time)), BookP p m ss] w'
theorem rowSe_nil {L0 L : List Part} {w0 w : World} (h : At L0 w0 L w) : At L0 w0 (rowSe (.slice none 0 0) [] :: L) w := h.row_nil 31 2
end Go.Proofs.Ytnkddjomanaadaa.Lease
