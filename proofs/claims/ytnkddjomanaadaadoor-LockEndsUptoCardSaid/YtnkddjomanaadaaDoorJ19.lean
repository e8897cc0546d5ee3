/- LockLb, LockEa, joined. -/
import Derived.Test.YtnkddjomanaadaaDoorJ18
section
namespace Go.Proofs.YtnkddjomanaadaaDoor.Lock
open Go.RowKit
open Go.Maps (Keyed)
open Path (bl rightB overB)
set_option linter.unusedSimpArgs false
set_option linter.unusedVariables false

/-- a book's places -/
structure Pl where
  p : Nat
  m : Nat
  c : Nat
def Pl.at (a : Pl) (s : S3) : Bk := ⟨a.p, a.m, a.c, s.first, s.es, s.cs⟩
abbrev bookS (a : Pl) (s : S3) : Part := BookP (a.at s)
theorem Inv.len' {s : S3} {k : Nat} (h : Inv s k) (hk : k ≤ 1000) : s.es.length ≤ 1000000 := by have := h.len; omega
theorem Inv.ctr0 {s : S3} {k : Nat} (h : Inv s k) (q : ByteArray) : 0 ≤ counter s.first s.cs q := by have := counter_ge h q; have := h.first0; omega
theorem Inv.ok' {s : S3} {k : Nat} (h : Inv s k) (hk : k ≤ 1000) : ∀ x ∈ s.es, x.path.size ≤ 1000 ∧ x.stamp ≤ 1000000000 := fun x hx => by
  have h1 := h.path x hx
  have h2 := h.stamp1 x hx
  omega
theorem Inv.okd {s : S3} {k : Nat} (h : Inv s k) : ∀ x ∈ s.es, x.path.size ≤ maxLen ∧ 0 ≤ x.num ∧ x.num < big64 ∧ x.foot.size ≤ maxLen := fun x hx =>
  ⟨by have := h.path x hx; unfold maxLen; omega, h.num0 x hx, h.num1 x hx, h.foot x hx⟩
section
variable {a : Pl} {s : S3} {k : Nat} {w : World} {p f : ByteArray} {n mode : Int}
theorem new_at (first : Int) (w : World) : Calls Tryd.prog 6 #[.int .u64 first] w fun e w' => ∃ a : Pl, e = .returned (.pointer (some ⟨a.p, 0, none⟩)) ∧ At [] w [bookS a ⟨first, [], []⟩] w' :=
  (new_any w first).mono fun e w' ⟨b, he, h1, h2, h3, hT⟩ => by
    obtain ⟨p, m, c, fi, es, cs⟩ := b
    simp only at h1 h2 h3
    subst h1 h2 h3
    exact ⟨⟨p, m, c⟩, he, hT⟩
theorem may_at (h : Sep [bookS a s] w) (hI : Inv s k) (hk : k ≤ 1000) (hp : p.size ≤ 1000) (h0 : 0 ≤ n) (h1 : n < big64) (hf : f.size ≤ maxLen) :
    Calls Tryd.prog 13 #[.pointer (some ⟨a.p, 0, none⟩), .string p, .agg #[.int .u64 n, .string f], .int .i64 mode] w fun e w' => e = .returned (.int .i64 (s.may p n f mode)) ∧ At [bookS a s] w [bookS a s] w' :=
  may_any (b := a.at s) h (by omega) h0 h1 hf (by have := hI.len' hk; show s.es.length ≤ _; omega) hI.ctr0
theorem add_at (h : Sep [bookS a s] w) (hI : Inv s k) (hk : k ≤ 1000) (hp : p.size ≤ 1000) (h0 : 0 ≤ n) (h1 : n < big64) (hf : f.size ≤ maxLen) :
    Calls Tryd.prog 7 #[.pointer (some ⟨a.p, 0, none⟩), .string p, .agg #[.int .u64 n, .string f], .int .i64 mode] w fun e w' => e = .returned (.tuple #[(s.addE p n f mode).val, .int .i64 (s.may p n f mode)]) ∧ At [bookS a s] w [bookS a (s.add p n f mode)] w' := by
  have := add_any (b := a.at s) (p := p) (f := f) (n := n) (mode := mode) h (by omega) h0 h1 hf (by have := hI.len' hk; show s.es.length ≤ _; omega) hI.ctr0 (fun x hx => by have := hI.ok' hk x hx; omega)
  have e0 : (a.at s).st = s := rfl
  have e1 : (s.add p n f mode).first = s.first := by
    unfold S3.add
    split <;> rfl
  have e : (a.at s).with ((a.at s).st.add p n f mode) = a.at (s.add p n f mode) := by
    rw [e0]
    unfold Bk.with Pl.at
    rw [e1]
  rw [e, e0] at this
  exact this
theorem remove_at (h : Sep [bookS a s] w) (hp : p.size ≤ 1000) (h0 : 0 ≤ n) (h1 : n < big64) (hf : f.size ≤ maxLen) :
    Calls Tryd.prog 8 #[.pointer (some ⟨a.p, 0, none⟩), .string p, .agg #[.int .u64 n, .string f]] w fun e w' => e = .returned (.int .i64 (if (find s.es p n f).isSome = true then 0 else 52)) ∧ At [bookS a s] w [bookS a (s.remove p n f)] w' :=
  remove_any (b := a.at s) h (by unfold maxLen; omega) h0 h1 hf
theorem granted_at (h : Sep [bookS a s] w) (hI : Inv s k) {e : Ent} (hp : e.path.size ≤ 1000) (h0 : 0 ≤ e.num) (h1 : e.num < big64) (hf : e.foot.size ≤ maxLen) {c : Bool} (hc : grantedB s.es e = c) :
    Calls Tryd.prog 11 #[.pointer (some ⟨a.p, 0, none⟩), e.val] w fun o w' => o = .returned (.bool c) ∧ At [bookS a s] w [bookS a s] w' := by
  subst hc
  exact granted_any (b := a.at s) h (by omega) h0 h1 hf (fun x hx => by have := hI.path x hx; omega)
theorem counter_at_ (h : Sep [bookS a s] w) (hp : p.size ≤ 1000) :
    Calls Tryd.prog 9 #[.pointer (some ⟨a.p, 0, none⟩), .string p] w fun e w' => e = .returned (.int .u64 (counter s.first s.cs p)) ∧ At [bookS a s] w [bookS a s] w' :=
  counter_any (b := a.at s) h (by unfold maxLen; omega)
def ListPostS (w : World) (a : Pl) (s : S3) (e : Ending) (w' : World) : Prop := ∃ (v : Value) (l : List Ent), e = .returned v ∧ l.Perm s.es ∧ l.Pairwise ltE ∧ At [bookS a s] w [rowL v l, bookS a s] w'
theorem list_at (h : Sep [bookS a s] w) (hI : Inv s k) (hk : k ≤ 1000) : Calls Tryd.prog 10 #[.pointer (some ⟨a.p, 0, none⟩)] w (ListPostS w a s) :=
  list_any (b := a.at s) h hI.sortable (hI.len' hk) (fun x hx => by have := hI.path x hx; omega)
theorem find_at_ (h : Sep [bookS a s] w) (hp : p.size ≤ 1000) (h0 : 0 ≤ n) (h1 : n < big64) (hf : f.size ≤ maxLen) {x : Ent} (hx : find s.es p n f = some x) :
    Calls Tryd.prog 22 #[.pointer (some ⟨a.p, 0, none⟩), .string p, .agg #[.int .u64 n, .string f]] w fun e w' => e = .returned (.tuple #[x.val, .bool true]) ∧ At [bookS a s] w [bookS a s] w' :=
  find_yes (b := a.at s) h (by unfold maxLen; omega) h0 h1 hf hx
end

/-! ### The example -/
theorem i0_ : Inv s0 0 := inv_new (by omega) (by unfold big64; omega)
theorem pA_le : pA.size ≤ maxLen := by unfold maxLen; decide
theorem opk (p : ByteArray) (hp : p.size ≤ 100) (m : Int) : (⟨1, m, p, 1, pA⟩ : Op).ok := ⟨hp, by show (0 : Int) ≤ 1; omega, by show (1 : Int) < big64; unfold big64; omega, pA_le⟩
theorem i1_ : Inv s1 1 := (show s0.step ⟨1, 2, pAB, 1, pA⟩ = s1 by kernel_rfl) ▸ inv_step i0_ (opk pAB (by decide) 2)
theorem i2_ : Inv s2 2 := (show s1.step ⟨1, 2, pA, 1, pA⟩ = s2 by kernel_rfl) ▸ inv_step i1_ (opk pA (by decide) 2)
theorem i3_ : Inv s3 3 := (show s2.step ⟨1, 1, pAC, 1, pA⟩ = s3 by kernel_rfl) ▸ inv_step i2_ (opk pAC (by decide) 1)
theorem i4_ : Inv s4 4 := (show s3.step ⟨2, 1, pAB, 1, pA⟩ = s4 by kernel_rfl) ▸ inv_step i3_ ⟨by decide, by show (0 : Int) ≤ 1; omega, by show (1 : Int) < big64; unfold big64; omega, pA_le⟩
theorem one64 : (0 : Int) ≤ 1 ∧ (1 : Int) < big64 := by unfold big64; omega
set_option maxRecDepth 100000 in
set_option maxHeartbeats 2000000 in
theorem anchor_any (w : World) : Calls Tryd.prog 4 #[] w fun e w' => e = .returned (.bool true) ∧ Ext w w' := by
  have hA := At.start (w0 := w) (L0 := []) trivial
  have hF := hA.facts
  have q1 : (Value.string { data := #[97] }) = .string pA := rfl
  have q2 : (Value.string { data := #[97, 47, 98] }) = .string pAB := rfl
  have q3 : (Value.string { data := #[97, 47, 99] }) = .string pAC := rfl
  have g1 := exG.1
  have g2 := exG.2.1
  have g3 := exG.2.2.1
  have g4 := exG.2.2.2.1
  have g5 := exG.2.2.2.2
  go_enter Tryd.func4, Tryd.ntmps4
  go_wp2_with fail
  refine (new_at _ _).mono ?_
  rintro e w1 ⟨a, rfl, hT⟩
  have hB := hA.call0 hT; clear hF hA hT; have hA := hB; clear hB
  change At [] w [bookS a s0] w1 at hA
  have hF := hA.facts
  (try simp only [setL, List.set_cons_zero, List.set_cons_succ, List.cons_append, List.nil_append] at hA); (have hF := hA.facts); (try simp only [facts_cons, facts_nil, facts_cells, facts_old, facts_fact, facts_obj, facts_map, facts_iter, facts_row, and_true, true_and] at hF)
  go_wp2_with (first | ((with_reducible show wpList _ _ _ ({ dst := _, op := Op.alloc _, type := _, pos := _, after := _, guard := _ } :: _) _ _); refine wpList_alloc_at (E := 24) (z := .agg #[.int .u64 0, .string .empty]) (vs := [.int .u64 0, .string .empty]) rfl rfl (by kernel_rfl) rfl hA ?_; intro bS w1 hB hbS; clear hF hA; have hA := hB; clear hB; (try simp only [setL, List.set_cons_zero, List.set_cons_succ, List.cons_append, List.nil_append] at hA); (have hF := hA.facts); (try simp only [facts_cons, facts_nil, facts_cells, facts_old, facts_fact, facts_obj, facts_map, facts_iter, facts_row, and_true, true_and] at hF)) | ((with_reducible show wpList _ _ _ ({ dst := _, op := Op.store _ _ _, type := _, pos := _, after := _, guard := _ } :: _) _ _); refine wpList_store_at rfl rfl rfl (by (try simp only [Act.eval, Array.getD_eq_getD_getElem?, List.getElem?_toArray, List.getElem?_cons_succ, List.getElem?_cons_zero, Option.getD_some]) <;> exact rfl) (by exact rfl) hA (by with_reducible repeat (first | exact Sel.here | apply Sel.there)) (by kernel_rfl) rfl (by first | decide | (simp; done) | omega) ?_; intro w1 hB; clear hF hA; have hA := hB; clear hB; (try simp only [setL, List.set_cons_zero, List.set_cons_succ, List.cons_append, List.nil_append] at hA); (have hF := hA.facts); (try simp only [facts_cons, facts_nil, facts_cells, facts_old, facts_fact, facts_obj, facts_map, facts_iter, facts_row, and_true, true_and] at hF)) | ((with_reducible show wpList _ _ _ ({ dst := _, op := Op.box _ _, type := _, pos := _, after := _, guard := _ } :: _) _ _); refine wpList_box_at rfl rfl (by (try simp only [Act.eval, Array.getD_eq_getD_getElem?, List.getElem?_toArray, List.getElem?_cons_succ, List.getElem?_cons_zero, Option.getD_some]) <;> exact rfl) (by exact rfl) hA ?_; intro b1 w1 hB hb1; clear hF hA; have hA := hB; clear hB; (try simp only [setL, List.set_cons_zero, List.set_cons_succ, List.cons_append, List.nil_append] at hA); (have hF := hA.facts); (try simp only [facts_cons, facts_nil, facts_cells, facts_old, facts_fact, facts_obj, facts_map, facts_iter, facts_row, and_true, true_and] at hF)))
  refine (add_at (s := s0) (a := a) (p := pAB) (f := pA) (n := 1) (mode := 2) (hA.sep1 (by with_reducible repeat (first | exact Sel.here | apply Sel.there))) i0_ (by omega) (by decide) one64.1 one64.2 pA_le).mono ?_
  rw [ex1.1, ex1.2.1, ex1.2.2]
  rintro e w2 ⟨rfl, hT⟩
  have hB := hA.call1 (by with_reducible repeat (first | exact Sel.here | apply Sel.there)) hT; clear hF hA hT; have hA := hB; clear hB
  (try simp only [setL, List.set_cons_zero, List.set_cons_succ, List.cons_append, List.nil_append] at hA); (have hF := hA.facts); (try simp only [facts_cons, facts_nil, facts_cells, facts_old, facts_fact, facts_obj, facts_map, facts_iter, facts_row, and_true, true_and] at hF)
  unfold Ent.val e1
  go_wp2_with (first | ((with_reducible show wpList _ _ _ ({ dst := _, op := Op.alloc _, type := _, pos := _, after := _, guard := _ } :: _) _ _); refine wpList_alloc_at (E := 30) (z := .agg #[.string .empty, .int .u64 0, .string .empty, .int .i64 0, .int .u64 0, .int .i64 0]) (vs := [.string .empty, .int .u64 0, .string .empty, .int .i64 0, .int .u64 0, .int .i64 0]) rfl rfl (by kernel_rfl) rfl hA ?_; intro b1 w1 hB hb1; clear hF hA; have hA := hB; clear hB; (try simp only [setL, List.set_cons_zero, List.set_cons_succ, List.cons_append, List.nil_append] at hA); (have hF := hA.facts); (try simp only [facts_cons, facts_nil, facts_cells, facts_old, facts_fact, facts_obj, facts_map, facts_iter, facts_row, and_true, true_and] at hF)) | ((with_reducible show wpList _ _ _ ({ dst := _, op := Op.store _ _ _, type := _, pos := _, after := _, guard := _ } :: _) _ _); refine wpList_store_at rfl rfl rfl (by (try simp only [Act.eval, Array.getD_eq_getD_getElem?, List.getElem?_toArray, List.getElem?_cons_succ, List.getElem?_cons_zero, Option.getD_some]) <;> exact rfl) (by exact rfl) hA (by with_reducible repeat (first | exact Sel.here | apply Sel.there)) (by kernel_rfl) rfl (by first | decide | (simp; done) | omega) ?_; intro w1 hB; clear hF hA; have hA := hB; clear hB; (try simp only [setL, List.set_cons_zero, List.set_cons_succ, List.cons_append, List.nil_append] at hA); (have hF := hA.facts); (try simp only [facts_cons, facts_nil, facts_cells, facts_old, facts_fact, facts_obj, facts_map, facts_iter, facts_row, and_true, true_and] at hF)) | ((with_reducible show wpList _ _ _ ({ dst := _, op := Op.box _ _, type := _, pos := _, after := _, guard := _ } :: _) _ _); refine wpList_box_at rfl rfl (by (try simp only [Act.eval, Array.getD_eq_getD_getElem?, List.getElem?_toArray, List.getElem?_cons_succ, List.getElem?_cons_zero, Option.getD_some]) <;> exact rfl) (by exact rfl) hA ?_; intro b1 w1 hB hb1; clear hF hA; have hA := hB; clear hB; (try simp only [setL, List.set_cons_zero, List.set_cons_succ, List.cons_append, List.nil_append] at hA); (have hF := hA.facts); (try simp only [facts_cons, facts_nil, facts_cells, facts_old, facts_fact, facts_obj, facts_map, facts_iter, facts_row, and_true, true_and] at hF)))
  refine (add_at (s := s1) (a := a) (p := pA) (f := pA) (n := 1) (mode := 2) (hA.sep1 (by with_reducible repeat (first | exact Sel.here | apply Sel.there))) i1_ (by omega) (by decide) one64.1 one64.2 pA_le).mono ?_
  rw [ex2.1, ex2.2.1, ex2.2.2]
  rintro e w2 ⟨rfl, hT⟩
  have hB := hA.call1 (by with_reducible repeat (first | exact Sel.here | apply Sel.there)) hT; clear hF hA hT; have hA := hB; clear hB
  (try simp only [setL, List.set_cons_zero, List.set_cons_succ, List.cons_append, List.nil_append] at hA); (have hF := hA.facts); (try simp only [facts_cons, facts_nil, facts_cells, facts_old, facts_fact, facts_obj, facts_map, facts_iter, facts_row, and_true, true_and] at hF)
  unfold Ent.val e2
  go_wp2_with (first | ((with_reducible show wpList _ _ _ ({ dst := _, op := Op.alloc _, type := _, pos := _, after := _, guard := _ } :: _) _ _); refine wpList_alloc_at (E := 30) (z := .agg #[.string .empty, .int .u64 0, .string .empty, .int .i64 0, .int .u64 0, .int .i64 0]) (vs := [.string .empty, .int .u64 0, .string .empty, .int .i64 0, .int .u64 0, .int .i64 0]) rfl rfl (by kernel_rfl) rfl hA ?_; intro b2 w1 hB hb2; clear hF hA; have hA := hB; clear hB; (try simp only [setL, List.set_cons_zero, List.set_cons_succ, List.cons_append, List.nil_append] at hA); (have hF := hA.facts); (try simp only [facts_cons, facts_nil, facts_cells, facts_old, facts_fact, facts_obj, facts_map, facts_iter, facts_row, and_true, true_and] at hF)) | ((with_reducible show wpList _ _ _ ({ dst := _, op := Op.store _ _ _, type := _, pos := _, after := _, guard := _ } :: _) _ _); refine wpList_store_at rfl rfl rfl (by (try simp only [Act.eval, Array.getD_eq_getD_getElem?, List.getElem?_toArray, List.getElem?_cons_succ, List.getElem?_cons_zero, Option.getD_some]) <;> exact rfl) (by exact rfl) hA (by with_reducible repeat (first | exact Sel.here | apply Sel.there)) (by kernel_rfl) rfl (by first | decide | (simp; done) | omega) ?_; intro w1 hB; clear hF hA; have hA := hB; clear hB; (try simp only [setL, List.set_cons_zero, List.set_cons_succ, List.cons_append, List.nil_append] at hA); (have hF := hA.facts); (try simp only [facts_cons, facts_nil, facts_cells, facts_old, facts_fact, facts_obj, facts_map, facts_iter, facts_row, and_true, true_and] at hF)) | ((with_reducible show wpList _ _ _ ({ dst := _, op := Op.box _ _, type := _, pos := _, after := _, guard := _ } :: _) _ _); refine wpList_box_at rfl rfl (by (try simp only [Act.eval, Array.getD_eq_getD_getElem?, List.getElem?_toArray, List.getElem?_cons_succ, List.getElem?_cons_zero, Option.getD_some]) <;> exact rfl) (by exact rfl) hA ?_; intro b1 w1 hB hb1; clear hF hA; have hA := hB; clear hB; (try simp only [setL, List.set_cons_zero, List.set_cons_succ, List.cons_append, List.nil_append] at hA); (have hF := hA.facts); (try simp only [facts_cons, facts_nil, facts_cells, facts_old, facts_fact, facts_obj, facts_map, facts_iter, facts_row, and_true, true_and] at hF)))
  refine (add_at (s := s2) (a := a) (p := pAC) (f := pA) (n := 1) (mode := 1) (hA.sep1 (by with_reducible repeat (first | exact Sel.here | apply Sel.there))) i2_ (by omega) (by decide) one64.1 one64.2 pA_le).mono ?_
  rw [ex3.1, ex3.2.1, ex3.2.2]
  rintro e w2 ⟨rfl, hT⟩
  have hB := hA.call1 (by with_reducible repeat (first | exact Sel.here | apply Sel.there)) hT; clear hF hA hT; have hA := hB; clear hB
  (try simp only [setL, List.set_cons_zero, List.set_cons_succ, List.cons_append, List.nil_append] at hA); (have hF := hA.facts); (try simp only [facts_cons, facts_nil, facts_cells, facts_old, facts_fact, facts_obj, facts_map, facts_iter, facts_row, and_true, true_and] at hF)
  unfold Ent.val e3
  go_wp2_with (first | ((with_reducible show wpList _ _ _ ({ dst := _, op := Op.alloc _, type := _, pos := _, after := _, guard := _ } :: _) _ _); refine wpList_alloc_at (E := 30) (z := .agg #[.string .empty, .int .u64 0, .string .empty, .int .i64 0, .int .u64 0, .int .i64 0]) (vs := [.string .empty, .int .u64 0, .string .empty, .int .i64 0, .int .u64 0, .int .i64 0]) rfl rfl (by kernel_rfl) rfl hA ?_; intro b3 w1 hB hb3; clear hF hA; have hA := hB; clear hB; (try simp only [setL, List.set_cons_zero, List.set_cons_succ, List.cons_append, List.nil_append] at hA); (have hF := hA.facts); (try simp only [facts_cons, facts_nil, facts_cells, facts_old, facts_fact, facts_obj, facts_map, facts_iter, facts_row, and_true, true_and] at hF)) | ((with_reducible show wpList _ _ _ ({ dst := _, op := Op.store _ _ _, type := _, pos := _, after := _, guard := _ } :: _) _ _); refine wpList_store_at rfl rfl rfl (by (try simp only [Act.eval, Array.getD_eq_getD_getElem?, List.getElem?_toArray, List.getElem?_cons_succ, List.getElem?_cons_zero, Option.getD_some]) <;> exact rfl) (by exact rfl) hA (by with_reducible repeat (first | exact Sel.here | apply Sel.there)) (by kernel_rfl) rfl (by first | decide | (simp; done) | omega) ?_; intro w1 hB; clear hF hA; have hA := hB; clear hB; (try simp only [setL, List.set_cons_zero, List.set_cons_succ, List.cons_append, List.nil_append] at hA); (have hF := hA.facts); (try simp only [facts_cons, facts_nil, facts_cells, facts_old, facts_fact, facts_obj, facts_map, facts_iter, facts_row, and_true, true_and] at hF)) | ((with_reducible show wpList _ _ _ ({ dst := _, op := Op.box _ _, type := _, pos := _, after := _, guard := _ } :: _) _ _); refine wpList_box_at rfl rfl (by (try simp only [Act.eval, Array.getD_eq_getD_getElem?, List.getElem?_toArray, List.getElem?_cons_succ, List.getElem?_cons_zero, Option.getD_some]) <;> exact rfl) (by exact rfl) hA ?_; intro b1 w1 hB hb1; clear hF hA; have hA := hB; clear hB; (try simp only [setL, List.set_cons_zero, List.set_cons_succ, List.cons_append, List.nil_append] at hA); (have hF := hA.facts); (try simp only [facts_cons, facts_nil, facts_cells, facts_old, facts_fact, facts_obj, facts_map, facts_iter, facts_row, and_true, true_and] at hF)))
  refine (granted_at (s := s3) (a := a) (e := e1) (hA.sep1 (by with_reducible repeat (first | exact Sel.here | apply Sel.there))) i3_ (by decide) one64.1 one64.2 pA_le g1).mono ?_
  rintro e w1 ⟨rfl, hT⟩; have hB := hA.call1 (by with_reducible repeat (first | exact Sel.here | apply Sel.there)) hT; clear hF hA hT; have hA := hB; clear hB; (try simp only [setL, List.set_cons_zero, List.set_cons_succ, List.cons_append, List.nil_append] at hA); (have hF := hA.facts); (try simp only [facts_cons, facts_nil, facts_cells, facts_old, facts_fact, facts_obj, facts_map, facts_iter, facts_row, and_true, true_and] at hF)
  go_wp2_with (first | ((with_reducible show wpList _ _ _ ({ dst := _, op := Op.store _ _ _, type := _, pos := _, after := _, guard := _ } :: _) _ _); refine wpList_store_at rfl rfl rfl (by (try simp only [Act.eval, Array.getD_eq_getD_getElem?, List.getElem?_toArray, List.getElem?_cons_succ, List.getElem?_cons_zero, Option.getD_some]) <;> exact rfl) (by exact rfl) hA (by with_reducible repeat (first | exact Sel.here | apply Sel.there)) (by kernel_rfl) rfl (by first | decide | (simp; done) | omega) ?_; intro w1 hB; clear hF hA; have hA := hB; clear hB; (try simp only [setL, List.set_cons_zero, List.set_cons_succ, List.cons_append, List.nil_append] at hA); (have hF := hA.facts); (try simp only [facts_cons, facts_nil, facts_cells, facts_old, facts_fact, facts_obj, facts_map, facts_iter, facts_row, and_true, true_and] at hF)) | ((with_reducible show wpList _ _ _ ({ dst := _, op := Op.box _ _, type := _, pos := _, after := _, guard := _ } :: _) _ _); refine wpList_box_at rfl rfl (by (try simp only [Act.eval, Array.getD_eq_getD_getElem?, List.getElem?_toArray, List.getElem?_cons_succ, List.getElem?_cons_zero, Option.getD_some]) <;> exact rfl) (by exact rfl) hA ?_; intro b1 w1 hB hb1; clear hF hA; have hA := hB; clear hB; (try simp only [setL, List.set_cons_zero, List.set_cons_succ, List.cons_append, List.nil_append] at hA); (have hF := hA.facts); (try simp only [facts_cons, facts_nil, facts_cells, facts_old, facts_fact, facts_obj, facts_map, facts_iter, facts_row, and_true, true_and] at hF)))
  refine (granted_at (s := s3) (a := a) (e := e2) (hA.sep1 (by with_reducible repeat (first | exact Sel.here | apply Sel.there))) i3_ (by decide) one64.1 one64.2 pA_le g2).mono ?_
  rintro e w1 ⟨rfl, hT⟩; have hB := hA.call1 (by with_reducible repeat (first | exact Sel.here | apply Sel.there)) hT; clear hF hA hT; have hA := hB; clear hB; (try simp only [setL, List.set_cons_zero, List.set_cons_succ, List.cons_append, List.nil_append] at hA); (have hF := hA.facts); (try simp only [facts_cons, facts_nil, facts_cells, facts_old, facts_fact, facts_obj, facts_map, facts_iter, facts_row, and_true, true_and] at hF)
  go_wp2_with (first | ((with_reducible show wpList _ _ _ ({ dst := _, op := Op.store _ _ _, type := _, pos := _, after := _, guard := _ } :: _) _ _); refine wpList_store_at rfl rfl rfl (by (try simp only [Act.eval, Array.getD_eq_getD_getElem?, List.getElem?_toArray, List.getElem?_cons_succ, List.getElem?_cons_zero, Option.getD_some]) <;> exact rfl) (by exact rfl) hA (by with_reducible repeat (first | exact Sel.here | apply Sel.there)) (by kernel_rfl) rfl (by first | decide | (simp; done) | omega) ?_; intro w1 hB; clear hF hA; have hA := hB; clear hB; (try simp only [setL, List.set_cons_zero, List.set_cons_succ, List.cons_append, List.nil_append] at hA); (have hF := hA.facts); (try simp only [facts_cons, facts_nil, facts_cells, facts_old, facts_fact, facts_obj, facts_map, facts_iter, facts_row, and_true, true_and] at hF)) | ((with_reducible show wpList _ _ _ ({ dst := _, op := Op.box _ _, type := _, pos := _, after := _, guard := _ } :: _) _ _); refine wpList_box_at rfl rfl (by (try simp only [Act.eval, Array.getD_eq_getD_getElem?, List.getElem?_toArray, List.getElem?_cons_succ, List.getElem?_cons_zero, Option.getD_some]) <;> exact rfl) (by exact rfl) hA ?_; intro b1 w1 hB hb1; clear hF hA; have hA := hB; clear hB; (try simp only [setL, List.set_cons_zero, List.set_cons_succ, List.cons_append, List.nil_append] at hA); (have hF := hA.facts); (try simp only [facts_cons, facts_nil, facts_cells, facts_old, facts_fact, facts_obj, facts_map, facts_iter, facts_row, and_true, true_and] at hF)))
  refine (granted_at (s := s3) (a := a) (e := e3) (hA.sep1 (by with_reducible repeat (first | exact Sel.here | apply Sel.there))) i3_ (by decide) one64.1 one64.2 pA_le g3).mono ?_
  rintro e w1 ⟨rfl, hT⟩; have hB := hA.call1 (by with_reducible repeat (first | exact Sel.here | apply Sel.there)) hT; clear hF hA hT; have hA := hB; clear hB; (try simp only [setL, List.set_cons_zero, List.set_cons_succ, List.cons_append, List.nil_append] at hA); (have hF := hA.facts); (try simp only [facts_cons, facts_nil, facts_cells, facts_old, facts_fact, facts_obj, facts_map, facts_iter, facts_row, and_true, true_and] at hF)
  go_wp2_with (first | ((with_reducible show wpList _ _ _ ({ dst := _, op := Op.store _ _ _, type := _, pos := _, after := _, guard := _ } :: _) _ _); refine wpList_store_at rfl rfl rfl (by (try simp only [Act.eval, Array.getD_eq_getD_getElem?, List.getElem?_toArray, List.getElem?_cons_succ, List.getElem?_cons_zero, Option.getD_some]) <;> exact rfl) (by exact rfl) hA (by with_reducible repeat (first | exact Sel.here | apply Sel.there)) (by kernel_rfl) rfl (by first | decide | (simp; done) | omega) ?_; intro w1 hB; clear hF hA; have hA := hB; clear hB; (try simp only [setL, List.set_cons_zero, List.set_cons_succ, List.cons_append, List.nil_append] at hA); (have hF := hA.facts); (try simp only [facts_cons, facts_nil, facts_cells, facts_old, facts_fact, facts_obj, facts_map, facts_iter, facts_row, and_true, true_and] at hF)) | ((with_reducible show wpList _ _ _ ({ dst := _, op := Op.box _ _, type := _, pos := _, after := _, guard := _ } :: _) _ _); refine wpList_box_at rfl rfl (by (try simp only [Act.eval, Array.getD_eq_getD_getElem?, List.getElem?_toArray, List.getElem?_cons_succ, List.getElem?_cons_zero, Option.getD_some]) <;> exact rfl) (by exact rfl) hA ?_; intro b1 w1 hB hb1; clear hF hA; have hA := hB; clear hB; (try simp only [setL, List.set_cons_zero, List.set_cons_succ, List.cons_append, List.nil_append] at hA); (have hF := hA.facts); (try simp only [facts_cons, facts_nil, facts_cells, facts_old, facts_fact, facts_obj, facts_map, facts_iter, facts_row, and_true, true_and] at hF)))
  refine (remove_at (s := s3) (a := a) (p := pAB) (f := pA) (n := 1) (hA.sep1 (by with_reducible repeat (first | exact Sel.here | apply Sel.there))) (by decide) one64.1 one64.2 pA_le).mono ?_
  rw [ex4.1, ex4.2]
  simp only [if_true]
  rintro e w1 ⟨rfl, hT⟩; have hB := hA.call1 (by with_reducible repeat (first | exact Sel.here | apply Sel.there)) hT; clear hF hA hT; have hA := hB; clear hB; (try simp only [setL, List.set_cons_zero, List.set_cons_succ, List.cons_append, List.nil_append] at hA); (have hF := hA.facts); (try simp only [facts_cons, facts_nil, facts_cells, facts_old, facts_fact, facts_obj, facts_map, facts_iter, facts_row, and_true, true_and] at hF)
  go_wp2_with (first | ((with_reducible show wpList _ _ _ ({ dst := _, op := Op.store _ _ _, type := _, pos := _, after := _, guard := _ } :: _) _ _); refine wpList_store_at rfl rfl rfl (by (try simp only [Act.eval, Array.getD_eq_getD_getElem?, List.getElem?_toArray, List.getElem?_cons_succ, List.getElem?_cons_zero, Option.getD_some]) <;> exact rfl) (by exact rfl) hA (by with_reducible repeat (first | exact Sel.here | apply Sel.there)) (by kernel_rfl) rfl (by first | decide | (simp; done) | omega) ?_; intro w1 hB; clear hF hA; have hA := hB; clear hB; (try simp only [setL, List.set_cons_zero, List.set_cons_succ, List.cons_append, List.nil_append] at hA); (have hF := hA.facts); (try simp only [facts_cons, facts_nil, facts_cells, facts_old, facts_fact, facts_obj, facts_map, facts_iter, facts_row, and_true, true_and] at hF)) | ((with_reducible show wpList _ _ _ ({ dst := _, op := Op.box _ _, type := _, pos := _, after := _, guard := _ } :: _) _ _); refine wpList_box_at rfl rfl (by (try simp only [Act.eval, Array.getD_eq_getD_getElem?, List.getElem?_toArray, List.getElem?_cons_succ, List.getElem?_cons_zero, Option.getD_some]) <;> exact rfl) (by exact rfl) hA ?_; intro b1 w1 hB hb1; clear hF hA; have hA := hB; clear hB; (try simp only [setL, List.set_cons_zero, List.set_cons_succ, List.cons_append, List.nil_append] at hA); (have hF := hA.facts); (try simp only [facts_cons, facts_nil, facts_cells, facts_old, facts_fact, facts_obj, facts_map, facts_iter, facts_row, and_true, true_and] at hF)))
  refine (granted_at (s := s4) (a := a) (e := e2) (hA.sep1 (by with_reducible repeat (first | exact Sel.here | apply Sel.there))) i4_ (by decide) one64.1 one64.2 pA_le g4).mono ?_
  rintro e w1 ⟨rfl, hT⟩; have hB := hA.call1 (by with_reducible repeat (first | exact Sel.here | apply Sel.there)) hT; clear hF hA hT; have hA := hB; clear hB; (try simp only [setL, List.set_cons_zero, List.set_cons_succ, List.cons_append, List.nil_append] at hA); (have hF := hA.facts); (try simp only [facts_cons, facts_nil, facts_cells, facts_old, facts_fact, facts_obj, facts_map, facts_iter, facts_row, and_true, true_and] at hF)
  go_wp2_with (first | ((with_reducible show wpList _ _ _ ({ dst := _, op := Op.store _ _ _, type := _, pos := _, after := _, guard := _ } :: _) _ _); refine wpList_store_at rfl rfl rfl (by (try simp only [Act.eval, Array.getD_eq_getD_getElem?, List.getElem?_toArray, List.getElem?_cons_succ, List.getElem?_cons_zero, Option.getD_some]) <;> exact rfl) (by exact rfl) hA (by with_reducible repeat (first | exact Sel.here | apply Sel.there)) (by kernel_rfl) rfl (by first | decide | (simp; done) | omega) ?_; intro w1 hB; clear hF hA; have hA := hB; clear hB; (try simp only [setL, List.set_cons_zero, List.set_cons_succ, List.cons_append, List.nil_append] at hA); (have hF := hA.facts); (try simp only [facts_cons, facts_nil, facts_cells, facts_old, facts_fact, facts_obj, facts_map, facts_iter, facts_row, and_true, true_and] at hF)) | ((with_reducible show wpList _ _ _ ({ dst := _, op := Op.box _ _, type := _, pos := _, after := _, guard := _ } :: _) _ _); refine wpList_box_at rfl rfl (by (try simp only [Act.eval, Array.getD_eq_getD_getElem?, List.getElem?_toArray, List.getElem?_cons_succ, List.getElem?_cons_zero, Option.getD_some]) <;> exact rfl) (by exact rfl) hA ?_; intro b1 w1 hB hb1; clear hF hA; have hA := hB; clear hB; (try simp only [setL, List.set_cons_zero, List.set_cons_succ, List.cons_append, List.nil_append] at hA); (have hF := hA.facts); (try simp only [facts_cons, facts_nil, facts_cells, facts_old, facts_fact, facts_obj, facts_map, facts_iter, facts_row, and_true, true_and] at hF)))
  refine (granted_at (s := s4) (a := a) (e := e3) (hA.sep1 (by with_reducible repeat (first | exact Sel.here | apply Sel.there))) i4_ (by decide) one64.1 one64.2 pA_le g5).mono ?_
  rintro e w1 ⟨rfl, hT⟩; have hB := hA.call1 (by with_reducible repeat (first | exact Sel.here | apply Sel.there)) hT; clear hF hA hT; have hA := hB; clear hB; (try simp only [setL, List.set_cons_zero, List.set_cons_succ, List.cons_append, List.nil_append] at hA); (have hF := hA.facts); (try simp only [facts_cons, facts_nil, facts_cells, facts_old, facts_fact, facts_obj, facts_map, facts_iter, facts_row, and_true, true_and] at hF)
  go_wp2_with (first | ((with_reducible show wpList _ _ _ ({ dst := _, op := Op.store _ _ _, type := _, pos := _, after := _, guard := _ } :: _) _ _); refine wpList_store_at rfl rfl rfl (by (try simp only [Act.eval, Array.getD_eq_getD_getElem?, List.getElem?_toArray, List.getElem?_cons_succ, List.getElem?_cons_zero, Option.getD_some]) <;> exact rfl) (by exact rfl) hA (by with_reducible repeat (first | exact Sel.here | apply Sel.there)) (by kernel_rfl) rfl (by first | decide | (simp; done) | omega) ?_; intro w1 hB; clear hF hA; have hA := hB; clear hB; (try simp only [setL, List.set_cons_zero, List.set_cons_succ, List.cons_append, List.nil_append] at hA); (have hF := hA.facts); (try simp only [facts_cons, facts_nil, facts_cells, facts_old, facts_fact, facts_obj, facts_map, facts_iter, facts_row, and_true, true_and] at hF)) | ((with_reducible show wpList _ _ _ ({ dst := _, op := Op.box _ _, type := _, pos := _, after := _, guard := _ } :: _) _ _); refine wpList_box_at rfl rfl (by (try simp only [Act.eval, Array.getD_eq_getD_getElem?, List.getElem?_toArray, List.getElem?_cons_succ, List.getElem?_cons_zero, Option.getD_some]) <;> exact rfl) (by exact rfl) hA ?_; intro b1 w1 hB hb1; clear hF hA; have hA := hB; clear hB; (try simp only [setL, List.set_cons_zero, List.set_cons_succ, List.cons_append, List.nil_append] at hA); (have hF := hA.facts); (try simp only [facts_cons, facts_nil, facts_cells, facts_old, facts_fact, facts_obj, facts_map, facts_iter, facts_row, and_true, true_and] at hF)))
  go_ret
  exact ⟨rfl, hA.toExt⟩
end Go.Proofs.YtnkddjomanaadaaDoor.Lock
end

section
namespace Go.Proofs.YtnkddjomanaadaaDoor.Lock
open Path (bl rightB overB)
set_option linter.unusedSimpArgs false
set_option linter.unusedVariables false

/-- behind i entries on p that were added, and removed -/
def endS (first : Int) (p : ByteArray) (i : Nat) : S3 := ⟨first, [], if i = 0 then [] else [(p, first + i)]⟩
theorem end_counter (first : Int) (p : ByteArray) (i : Nat) : counter first (endS first p i).cs p = first + i := by
  unfold endS counter
  by_cases h : i = 0
  · subst h; simp [ctr]
  · simp [h, ctr]
theorem end_other (first : Int) {p q : ByteArray} (i : Nat) (h : p ≠ q) : counter first (endS first p i).cs q = first := by
  unfold endS counter
  by_cases hi : i = 0
  · subst hi; simp [ctr]
  · simp [hi, ctr, h]
theorem end_may {first : Int} {p q : ByteArray} {n : Int} {f : ByteArray} {mode : Int} {i : Nat} (hr : rightM q mode = true) : (endS first p i).may q n f mode = if lastN ≤ counter first (endS first p i).cs q then 53 else 0 := by
  unfold S3.may
  rw [hr, if_neg (by simp), if_neg (by simp [endS, find]), if_neg (by simp [endS, heldN])]
  rfl
theorem end_round {first : Int} {p : ByteArray} {n : Int} {f : ByteArray} {mode : Int} {i : Nat} (hr : rightM p mode = true) (hlt : first + i < lastN) :
    (endS first p i).may p n f mode = 0 ∧ (endS first p i).addE p n f mode = ⟨p, n, f, mode, first + i + 1, 1⟩ ∧ ((endS first p i).add p n f mode).remove p n f = endS first p (i + 1) ∧ (find ((endS first p i).add p n f mode).es p n f).isSome = true := by
  have hm : (endS first p i).may p n f mode = 0 := by rw [end_may hr, end_counter, if_neg (by omega)]
  have hN : (endS first p i).newE p n f mode = ⟨p, n, f, mode, first + i + 1, 1⟩ := by
    unfold S3.newE
    rw [show (endS first p i).first = first from rfl, end_counter]
    rfl
  have ha : (endS first p i).add p n f mode = ⟨first, [⟨p, n, f, mode, first + i + 1, 1⟩], [(p, first + i + 1)]⟩ := by
    unfold S3.add
    rw [if_pos hm]
    unfold S3.added
    rw [hN, show (endS first p i).first = first from rfl, end_counter]
    unfold endS
    by_cases h : i = 0
    · subst h; simp [putC]
    · simp [h, putC]
  refine ⟨hm, by unfold S3.addE; rw [if_pos hm, hN], ?_, ?_⟩
  · rw [ha]
    unfold S3.remove endS
    simp [Ent.is, Int.add_assoc]
  · rw [ha]
    simp [find, Ent.is]
theorem end_end {first : Int} {p : ByteArray} {n : Int} {f : ByteArray} {mode : Int} {i : Nat} (hr : rightM p mode = true) (he : first + i = lastN) :
    (endS first p i).may p n f mode = 53 ∧ (endS first p i).addE p n f mode = nullE ∧ (endS first p i).add p n f mode = endS first p i ∧ counter first (endS first p i).cs p = lastN := by
  have hm : (endS first p i).may p n f mode = 53 := by rw [end_may hr, end_counter, if_pos (by omega)]
  refine ⟨hm, ?_, ?_, by rw [end_counter, he]⟩
  · unfold S3.addE; rw [hm, if_neg (by omega)]
  · unfold S3.add; rw [hm, if_neg (by omega)]
theorem end_else {first : Int} {p q : ByteArray} {n : Int} {f : ByteArray} {mode : Int} {i : Nat} (hr : rightM q mode = true) (hpq : p ≠ q) (he : first + i = lastN) :
    (endS first p i).may q n f mode = if i = 0 then 53 else 0 := by
  rw [end_may hr, end_other _ _ hpq]
  by_cases h : i = 0
  · rw [if_pos h, if_pos (by omega)]
  · rw [if_neg h, if_neg (by omega)]
theorem end_inv {first : Int} {p : ByteArray} {n : Int} {f : ByteArray} {mode : Int} (h0 : 0 ≤ first) (h1 : first < big64) (hr : rightM p mode = true) (hp : p.size ≤ 100) (hn0 : 0 ≤ n) (hn1 : n < big64) (hf : f.size ≤ maxLen) :
    ∀ i : Nat, first + i ≤ lastN → Inv (endS first p i) i := by
  intro i
  induction i with
  | zero => intro _; exact inv_new h0 h1
  | succ i ih =>
    intro hle
    have hI := ih (by omega)
    obtain ⟨hm, _, hrm, _⟩ := end_round (n := n) (f := f) (mode := mode) (i := i) (first := first) (p := p) hr (by omega)
    have h2 := inv_added hI hm hp hn0 hn1 hf
    have e : (endS first p i).add p n f mode = (endS first p i).added p n f mode := by unfold S3.add; rw [if_pos hm]
    rw [← hrm, e]
    exact h2.sub (l := ((endS first p i).added p n f mode).es.filter (fun e => !e.is p n f)) List.filter_sublist
end Go.Proofs.YtnkddjomanaadaaDoor.Lock
end
