/- LockV, LockC, LockD, joined. -/
import Derived.Test.YtalfoiodejoicaaGreatDoorJ5
import Derived.Test.YtalfoiodejoicaaGreatDoorJ6
import Derived.Deep.LoopGhost
section
namespace Go.Proofs.YtalfoiodejoicaaGreatDoor.Lock
open Go.RowKit
open Go.Maps (Keyed)
open Path (bl rightB overB)
set_option linter.unusedSimpArgs false
set_option linter.unusedVariables false

/-- no entry -/
def nullE : Ent := ⟨.empty, 0, .empty, 0, 0, 0⟩
set_option maxRecDepth 100000 in
theorem find_no {w : World} {b : Bk} (h : Sep [BookP b] w) {p : ByteArray} {n : Int} {f : ByteArray} (hp : p.size ≤ maxLen) (h0 : 0 ≤ n) (h1 : n < big64) (hf : f.size ≤ maxLen) (hn : find b.es p n f = none) :
    Calls Tryz.prog 88 #[.pointer (some ⟨b.p, 0, none⟩), .string p, .agg #[.int .u64 n, .string f]] w fun e w' => e = .returned (.tuple #[nullE.val, .bool false]) ∧ At [BookP b] w [BookP b] w' := by
  obtain ⟨kl, hk⟩ := keyP hp h0 h1 hf
  have hmiss := Lib.hid (find_none hn)
  have hA := begin0 h
  have hF := hA.facts
  clear h hn
  (try simp only [setL, List.set_cons_zero, List.set_cons_succ, List.cons_append, List.nil_append] at hA); (have hF := hA.facts); (try simp only [facts_cons, facts_nil, facts_cells, facts_old, facts_fact, facts_obj, facts_map, facts_iter, and_true, true_and] at hF)
  unfold keyV at *
  go_enter Tryz.func88, Tryz.ntmps88
  go_wp2_with (first | ((with_reducible show wpList _ _ _ ({ dst := _, op := Op.store _ _ _, type := _, pos := _, after := _, guard := _ } :: _) _ _); refine wpList_store_at rfl rfl rfl (by (try simp only [Act.eval, Array.getD_eq_getD_getElem?, List.getElem?_toArray, List.getElem?_cons_succ, List.getElem?_cons_zero, Option.getD_some]) <;> exact rfl) (by exact rfl) hA (by with_reducible repeat (first | exact Sel.here | apply Sel.there)) (by kernel_rfl) rfl (by first | decide | (simp; done) | omega) ?_; intro w1 hB; clear hF hA; have hA := hB; clear hB; (try simp only [setL, List.set_cons_zero, List.set_cons_succ, List.cons_append, List.nil_append] at hA); (have hF := hA.facts); (try simp only [facts_cons, facts_nil, facts_cells, facts_old, facts_fact, facts_obj, facts_map, facts_iter, and_true, true_and] at hF)) | ((with_reducible show wpList _ _ _ ({ dst := _, op := Op.box _ _, type := _, pos := _, after := _, guard := _ } :: _) _ _); refine wpList_box_at rfl rfl (by (try simp only [Act.eval, Array.getD_eq_getD_getElem?, List.getElem?_toArray, List.getElem?_cons_succ, List.getElem?_cons_zero, Option.getD_some]) <;> exact rfl) (by exact rfl) hA ?_; intro b1 w1 hB hb1; clear hF hA; have hA := hB; clear hB; (try simp only [setL, List.set_cons_zero, List.set_cons_succ, List.cons_append, List.nil_append] at hA); (have hF := hA.facts); (try simp only [facts_cons, facts_nil, facts_cells, facts_old, facts_fact, facts_obj, facts_map, facts_iter, and_true, true_and] at hF)) | ((with_reducible show wpList _ _ _ ({ dst := _, op := Op.alloc _, type := _, pos := _, after := _, guard := _ } :: _) _ _); refine wpList_alloc_at (E := 115) (z := .agg #[.string .empty, .int .u64 0, .string .empty, .int .i64 0, .int .u64 0, .int .i64 0]) (vs := [.string .empty, .int .u64 0, .string .empty, .int .i64 0, .int .u64 0, .int .i64 0]) rfl rfl (by kernel_rfl) rfl hA ?_; intro b1 w1 hB hb1; clear hF hA; have hA := hB; clear hB; (try simp only [setL, List.set_cons_zero, List.set_cons_succ, List.cons_append, List.nil_append] at hA); (have hF := hA.facts); (try simp only [facts_cons, facts_nil, facts_cells, facts_old, facts_fact, facts_obj, facts_map, facts_iter, and_true, true_and] at hF)))
  have hB := hA.alloc [.string ⟨#[]⟩, .int .u64 0, .string ⟨#[]⟩, .int .i64 0, .int .u64 0, .int .i64 0] 115
  have hl0 : (Instr.lookup 120 (.map (some b.m)) (.agg #[.string p, .int .u64 n, .string f]) true).run Tryz.prog w1.drew = .ok (.tuple #[nullE.val, .bool false]) w1.drew :=
    MapAt.look_none (hA.drew.get (A := mapC b.m (ents b.es)) (by with_reducible repeat (first | exact Sel.here | apply Sel.there))) lawP Tryz.underlying120 hk hmiss.out (by kernel_rfl) true
  have hl1 : (Instr.lookup 120 (.map (some b.m)) (.agg #[.string p, .int .u64 n, .string f]) true).run Tryz.prog (w1.alloc (.cells #[.string ⟨#[]⟩, .int .u64 0, .string ⟨#[]⟩, .int .i64 0, .int .u64 0, .int .i64 0] 115)).drew = .ok (.tuple #[nullE.val, .bool false]) (w1.alloc (.cells #[.string ⟨#[]⟩, .int .u64 0, .string ⟨#[]⟩, .int .i64 0, .int .u64 0, .int .i64 0] 115)).drew :=
    MapAt.look_none (hB.drew.get (A := mapC b.m (ents b.es)) (by with_reducible repeat (first | exact Sel.here | apply Sel.there))) lawP Tryz.underlying120 hk hmiss.out (by kernel_rfl) true
  unfold nullE Ent.val at hl0 hl1
  clear hB
  go_region
  all_goals
    have hB : At [BookP b] w _ (w1.alloc (.cells #[.string .empty, .int .u64 0, .string .empty, .int .i64 0, .int .u64 0, .int .i64 0] 115)).drew := (hA.alloc [.string .empty, .int .u64 0, .string .empty, .int .i64 0, .int .u64 0, .int .i64 0] 115).drew
    clear hF hA hl0 hl1
    generalize (w1.alloc (.cells #[.string .empty, .int .u64 0, .string .empty, .int .i64 0, .int .u64 0, .int .i64 0] 115)).drew = w2 at *
    have hA := hB
    clear hB
    (try simp only [setL, List.set_cons_zero, List.set_cons_succ, List.cons_append, List.nil_append] at hA); (have hF := hA.facts); (try simp only [facts_cons, facts_nil, facts_cells, facts_old, facts_fact, facts_obj, facts_map, facts_iter, and_true, true_and] at hF)
    go_wp2_with (first | ((with_reducible show wpList _ _ _ ({ dst := _, op := Op.store _ _ _, type := _, pos := _, after := _, guard := _ } :: _) _ _); refine wpList_store_at rfl rfl rfl (by (try simp only [Act.eval, Array.getD_eq_getD_getElem?, List.getElem?_toArray, List.getElem?_cons_succ, List.getElem?_cons_zero, Option.getD_some]) <;> exact rfl) (by exact rfl) hA (by with_reducible repeat (first | exact Sel.here | apply Sel.there)) (by kernel_rfl) rfl (by first | decide | (simp; done) | omega) ?_; intro w1 hB; clear hF hA; have hA := hB; clear hB; (try simp only [setL, List.set_cons_zero, List.set_cons_succ, List.cons_append, List.nil_append] at hA); (have hF := hA.facts); (try simp only [facts_cons, facts_nil, facts_cells, facts_old, facts_fact, facts_obj, facts_map, facts_iter, and_true, true_and] at hF)) | ((with_reducible show wpList _ _ _ ({ dst := _, op := Op.box _ _, type := _, pos := _, after := _, guard := _ } :: _) _ _); refine wpList_box_at rfl rfl (by (try simp only [Act.eval, Array.getD_eq_getD_getElem?, List.getElem?_toArray, List.getElem?_cons_succ, List.getElem?_cons_zero, Option.getD_some]) <;> exact rfl) (by exact rfl) hA ?_; intro b1 w1 hB hb1; clear hF hA; have hA := hB; clear hB; (try simp only [setL, List.set_cons_zero, List.set_cons_succ, List.cons_append, List.nil_append] at hA); (have hF := hA.facts); (try simp only [facts_cons, facts_nil, facts_cells, facts_old, facts_fact, facts_obj, facts_map, facts_iter, and_true, true_and] at hF)))
    refine bodyPost_ret (v := .tuple #[nullE.val, .bool false]) (by simp [results, Tryz.results88, go_sem, hF, nullE, Ent.val]) rfl ⟨rfl, ?_⟩
    exact close0 b hA (by with_reducible repeat (first | exact Sel.here | apply Sel.there)) (by with_reducible repeat (first | exact Sel.here | apply Sel.there)) (by with_reducible repeat (first | exact Sel.here | apply Sel.there))
set_option maxRecDepth 100000 in
theorem find_yes {w : World} {b : Bk} (h : Sep [BookP b] w) {p : ByteArray} {n : Int} {f : ByteArray} (hp : p.size ≤ maxLen) (h0 : 0 ≤ n) (h1 : n < big64) (hf : f.size ≤ maxLen) {x : Ent} (hn : find b.es p n f = some x) :
    Calls Tryz.prog 88 #[.pointer (some ⟨b.p, 0, none⟩), .string p, .agg #[.int .u64 n, .string f]] w fun e w' => e = .returned (.tuple #[x.val, .bool true]) ∧ At [BookP b] w [BookP b] w' := by
  obtain ⟨kl, hk⟩ := keyP hp h0 h1 hf
  have hmem := Lib.hid (find_mem hn)
  have hA := begin0 h
  have hF := hA.facts
  clear h hn
  (try simp only [setL, List.set_cons_zero, List.set_cons_succ, List.cons_append, List.nil_append] at hA); (have hF := hA.facts); (try simp only [facts_cons, facts_nil, facts_cells, facts_old, facts_fact, facts_obj, facts_map, facts_iter, and_true, true_and] at hF)
  unfold keyV Ent.val at *
  go_enter Tryz.func88, Tryz.ntmps88
  go_wp2_with (first | ((with_reducible show wpList _ _ _ ({ dst := _, op := Op.store _ _ _, type := _, pos := _, after := _, guard := _ } :: _) _ _); refine wpList_store_at rfl rfl rfl (by (try simp only [Act.eval, Array.getD_eq_getD_getElem?, List.getElem?_toArray, List.getElem?_cons_succ, List.getElem?_cons_zero, Option.getD_some]) <;> exact rfl) (by exact rfl) hA (by with_reducible repeat (first | exact Sel.here | apply Sel.there)) (by kernel_rfl) rfl (by first | decide | (simp; done) | omega) ?_; intro w1 hB; clear hF hA; have hA := hB; clear hB; (try simp only [setL, List.set_cons_zero, List.set_cons_succ, List.cons_append, List.nil_append] at hA); (have hF := hA.facts); (try simp only [facts_cons, facts_nil, facts_cells, facts_old, facts_fact, facts_obj, facts_map, facts_iter, and_true, true_and] at hF)) | ((with_reducible show wpList _ _ _ ({ dst := _, op := Op.box _ _, type := _, pos := _, after := _, guard := _ } :: _) _ _); refine wpList_box_at rfl rfl (by (try simp only [Act.eval, Array.getD_eq_getD_getElem?, List.getElem?_toArray, List.getElem?_cons_succ, List.getElem?_cons_zero, Option.getD_some]) <;> exact rfl) (by exact rfl) hA ?_; intro b1 w1 hB hb1; clear hF hA; have hA := hB; clear hB; (try simp only [setL, List.set_cons_zero, List.set_cons_succ, List.cons_append, List.nil_append] at hA); (have hF := hA.facts); (try simp only [facts_cons, facts_nil, facts_cells, facts_old, facts_fact, facts_obj, facts_map, facts_iter, and_true, true_and] at hF)) | ((with_reducible show wpList _ _ _ ({ dst := _, op := Op.alloc _, type := _, pos := _, after := _, guard := _ } :: _) _ _); refine wpList_alloc_at (E := 115) (z := .agg #[.string .empty, .int .u64 0, .string .empty, .int .i64 0, .int .u64 0, .int .i64 0]) (vs := [.string .empty, .int .u64 0, .string .empty, .int .i64 0, .int .u64 0, .int .i64 0]) rfl rfl (by kernel_rfl) rfl hA ?_; intro b1 w1 hB hb1; clear hF hA; have hA := hB; clear hB; (try simp only [setL, List.set_cons_zero, List.set_cons_succ, List.cons_append, List.nil_append] at hA); (have hF := hA.facts); (try simp only [facts_cons, facts_nil, facts_cells, facts_old, facts_fact, facts_obj, facts_map, facts_iter, and_true, true_and] at hF)))
  (have hl0 : (Instr.lookup 120 (.map (some b.m)) (.agg #[.string p, .int .u64 n, .string f]) true).run Tryz.prog w1.drew = .ok (.tuple #[.agg #[.string x.path, .int .u64 x.num, .string x.foot, .int .i64 x.mode, .int .u64 x.n, .int .i64 x.stamp], .bool true]) w1.drew := MapAt.look_some (hA.drew.get (A := mapC b.m (ents b.es)) (by with_reducible repeat (first | exact Sel.here | apply Sel.there))) lawP Tryz.underlying120 hk hmem.out true); (have hl1 : (Instr.lookup 120 (.map (some b.m)) (.agg #[.string p, .int .u64 n, .string f]) true).run Tryz.prog (w1.alloc (.cells #[.string ⟨#[]⟩, .int .u64 0, .string ⟨#[]⟩, .int .i64 0, .int .u64 0, .int .i64 0] 115)).drew = .ok (.tuple #[.agg #[.string x.path, .int .u64 x.num, .string x.foot, .int .i64 x.mode, .int .u64 x.n, .int .i64 x.stamp], .bool true]) (w1.alloc (.cells #[.string ⟨#[]⟩, .int .u64 0, .string ⟨#[]⟩, .int .i64 0, .int .u64 0, .int .i64 0] 115)).drew := MapAt.look_some ((hA.alloc [.string ⟨#[]⟩, .int .u64 0, .string ⟨#[]⟩, .int .i64 0, .int .u64 0, .int .i64 0] 115).drew.get (A := mapC b.m (ents b.es)) (by with_reducible repeat (first | exact Sel.here | apply Sel.there))) lawP Tryz.underlying120 hk hmem.out true); go_region; all_goals ((have hB : At [BookP b] w _ (w1.alloc (.cells #[.string x.path, .int .u64 x.num, .string x.foot, .int .i64 x.mode, .int .u64 x.n, .int .i64 x.stamp] 115)).drew := (hA.alloc [.string x.path, .int .u64 x.num, .string x.foot, .int .i64 x.mode, .int .u64 x.n, .int .i64 x.stamp] 115).drew); (clear hF hA hl0 hl1); (generalize (w1.alloc (.cells #[.string x.path, .int .u64 x.num, .string x.foot, .int .i64 x.mode, .int .u64 x.n, .int .i64 x.stamp] 115)).drew = w2 at *); (have hA := hB); (clear hB); (try simp only [setL, List.set_cons_zero, List.set_cons_succ, List.cons_append, List.nil_append] at hA); (have hF := hA.facts); (try simp only [facts_cons, facts_nil, facts_cells, facts_old, facts_fact, facts_obj, facts_map, facts_iter, and_true, true_and] at hF))
  all_goals
    go_wp2_with (first | ((with_reducible show wpList _ _ _ ({ dst := _, op := Op.store _ _ _, type := _, pos := _, after := _, guard := _ } :: _) _ _); refine wpList_store_at rfl rfl rfl (by (try simp only [Act.eval, Array.getD_eq_getD_getElem?, List.getElem?_toArray, List.getElem?_cons_succ, List.getElem?_cons_zero, Option.getD_some]) <;> exact rfl) (by exact rfl) hA (by with_reducible repeat (first | exact Sel.here | apply Sel.there)) (by kernel_rfl) rfl (by first | decide | (simp; done) | omega) ?_; intro w1 hB; clear hF hA; have hA := hB; clear hB; (try simp only [setL, List.set_cons_zero, List.set_cons_succ, List.cons_append, List.nil_append] at hA); (have hF := hA.facts); (try simp only [facts_cons, facts_nil, facts_cells, facts_old, facts_fact, facts_obj, facts_map, facts_iter, and_true, true_and] at hF)) | ((with_reducible show wpList _ _ _ ({ dst := _, op := Op.box _ _, type := _, pos := _, after := _, guard := _ } :: _) _ _); refine wpList_box_at rfl rfl (by (try simp only [Act.eval, Array.getD_eq_getD_getElem?, List.getElem?_toArray, List.getElem?_cons_succ, List.getElem?_cons_zero, Option.getD_some]) <;> exact rfl) (by exact rfl) hA ?_; intro b1 w1 hB hb1; clear hF hA; have hA := hB; clear hB; (try simp only [setL, List.set_cons_zero, List.set_cons_succ, List.cons_append, List.nil_append] at hA); (have hF := hA.facts); (try simp only [facts_cons, facts_nil, facts_cells, facts_old, facts_fact, facts_obj, facts_map, facts_iter, and_true, true_and] at hF)))
    refine bodyPost_ret (v := .tuple #[.agg #[.string x.path, .int .u64 x.num, .string x.foot, .int .i64 x.mode, .int .u64 x.n, .int .i64 x.stamp], .bool true]) (by simp [results, Tryz.results88, go_sem, hF]) rfl ⟨rfl, ?_⟩
    exact close0 b hA (by with_reducible repeat (first | exact Sel.here | apply Sel.there)) (by with_reducible repeat (first | exact Sel.here | apply Sel.there)) (by with_reducible repeat (first | exact Sel.here | apply Sel.there))
end Go.Proofs.YtalfoiodejoicaaGreatDoor.Lock
end

section
namespace Go.Proofs.YtalfoiodejoicaaGreatDoor.Lock
open Go.RowKit
open Go.Maps (Keyed)
open Path (bl rightB overB)
set_option linter.unusedSimpArgs false
set_option linter.unusedVariables false

/-- an entry, read back -/
def unE : Value × Value → Ent
  | (_, .agg #[.string p, .int _ n, .string f, .int _ m, .int _ k, .int _ s]) => ⟨p, n, f, m, k, s⟩
  | _ => nullE
theorem unE_ent (e : Ent) : unE (ent e) = e := rfl
theorem un_ents (l : List Ent) : (ents l).map unE = l := by
  unfold ents
  rw [List.map_map]
  conv => rhs; rw [← List.map_id l]
  rfl
theorem ents_perm {l r : List Ent} (h : (ents l).Perm (ents r)) : l.Perm r := by
  have := h.map unE
  rwa [un_ents, un_ents] at this
theorem ents_snoc (ds : List Ent) (s : Ent) : ents ds ++ [ent s] = ents (ds ++ [s]) := by simp [ents]
theorem ent_mem {e : Ent} {l : List Ent} (h : ent e ∈ ents l) : e ∈ l := by
  have := List.mem_map_of_mem (f := unE) h
  rwa [un_ents] at this
/-- the greatest stamp of those that overlap a path -/
def maxS (l : List Ent) (p : ByteArray) : Int := l.foldl (fun m e => if overB (bl e.path) (bl p) then max m e.stamp else m) 0
theorem maxS_snoc (l : List Ent) (e : Ent) (p : ByteArray) : maxS (l ++ [e]) p = if overB (bl e.path) (bl p) then max (maxS l p) e.stamp else maxS l p := by simp [maxS, List.foldl_append]
theorem maxS_perm {l r : List Ent} (h : l.Perm r) (p : ByteArray) : maxS l p = maxS r p := by
  unfold maxS
  refine h.foldl_eq' (fun x _ y _ z => ?_) 0
  split <;> split <;> omega
theorem maxS_le {l : List Ent} {p : ByteArray} {B : Int} (hB : 0 ≤ B) (h : ∀ e ∈ l, e.stamp ≤ B) : 0 ≤ maxS l p ∧ maxS l p ≤ B := by
  have : ∀ (l : List Ent) (m : Int), (∀ e ∈ l, e.stamp ≤ B) → 0 ≤ m → m ≤ B → 0 ≤ l.foldl (fun m e => if overB (bl e.path) (bl p) then max m e.stamp else m) m ∧ l.foldl (fun m e => if overB (bl e.path) (bl p) then max m e.stamp else m) m ≤ B := by
    intro l
    induction l with
    | nil => intro m _ h1 h2; exact ⟨h1, h2⟩
    | cons e l ih =>
      intro m hl h1 h2
      have := hl e (by simp)
      rw [List.foldl_cons]
      refine ih _ (fun x hx => hl x (by simp [hx])) ?_ ?_ <;> split <;> omega
  exact this l 0 h (Int.le_refl 0) hB
/-- is nothing with a lower stamp in an entry's way? -/
def clearB (l : List Ent) (e : Ent) : Bool := l.all (fun x => !(decide (x.stamp < e.stamp) && wayB x e))
theorem clearB_perm {l r : List Ent} (h : l.Perm r) (e : Ent) : clearB l e = clearB r e := h.all_eq

def StRel (b : Bk) (r : Nat) (p : ByteArray) (w : World) (k : Nat) (v : Value) (wr : World) : Prop :=
  ∃ ds : List Ent, At [BookP b] w [Part.iter Tryz.prog 160 r b.m (ents b.es) (ents ds), headC b.p b.m b.c b.first, ctrC b.c (ctrs b.cs)] wr ∧ (∀ s ∈ ds, s ∈ b.es) ∧ v = .int .i64 (maxS ds p) ∧ ds.length + k = b.es.length
set_option maxRecDepth 100000 in
theorem stamp_any {w : World} {b : Bk} (h : Sep [BookP b] w) (p : ByteArray) (hp : p.size ≤ 1000000) (hok : ∀ x ∈ b.es, x.path.size ≤ 1000000 ∧ x.stamp ≤ 1000000000) :
    Calls Tryz.prog 87 #[.pointer (some ⟨b.p, 0, none⟩), .string p] w fun e w' => e = .returned (.int .i64 (maxS b.es p + 1)) ∧ At [BookP b] w [BookP b] w' := by
  have hA := begin0 h
  have hF := hA.facts
  (try simp only [setL, List.set_cons_zero, List.set_cons_succ, List.cons_append, List.nil_append] at hA); (have hF := hA.facts); (try simp only [facts_cons, facts_nil, facts_cells, facts_old, facts_fact, facts_obj, facts_map, facts_iter, and_true, true_and] at hF)
  clear h
  go_enter Tryz.func87, Tryz.ntmps87
  go_wp2_with (first | ((with_reducible show wpList _ _ _ ({ dst := _, op := Op.store _ _ _, type := _, pos := _, after := _, guard := _ } :: _) _ _); refine wpList_store_at rfl rfl rfl (by (try simp only [Act.eval, Array.getD_eq_getD_getElem?, List.getElem?_toArray, List.getElem?_cons_succ, List.getElem?_cons_zero, Option.getD_some]) <;> exact rfl) (by exact rfl) hA (by with_reducible repeat (first | exact Sel.here | apply Sel.there)) (by kernel_rfl) rfl (by first | decide | (simp; done) | omega) ?_; intro w1 hB; clear hF hA; have hA := hB; clear hB; (try simp only [setL, List.set_cons_zero, List.set_cons_succ, List.cons_append, List.nil_append] at hA); (have hF := hA.facts); (try simp only [facts_cons, facts_nil, facts_cells, facts_old, facts_fact, facts_obj, facts_map, facts_iter, and_true, true_and] at hF)) | ((with_reducible show wpList _ _ _ ({ dst := _, op := Op.box _ _, type := _, pos := _, after := _, guard := _ } :: _) _ _); refine wpList_box_at rfl rfl (by (try simp only [Act.eval, Array.getD_eq_getD_getElem?, List.getElem?_toArray, List.getElem?_cons_succ, List.getElem?_cons_zero, Option.getD_some]) <;> exact rfl) (by exact rfl) hA ?_; intro b1 w1 hB hb1; clear hF hA; have hA := hB; clear hB; (try simp only [setL, List.set_cons_zero, List.set_cons_succ, List.cons_append, List.nil_append] at hA); (have hF := hA.facts); (try simp only [facts_cons, facts_nil, facts_cells, facts_old, facts_fact, facts_obj, facts_map, facts_iter, and_true, true_and] at hF)) | (refine wpList_range_at rfl rfl rfl hA (by with_reducible repeat (first | exact Sel.here | apply Sel.there)) Tryz.underlying120 ?_; intro r w1 hB hr; clear hF hA; have hA := hB; clear hB; (try simp only [setL, List.set_cons_zero, List.set_cons_succ, List.cons_append, List.nil_append] at hA); (have hF := hA.facts); (try simp only [facts_cons, facts_nil, facts_cells, facts_old, facts_fact, facts_obj, facts_map, facts_iter, and_true, true_and] at hF)))
  go_frame
  go_loopg [5] b.es.length (StRel b r p w)
  case atStart => exact ⟨[], hA, nofun, by simp [maxS], by simp⟩
  case round =>
    obtain ⟨ds, hA2, hds, rfl, hk⟩ := hrel
    clear hF hA
    have hA := hA2
    clear hA2
    (try simp only [setL, List.set_cons_zero, List.set_cons_succ, List.cons_append, List.nil_append] at hA); (have hF := hA.facts); (try simp only [facts_cons, facts_nil, facts_cells, facts_old, facts_fact, facts_obj, facts_map, facts_iter, and_true, true_and] at hF)
    go_step
    go_step
    refine wpList_next_at rfl rfl rfl hA (by with_reducible repeat (first | exact Sel.here | apply Sel.there)) (fun hp => ?_) (fun q w1 hq hd hB => ?_)
    · have hc := Lib.hid (maxS_perm (ents_perm hp) p)
      have hb := maxS_le (p := p) (B := 1000000000) (by omega) (fun e he => (hok e (hds e he)).2)
      have hM := At.ranged hA (by with_reducible repeat (first | exact Sel.here | apply Sel.there))
      clear hp
      go_wp2_with fail
      go_ret
      exact ⟨by rw [hc.out]; rfl, close0 b hM (by with_reducible repeat (first | exact Sel.here | apply Sel.there)) (by with_reducible repeat (first | exact Sel.here | apply Sel.there)) (by with_reducible repeat (first | exact Sel.here | apply Sel.there))⟩
    · obtain ⟨s, hs, rfl⟩ := List.mem_map.1 hq
      have hI : IterAt Tryz.prog 160 w1 r b.m (ents b.es) (ents ds ++ [ent s]) := hB.get (A := Part.iter _ _ r b.m (ents b.es) (ents ds ++ [ent s])) (by with_reducible repeat (first | exact Sel.here | apply Sel.there))
      have hen := hI.entry
      have hlen : (ds ++ [s]).length ≤ b.es.length := by have := hI.len; simpa [ents] using this
      have hsub : ∀ x ∈ ds ++ [s], x ∈ b.es := fun x hx => by
        rcases List.mem_append.1 hx with hx | hx
        · exact hds x hx
        · have : x = s := by simpa using hx
          rw [this]; exact hs
      rw [ents_snoc] at hB
      have hb := maxS_le (p := p) (B := 1000000000) (by omega) (fun e he => (hok e (hds e he)).2)
      obtain ⟨hs1, hs2⟩ := hok s hs
      clear hF hA
      have hA := hB
      have hk' := Lib.hid hk
      have hsub' := Lib.hid hsub
      have hsn := maxS_snoc ds s p
      have ho := fun w => Path.overlap_any s.path p w (by omega) (by omega)
      simp only [List.length_append, List.length_cons, List.length_nil, Nat.zero_add] at hlen
      clear hI hB hk hsub hds hq hd hs
      (try simp only [setL, List.set_cons_zero, List.set_cons_succ, List.cons_append, List.nil_append] at hA); (have hF := hA.facts); (try simp only [facts_cons, facts_nil, facts_cells, facts_old, facts_fact, facts_obj, facts_map, facts_iter, and_true, true_and] at hF)
      simp only [ent, Ent.key, Ent.val, keyV] at hen
      generalize overB (bl s.path) (bl p) = ob at *
      generalize maxS ds p = mx at *
      have hsn' := Lib.hid hsn
      clear hsn
      go_wp2_with (first | ((with_reducible show wpList _ _ _ ({ dst := _, op := Op.store _ _ _, type := _, pos := _, after := _, guard := _ } :: _) _ _); refine wpList_store_at rfl rfl rfl (by (try simp only [Act.eval, Array.getD_eq_getD_getElem?, List.getElem?_toArray, List.getElem?_cons_succ, List.getElem?_cons_zero, Option.getD_some]) <;> exact rfl) (by exact rfl) hA (by with_reducible repeat (first | exact Sel.here | apply Sel.there)) (by kernel_rfl) rfl (by first | decide | (simp; done) | omega) ?_; intro w1 hB; clear hF hA; have hA := hB; clear hB; (try simp only [setL, List.set_cons_zero, List.set_cons_succ, List.cons_append, List.nil_append] at hA); (have hF := hA.facts); (try simp only [facts_cons, facts_nil, facts_cells, facts_old, facts_fact, facts_obj, facts_map, facts_iter, and_true, true_and] at hF)) | ((with_reducible show wpList _ _ _ ({ dst := _, op := Op.box _ _, type := _, pos := _, after := _, guard := _ } :: _) _ _); refine wpList_box_at rfl rfl (by (try simp only [Act.eval, Array.getD_eq_getD_getElem?, List.getElem?_toArray, List.getElem?_cons_succ, List.getElem?_cons_zero, Option.getD_some]) <;> exact rfl) (by exact rfl) hA ?_; intro b1 w1 hB hb1; clear hF hA; have hA := hB; clear hB; (try simp only [setL, List.set_cons_zero, List.set_cons_succ, List.cons_append, List.nil_append] at hA); (have hF := hA.facts); (try simp only [facts_cons, facts_nil, facts_cells, facts_old, facts_fact, facts_obj, facts_map, facts_iter, and_true, true_and] at hF)) | ((with_reducible show wpList _ _ _ ({ dst := _, op := Op.alloc _, type := _, pos := _, after := _, guard := _ } :: _) _ _); refine wpList_alloc_at (E := 115) (z := .agg #[.string .empty, .int .u64 0, .string .empty, .int .i64 0, .int .u64 0, .int .i64 0]) (vs := [.string .empty, .int .u64 0, .string .empty, .int .i64 0, .int .u64 0, .int .i64 0]) rfl rfl (by kernel_rfl) rfl hA ?_; intro b1 w1 hB hb1; clear hF hA; have hA := hB; clear hB; (try simp only [setL, List.set_cons_zero, List.set_cons_succ, List.cons_append, List.nil_append] at hA); (have hF := hA.facts); (try simp only [facts_cons, facts_nil, facts_cells, facts_old, facts_fact, facts_obj, facts_map, facts_iter, and_true, true_and] at hF)))
      refine (ho _).mono ?_
      clear ho
      rintro e w2 ⟨rfl, hx⟩
      have hB := hA.ext hx
      clear hF hA hx
      have hA := hB
      clear hB
      (try simp only [setL, List.set_cons_zero, List.set_cons_succ, List.cons_append, List.nil_append] at hA); (have hF := hA.facts); (try simp only [facts_cons, facts_nil, facts_cells, facts_old, facts_fact, facts_obj, facts_map, facts_iter, and_true, true_and] at hF)
      cases ob
      all_goals
        go_wp2_with (first | ((with_reducible show wpList _ _ _ ({ dst := _, op := Op.store _ _ _, type := _, pos := _, after := _, guard := _ } :: _) _ _); refine wpList_store_at rfl rfl rfl (by (try simp only [Act.eval, Array.getD_eq_getD_getElem?, List.getElem?_toArray, List.getElem?_cons_succ, List.getElem?_cons_zero, Option.getD_some]) <;> exact rfl) (by exact rfl) hA (by with_reducible repeat (first | exact Sel.here | apply Sel.there)) (by kernel_rfl) rfl (by first | decide | (simp; done) | omega) ?_; intro w1 hB; clear hF hA; have hA := hB; clear hB; (try simp only [setL, List.set_cons_zero, List.set_cons_succ, List.cons_append, List.nil_append] at hA); (have hF := hA.facts); (try simp only [facts_cons, facts_nil, facts_cells, facts_old, facts_fact, facts_obj, facts_map, facts_iter, and_true, true_and] at hF)) | ((with_reducible show wpList _ _ _ ({ dst := _, op := Op.box _ _, type := _, pos := _, after := _, guard := _ } :: _) _ _); refine wpList_box_at rfl rfl (by (try simp only [Act.eval, Array.getD_eq_getD_getElem?, List.getElem?_toArray, List.getElem?_cons_succ, List.getElem?_cons_zero, Option.getD_some]) <;> exact rfl) (by exact rfl) hA ?_; intro b1 w1 hB hb1; clear hF hA; have hA := hB; clear hB; (try simp only [setL, List.set_cons_zero, List.set_cons_succ, List.cons_append, List.nil_append] at hA); (have hF := hA.facts); (try simp only [facts_cons, facts_nil, facts_cells, facts_old, facts_fact, facts_obj, facts_map, facts_iter, and_true, true_and] at hF)) | ((with_reducible show wpList _ _ _ ({ dst := _, op := Op.alloc _, type := _, pos := _, after := _, guard := _ } :: _) _ _); refine wpList_alloc_at (E := 115) (z := .agg #[.string .empty, .int .u64 0, .string .empty, .int .i64 0, .int .u64 0, .int .i64 0]) (vs := [.string .empty, .int .u64 0, .string .empty, .int .i64 0, .int .u64 0, .int .i64 0]) rfl rfl (by kernel_rfl) rfl hA ?_; intro b1 w1 hB hb1; clear hF hA; have hA := hB; clear hB; (try simp only [setL, List.set_cons_zero, List.set_cons_succ, List.cons_append, List.nil_append] at hA); (have hF := hA.facts); (try simp only [facts_cons, facts_nil, facts_cells, facts_old, facts_fact, facts_obj, facts_map, facts_iter, and_true, true_and] at hF)))
        go_roundg (gk - 1)
        case measure => have := hk'.out; omega
        case rel => exact ⟨ds ++ [s], hA.only3 (by with_reducible repeat (first | exact Sel.here | apply Sel.there)) (by with_reducible repeat (first | exact Sel.here | apply Sel.there)) (by with_reducible repeat (first | exact Sel.here | apply Sel.there)), hsub'.out, by rw [hsn'.out]; rfl, by have := hk'.out; simp; omega⟩
end Go.Proofs.YtalfoiodejoicaaGreatDoor.Lock
end

section
namespace Go.Proofs.YtalfoiodejoicaaGreatDoor.Lock
open Go.RowKit
open Go.Maps (Keyed)
open Path (bl rightB overB)
set_option linter.unusedSimpArgs false
set_option linter.unusedVariables false

theorem clearB_mem {l : List Ent} {x e : Ent} (h : x ∈ l) (h1 : x.stamp < e.stamp) (h2 : wayB x e = true) : clearB l e = false := by
  unfold clearB
  rw [List.all_eq_false]
  exact ⟨x, h, by simp [h1, h2]⟩
theorem clearB_snoc (l : List Ent) (x e : Ent) : clearB (l ++ [x]) e = (clearB l e && !(decide (x.stamp < e.stamp) && wayB x e)) := by simp [clearB]
def ClRel (b : Bk) (r bE : Nat) (e : Ent) (w : World) (k : Nat) (wr : World) : Prop :=
  ∃ ds : List Ent, At [BookP b] w [Part.iter Tryz.prog 160 r b.m (ents b.es) (ents ds), headC b.p b.m b.c b.first, ctrC b.c (ctrs b.cs), Part.cells bE [.string e.path, .int .u64 e.num, .string e.foot, .int .i64 e.mode, .int .u64 e.n, .int .i64 e.stamp] 115] wr ∧ (∀ s ∈ ds, s ∈ b.es) ∧ clearB ds e = true ∧ ds.length + k = b.es.length
set_option maxRecDepth 100000 in
theorem clear_any {w : World} {b : Bk} (h : Sep [BookP b] w) (e : Ent) (he : e.path.size ≤ 1000000) (hok : ∀ x ∈ b.es, x.path.size ≤ 1000000) :
    Calls Tryz.prog 89 #[.pointer (some ⟨b.p, 0, none⟩), .agg #[.string e.path, .int .u64 e.num, .string e.foot, .int .i64 e.mode, .int .u64 e.n, .int .i64 e.stamp]] w fun o w' => o = .returned (.bool (clearB b.es e)) ∧ At [BookP b] w [BookP b] w' := by
  have hA := begin0 h
  have hF := hA.facts
  (try simp only [setL, List.set_cons_zero, List.set_cons_succ, List.cons_append, List.nil_append] at hA); (have hF := hA.facts); (try simp only [facts_cons, facts_nil, facts_cells, facts_old, facts_fact, facts_obj, facts_map, facts_iter, and_true, true_and] at hF)
  clear h
  go_enter Tryz.func89, Tryz.ntmps89
  go_wp2_with (first | ((with_reducible show wpList _ _ _ ({ dst := _, op := Op.box _ _, type := _, pos := _, after := _, guard := _ } :: _) _ _); refine wpList_box_at (E := 115) rfl rfl (by (try simp only [Act.eval, Array.getD_eq_getD_getElem?, List.getElem?_toArray, List.getElem?_cons_succ, List.getElem?_cons_zero, Option.getD_some]) <;> exact rfl) (by exact rfl) hA ?_; intro bE w1 hB hbE; clear hF hA; have hA := hB; clear hB; (try simp only [setL, List.set_cons_zero, List.set_cons_succ, List.cons_append, List.nil_append] at hA); (have hF := hA.facts); (try simp only [facts_cons, facts_nil, facts_cells, facts_old, facts_fact, facts_obj, facts_map, facts_iter, and_true, true_and] at hF)) | ((with_reducible show wpList _ _ _ ({ dst := _, op := Op.store _ _ _, type := _, pos := _, after := _, guard := _ } :: _) _ _); refine wpList_store_at rfl rfl rfl (by (try simp only [Act.eval, Array.getD_eq_getD_getElem?, List.getElem?_toArray, List.getElem?_cons_succ, List.getElem?_cons_zero, Option.getD_some]) <;> exact rfl) (by exact rfl) hA (by with_reducible repeat (first | exact Sel.here | apply Sel.there)) (by kernel_rfl) rfl (by first | decide | (simp; done) | omega) ?_; intro w1 hB; clear hF hA; have hA := hB; clear hB; (try simp only [setL, List.set_cons_zero, List.set_cons_succ, List.cons_append, List.nil_append] at hA); (have hF := hA.facts); (try simp only [facts_cons, facts_nil, facts_cells, facts_old, facts_fact, facts_obj, facts_map, facts_iter, and_true, true_and] at hF)) | ((with_reducible show wpList _ _ _ ({ dst := _, op := Op.box _ _, type := _, pos := _, after := _, guard := _ } :: _) _ _); refine wpList_box_at rfl rfl (by (try simp only [Act.eval, Array.getD_eq_getD_getElem?, List.getElem?_toArray, List.getElem?_cons_succ, List.getElem?_cons_zero, Option.getD_some]) <;> exact rfl) (by exact rfl) hA ?_; intro b1 w1 hB hb1; clear hF hA; have hA := hB; clear hB; (try simp only [setL, List.set_cons_zero, List.set_cons_succ, List.cons_append, List.nil_append] at hA); (have hF := hA.facts); (try simp only [facts_cons, facts_nil, facts_cells, facts_old, facts_fact, facts_obj, facts_map, facts_iter, and_true, true_and] at hF)) | (refine wpList_range_at rfl rfl rfl hA (by with_reducible repeat (first | exact Sel.here | apply Sel.there)) Tryz.underlying120 ?_; intro r w1 hB hr; clear hF hA; have hA := hB; clear hB; (try simp only [setL, List.set_cons_zero, List.set_cons_succ, List.cons_append, List.nil_append] at hA); (have hF := hA.facts); (try simp only [facts_cons, facts_nil, facts_cells, facts_old, facts_fact, facts_obj, facts_map, facts_iter, and_true, true_and] at hF)))
  go_frame
  go_loopg [] b.es.length (ClRel b r bE e w)
  case atStart => exact ⟨[], hA.pick (by repeat (first | exact Picks.nil | refine Picks.cons (by repeat (first | exact Sel.here | apply Sel.there)) ?_)), nofun, rfl, by simp⟩
  case round =>
    obtain ⟨ds, hA2, hds, hcl, hk⟩ := hrel
    clear hF hA
    have hA := hA2
    clear hA2
    (try simp only [setL, List.set_cons_zero, List.set_cons_succ, List.cons_append, List.nil_append] at hA); (have hF := hA.facts); (try simp only [facts_cons, facts_nil, facts_cells, facts_old, facts_fact, facts_obj, facts_map, facts_iter, and_true, true_and] at hF)
    go_step
    go_step
    refine wpList_next_at rfl rfl rfl hA (by with_reducible repeat (first | exact Sel.here | apply Sel.there)) (fun hp => ?_) (fun q w1 hq hd hB => ?_)
    · have hc := Lib.hid ((clearB_perm (ents_perm hp) e).trans hcl)
      have hM := At.ranged hA (by with_reducible repeat (first | exact Sel.here | apply Sel.there))
      clear hp hcl
      go_wp2_with fail
      go_ret
      exact ⟨by rw [hc.out]; rfl, close0 b hM (by with_reducible repeat (first | exact Sel.here | apply Sel.there)) (by with_reducible repeat (first | exact Sel.here | apply Sel.there)) (by with_reducible repeat (first | exact Sel.here | apply Sel.there))⟩
    · obtain ⟨s, hs, rfl⟩ := List.mem_map.1 hq
      have hI : IterAt Tryz.prog 160 w1 r b.m (ents b.es) (ents ds ++ [ent s]) := hB.get (A := Part.iter _ _ r b.m (ents b.es) (ents ds ++ [ent s])) (by with_reducible repeat (first | exact Sel.here | apply Sel.there))
      have hen := hI.entry
      have hlen : (ds ++ [s]).length ≤ b.es.length := by have := hI.len; simpa [ents] using this
      have hsub : ∀ x ∈ ds ++ [s], x ∈ b.es := fun x hx => by
        rcases List.mem_append.1 hx with hx | hx
        · exact hds x hx
        · have : x = s := by simpa using hx
          rw [this]; exact hs
      rw [ents_snoc] at hB
      have hs1 := hok s hs
      clear hF hA
      have hA := hB
      have hk' := Lib.hid hk
      have hsub' := Lib.hid hsub
      have hsn := Lib.hid (clearB_snoc ds s e)
      have hcl' := Lib.hid hcl
      have hbad := Lib.hid (fun h1 h2 => clearB_mem (e := e) hs h1 h2)
      have ho := fun w => way_any s e w hs1 he
      simp only [List.length_append, List.length_cons, List.length_nil, Nat.zero_add] at hlen
      clear hI hB hk hsub hds hq hd hs hcl
      (try simp only [setL, List.set_cons_zero, List.set_cons_succ, List.cons_append, List.nil_append] at hA); (have hF := hA.facts); (try simp only [facts_cons, facts_nil, facts_cells, facts_old, facts_fact, facts_obj, facts_map, facts_iter, and_true, true_and] at hF)
      simp only [ent, Ent.key, Ent.val, keyV] at hen ho
      by_cases hlt : s.stamp < e.stamp
      · have hlt' := Lib.hid hlt
        obtain ⟨wb, hwb⟩ : ∃ wb, wayB s e = wb := ⟨_, rfl⟩
        rw [hwb] at ho
        have hwb' := Lib.hid hwb
        clear hwb
        go_wp2_with (first | ((with_reducible show wpList _ _ _ ({ dst := _, op := Op.store _ _ _, type := _, pos := _, after := _, guard := _ } :: _) _ _); refine wpList_store_at rfl rfl rfl (by (try simp only [Act.eval, Array.getD_eq_getD_getElem?, List.getElem?_toArray, List.getElem?_cons_succ, List.getElem?_cons_zero, Option.getD_some]) <;> exact rfl) (by exact rfl) hA (by with_reducible repeat (first | exact Sel.here | apply Sel.there)) (by kernel_rfl) rfl (by first | decide | (simp; done) | omega) ?_; intro w1 hB; clear hF hA; have hA := hB; clear hB; (try simp only [setL, List.set_cons_zero, List.set_cons_succ, List.cons_append, List.nil_append] at hA); (have hF := hA.facts); (try simp only [facts_cons, facts_nil, facts_cells, facts_old, facts_fact, facts_obj, facts_map, facts_iter, and_true, true_and] at hF)) | ((with_reducible show wpList _ _ _ ({ dst := _, op := Op.box _ _, type := _, pos := _, after := _, guard := _ } :: _) _ _); refine wpList_box_at rfl rfl (by (try simp only [Act.eval, Array.getD_eq_getD_getElem?, List.getElem?_toArray, List.getElem?_cons_succ, List.getElem?_cons_zero, Option.getD_some]) <;> exact rfl) (by exact rfl) hA ?_; intro b1 w1 hB hb1; clear hF hA; have hA := hB; clear hB; (try simp only [setL, List.set_cons_zero, List.set_cons_succ, List.cons_append, List.nil_append] at hA); (have hF := hA.facts); (try simp only [facts_cons, facts_nil, facts_cells, facts_old, facts_fact, facts_obj, facts_map, facts_iter, and_true, true_and] at hF)) | ((with_reducible show wpList _ _ _ ({ dst := _, op := Op.alloc _, type := _, pos := _, after := _, guard := _ } :: _) _ _); refine wpList_alloc_at (E := 115) (z := .agg #[.string .empty, .int .u64 0, .string .empty, .int .i64 0, .int .u64 0, .int .i64 0]) (vs := [.string .empty, .int .u64 0, .string .empty, .int .i64 0, .int .u64 0, .int .i64 0]) rfl rfl (by kernel_rfl) rfl hA ?_; intro b1 w1 hB hb1; clear hF hA; have hA := hB; clear hB; (try simp only [setL, List.set_cons_zero, List.set_cons_succ, List.cons_append, List.nil_append] at hA); (have hF := hA.facts); (try simp only [facts_cons, facts_nil, facts_cells, facts_old, facts_fact, facts_obj, facts_map, facts_iter, and_true, true_and] at hF)))
        refine (ho _).mono ?_
        clear ho
        rintro o w2 ⟨rfl, hx⟩
        have hB := hA.ext hx
        clear hF hA hx
        have hA := hB
        clear hB
        (try simp only [setL, List.set_cons_zero, List.set_cons_succ, List.cons_append, List.nil_append] at hA); (have hF := hA.facts); (try simp only [facts_cons, facts_nil, facts_cells, facts_old, facts_fact, facts_obj, facts_map, facts_iter, and_true, true_and] at hF)
        cases wb
        · go_wp2_with (first | ((with_reducible show wpList _ _ _ ({ dst := _, op := Op.store _ _ _, type := _, pos := _, after := _, guard := _ } :: _) _ _); refine wpList_store_at rfl rfl rfl (by (try simp only [Act.eval, Array.getD_eq_getD_getElem?, List.getElem?_toArray, List.getElem?_cons_succ, List.getElem?_cons_zero, Option.getD_some]) <;> exact rfl) (by exact rfl) hA (by with_reducible repeat (first | exact Sel.here | apply Sel.there)) (by kernel_rfl) rfl (by first | decide | (simp; done) | omega) ?_; intro w1 hB; clear hF hA; have hA := hB; clear hB; (try simp only [setL, List.set_cons_zero, List.set_cons_succ, List.cons_append, List.nil_append] at hA); (have hF := hA.facts); (try simp only [facts_cons, facts_nil, facts_cells, facts_old, facts_fact, facts_obj, facts_map, facts_iter, and_true, true_and] at hF)) | ((with_reducible show wpList _ _ _ ({ dst := _, op := Op.box _ _, type := _, pos := _, after := _, guard := _ } :: _) _ _); refine wpList_box_at rfl rfl (by (try simp only [Act.eval, Array.getD_eq_getD_getElem?, List.getElem?_toArray, List.getElem?_cons_succ, List.getElem?_cons_zero, Option.getD_some]) <;> exact rfl) (by exact rfl) hA ?_; intro b1 w1 hB hb1; clear hF hA; have hA := hB; clear hB; (try simp only [setL, List.set_cons_zero, List.set_cons_succ, List.cons_append, List.nil_append] at hA); (have hF := hA.facts); (try simp only [facts_cons, facts_nil, facts_cells, facts_old, facts_fact, facts_obj, facts_map, facts_iter, and_true, true_and] at hF)) | ((with_reducible show wpList _ _ _ ({ dst := _, op := Op.alloc _, type := _, pos := _, after := _, guard := _ } :: _) _ _); refine wpList_alloc_at (E := 115) (z := .agg #[.string .empty, .int .u64 0, .string .empty, .int .i64 0, .int .u64 0, .int .i64 0]) (vs := [.string .empty, .int .u64 0, .string .empty, .int .i64 0, .int .u64 0, .int .i64 0]) rfl rfl (by kernel_rfl) rfl hA ?_; intro b1 w1 hB hb1; clear hF hA; have hA := hB; clear hB; (try simp only [setL, List.set_cons_zero, List.set_cons_succ, List.cons_append, List.nil_append] at hA); (have hF := hA.facts); (try simp only [facts_cons, facts_nil, facts_cells, facts_old, facts_fact, facts_obj, facts_map, facts_iter, and_true, true_and] at hF)))
          go_roundg (gk - 1)
          case measure => have := hk'.out; omega
          case rel => exact ⟨ds ++ [s], hA.pick (by with_reducible repeat (first | exact Picks.nil | refine Picks.cons (by with_reducible repeat (first | exact Sel.here | apply Sel.there)) ?_)), hsub'.out, by rw [hsn.out, hcl'.out, hwb'.out]; simp, by have := hk'.out; simp; omega⟩
        · have hM := At.ranged hA (by with_reducible repeat (first | exact Sel.here | apply Sel.there))
          have hc := Lib.hid (hbad.out hlt'.out hwb'.out)
          go_wp2_with fail
          go_ret
          exact ⟨by rw [hc.out]; rfl, close0 b hM (by with_reducible repeat (first | exact Sel.here | apply Sel.there)) (by with_reducible repeat (first | exact Sel.here | apply Sel.there)) (by with_reducible repeat (first | exact Sel.here | apply Sel.there))⟩
      · have hlt' := Lib.hid hlt
        go_wp2_with (first | ((with_reducible show wpList _ _ _ ({ dst := _, op := Op.store _ _ _, type := _, pos := _, after := _, guard := _ } :: _) _ _); refine wpList_store_at rfl rfl rfl (by (try simp only [Act.eval, Array.getD_eq_getD_getElem?, List.getElem?_toArray, List.getElem?_cons_succ, List.getElem?_cons_zero, Option.getD_some]) <;> exact rfl) (by exact rfl) hA (by with_reducible repeat (first | exact Sel.here | apply Sel.there)) (by kernel_rfl) rfl (by first | decide | (simp; done) | omega) ?_; intro w1 hB; clear hF hA; have hA := hB; clear hB; (try simp only [setL, List.set_cons_zero, List.set_cons_succ, List.cons_append, List.nil_append] at hA); (have hF := hA.facts); (try simp only [facts_cons, facts_nil, facts_cells, facts_old, facts_fact, facts_obj, facts_map, facts_iter, and_true, true_and] at hF)) | ((with_reducible show wpList _ _ _ ({ dst := _, op := Op.box _ _, type := _, pos := _, after := _, guard := _ } :: _) _ _); refine wpList_box_at rfl rfl (by (try simp only [Act.eval, Array.getD_eq_getD_getElem?, List.getElem?_toArray, List.getElem?_cons_succ, List.getElem?_cons_zero, Option.getD_some]) <;> exact rfl) (by exact rfl) hA ?_; intro b1 w1 hB hb1; clear hF hA; have hA := hB; clear hB; (try simp only [setL, List.set_cons_zero, List.set_cons_succ, List.cons_append, List.nil_append] at hA); (have hF := hA.facts); (try simp only [facts_cons, facts_nil, facts_cells, facts_old, facts_fact, facts_obj, facts_map, facts_iter, and_true, true_and] at hF)) | ((with_reducible show wpList _ _ _ ({ dst := _, op := Op.alloc _, type := _, pos := _, after := _, guard := _ } :: _) _ _); refine wpList_alloc_at (E := 115) (z := .agg #[.string .empty, .int .u64 0, .string .empty, .int .i64 0, .int .u64 0, .int .i64 0]) (vs := [.string .empty, .int .u64 0, .string .empty, .int .i64 0, .int .u64 0, .int .i64 0]) rfl rfl (by kernel_rfl) rfl hA ?_; intro b1 w1 hB hb1; clear hF hA; have hA := hB; clear hB; (try simp only [setL, List.set_cons_zero, List.set_cons_succ, List.cons_append, List.nil_append] at hA); (have hF := hA.facts); (try simp only [facts_cons, facts_nil, facts_cells, facts_old, facts_fact, facts_obj, facts_map, facts_iter, and_true, true_and] at hF)))
        go_roundg (gk - 1)
        case measure => have := hk'.out; omega
        case rel => exact ⟨ds ++ [s], hA.pick (by with_reducible repeat (first | exact Picks.nil | refine Picks.cons (by with_reducible repeat (first | exact Sel.here | apply Sel.there)) ?_)), hsub'.out, by rw [hsn.out, hcl'.out, decide_eq_false (show ¬ s.stamp < e.stamp by have := hlt'.out; omega)]; simp, by have := hk'.out; simp; omega⟩
end Go.Proofs.YtalfoiodejoicaaGreatDoor.Lock
end
