/- MapE, StuS, StuN, joined. -/
import Derived.Test.YtnkddjomanaadaaGreatDoorK3
import Derived.WideKeyEntry
import Derived.Test.YtnkddjomanaadaaGreatDoorK27
import Derived.Test.YtnkddjomanaadaaGreatDoorK20
import Derived.Test.YtnkddjomanaadaaGreatDoorK13
import Derived.Test.YtnkddjomanaadaaGreatDoorK23
section
namespace Go.Proofs.YtnkddjomanaadaaGreatDoor
open Go.RowKit
open Go.Maps (Keyed)
set_option linter.unusedVariables false
set_option linter.unusedSimpArgs false

/-- a map of which the entry behind l1 bears a stamp -/
def StampAt (P : Program) (k : TypeId) (w : World) (b : Nat) (l1 : List (Value × Value)) (key u : Value) (l2 : List (Value × Value)) (st : Nat) : Prop :=
  MapAt P k w b (l1 ++ (key, u) :: l2) ∧ ∃ ents clock e0, w.heap[b]? = some (.map ents clock) ∧ ents[l1.length]? = some e0 ∧ e0.born = st
section
variable {P : Program} {k : TypeId} {w : World} {b : Nat}
theorem StampAt.same {l1 l2 : List (Value × Value)} {key u : Value} {st : Nat} (h : StampAt P k w b l1 key u l2 st) {w' : World} (e : w'.heap[b]? = w.heap[b]?) : StampAt P k w' b l1 key u l2 st := by
  obtain ⟨h1, ents, clock, e0, hb, h2⟩ := h
  exact ⟨h1.same e, ents, clock, e0, e.trans hb, h2⟩
def Part.stamp (P : Program) (k : TypeId) (b : Nat) (l1 : List (Value × Value)) (key u : Value) (l2 : List (Value × Value)) (st : Nat) : Part where
  holds w := StampAt P k w b l1 key u l2 st
  foot q := q = b
  lt := fun _ h _ e => by subst e; exact h.1.lt
  stay := fun _ _ h e => h.same (e b rfl)
theorem facts_stamp {l1 l2 : List (Value × Value)} {key u : Value} {st : Nat} (w : World) : (Part.stamp P k b l1 key u l2 st).facts w = True := rfl
theorem MapAt.entry_new {es : List (Value × Value)} {t e : TypeId} (h : MapAt P k w b es) (K : Keyed P k) (ht : P.underlying t = some (.map k e)) {z : Value} (hz : ∀ u : World, (zeroValue e).run P u = .ok z u) {key : Value} {kl : Lit} (hk : keyOf P k key = some kl) (hn : ∀ p ∈ es, p.1 ≠ key) :
    ∃ (w' : World) (st : Nat), (Instr.mapEntry t (.map (some b)) key).run P w = .ok (.tuple #[z, goInt st]) w' ∧ StampAt P k w' b es key z [] st ∧ Exc (fun q => q = b) w w' := by
  have h0 := h
  obtain ⟨ents, clock, hb, he, hbn, hdn, hkeys, hpw⟩ := h0
  obtain ⟨ents', clock', hb', hf⟩ := h.find K hk w
  rw [hb] at hb'
  cases hb'
  have hlen : ents.size = es.length := by rw [← he]; simp
  rcases hf with ⟨h1, _⟩ | ⟨j, v, h1, h2⟩
  · refine ⟨ChangeMaps.setBlock w b (.map (ents.push ⟨key, z, clock⟩) (clock + 1)), clock, by simp [Instr.mapEntry, run_underlying ht, MapKept.run_getObj_map hb, K.check w _ hk, h1, hz, MapKept.run_setObj_map _ hb, Result.andThen, ChangeMaps.setBlock], ⟨?_, ?_⟩, ?_⟩
    · refine ⟨ents.push ⟨key, z, clock⟩, clock + 1, ChangeMaps.heap_setBlock_same hb _, ?_, ?_, ?_, ?_, ?_⟩
      · simp [he]
      · intro e hm
        simp only [Array.toList_push, List.mem_append, List.mem_singleton] at hm
        rcases hm with hm | hm
        · have := hbn e hm; omega
        · subst hm; simp
      · simp only [Array.toList_push]
        refine List.pairwise_append.2 ⟨hdn, List.pairwise_singleton _ _, fun e hm f hf => ?_⟩
        have hfe : f = ⟨key, z, clock⟩ := by simpa using hf
        subst hfe
        have := hbn e hm
        simp only
        omega
      · intro p hp
        rcases List.mem_append.1 hp with hp | hp
        · exact hkeys p hp
        · have : p = (key, z) := by simpa using hp
          subst this
          exact ⟨kl, hk⟩
      · refine List.pairwise_append.2 ⟨hpw, List.pairwise_singleton _ _, fun p hp q hq => ?_⟩
        have : q = (key, z) := by simpa using hq
        subst this
        exact hn p hp
    · exact ⟨_, _, ⟨key, z, clock⟩, ChangeMaps.heap_setBlock_same hb _, by rw [← hlen]; simp, rfl⟩
    · exact ⟨rfl, rfl, rfl, by simp [ChangeMaps.setBlock], fun i _ hi => ChangeMaps.heap_setBlock_other hb _ (fun e => hi e)⟩
  · exact absurd rfl (hn _ h2)
theorem set_toList {ents : Array MapEntry} {i : Nat} {e0 : MapEntry} (f : MapEntry → MapEntry) (h : ents[i]? = some e0) : (ents.modify i f).toList = ents.toList.set i (f e0) := by
  have hlt : i < ents.size := (Array.getElem?_eq_some_iff.1 h).1
  have hge : ents[i] = e0 := (Array.getElem?_eq_some_iff.1 h).2
  apply List.ext_getElem?
  intro j
  rw [Array.getElem?_toList, Array.getElem?_modify, List.getElem?_set]
  split
  · rename_i hi
    subst hi
    simp [hlt, hge]
  · simp
/-- the entries of a map, one of them anew, with the same key and the same birth -/
theorem MapAt.set_there {l1 l2 : List (Value × Value)} {key u val : Value} {ents : Array MapEntry} {clock : Nat} {e0 : MapEntry} {f : MapEntry → MapEntry} (h : MapAt P k w b (l1 ++ (key, u) :: l2)) (hb : w.heap[b]? = some (.map ents clock)) (h2 : ents[l1.length]? = some e0)
    (f1 : (f e0).key = key) (f2 : (f e0).val = val) (f3 : (f e0).born = e0.born) : StampAt P k (ChangeMaps.setBlock w b (.map (ents.modify l1.length f) clock)) b l1 key val l2 e0.born := by
  obtain ⟨ents', clock', hb', he, hbn, hdn, hkeys, hpw⟩ := h
  rw [hb] at hb'
  cases hb'
  have hlt : l1.length < ents.size := (Array.getElem?_eq_some_iff.1 h2).1
  have hge : ents[l1.length] = e0 := (Array.getElem?_eq_some_iff.1 h2).2
  have hmod := set_toList f h2
  refine ⟨⟨_, clock, ChangeMaps.heap_setBlock_same hb _, ?_, ?_, ?_, ?_, ?_⟩, _, clock, f e0, ChangeMaps.heap_setBlock_same hb _, ?_, f3⟩
  · rw [hmod, List.map_set, he, f1, f2]
    simp
  · intro e hm
    rw [hmod] at hm
    rcases List.mem_or_eq_of_mem_set hm with hm | hm
    · exact hbn e hm
    · subst hm; rw [f3]; exact hbn e0 (by rw [Array.mem_toList_iff]; exact Array.mem_of_getElem? h2)
  · have e1 : (ents.modify l1.length f).toList.map (·.born) = ents.toList.map (·.born) := by
      rw [hmod, List.map_set, f3]
      apply List.ext_getElem?
      intro i
      rw [List.getElem?_set]
      split
      · rename_i hi
        subst hi
        simp [hlt, hge]
      · rfl
    have q1 : (ents.toList.map (·.born)).Pairwise (· ≠ ·) := List.pairwise_map.2 hdn
    rw [← e1] at q1
    exact List.pairwise_map.1 q1
  · intro p hp
    rcases List.mem_append.1 hp with hp | hp
    · exact hkeys p (by simp [hp])
    · rcases List.mem_cons.1 hp with rfl | hp
      · exact hkeys (key, u) (by simp)
      · exact hkeys p (by simp [hp])
  · have q1 : ((l1 ++ (key, u) :: l2).map (·.1)).Pairwise (· ≠ ·) := List.pairwise_map.2 hpw
    have q2 : (l1 ++ (key, val) :: l2).map (·.1) = (l1 ++ (key, u) :: l2).map (·.1) := by simp
    rw [← q2] at q1
    exact List.pairwise_map.1 q1
  · rw [Array.getElem?_modify, if_pos rfl, h2]; rfl
theorem MapAt.entry_there {t e : TypeId} {l1 l2 : List (Value × Value)} {key u : Value} (h : MapAt P k w b (l1 ++ (key, u) :: l2)) (K : Keyed P k) (ht : P.underlying t = some (.map k e)) {kl : Lit} (hk : keyOf P k key = some kl) :
    ∃ (w' : World) (st : Nat), (Instr.mapEntry t (.map (some b)) key).run P w = .ok (.tuple #[u, goInt st]) w' ∧ StampAt P k w' b l1 key u l2 st ∧ Exc (fun q => q = b) w w' := by
  have h0 := h
  obtain ⟨ents, clock, hb, he, hbn, hdn, hkeys, hpw⟩ := h0
  obtain ⟨e0, h1, h2, h3, h4⟩ := h.find_at K hk w hb
  have hlt : l1.length < ents.size := (Array.getElem?_eq_some_iff.1 h2).1
  have hge : ents[l1.length] = e0 := (Array.getElem?_eq_some_iff.1 h2).2
  have hval : e0.val = u := by
    have h5 : (ents.toList.map (fun e => (e.key, e.val)))[l1.length]? = some (e0.key, e0.val) := by rw [List.getElem?_map, Array.getElem?_toList, h2]; rfl
    rw [he] at h5
    simp at h5
    exact h5.2.symm
  refine ⟨ChangeMaps.setBlock w b (.map (ents.modify l1.length fun e => { e with key := key }) clock), e0.born, ?_, h.set_there (f := fun e => { e with key := key }) hb h2 rfl hval rfl, ?_⟩
  · simp [Instr.mapEntry, run_underlying ht, MapKept.run_getObj_map hb, K.check w _ hk, h1, h2, h3, hval, K.stays w hk, MapKept.run_setObj_map _ hb, Result.andThen, ChangeMaps.setBlock]
  · exact ⟨rfl, rfl, rfl, by simp [ChangeMaps.setBlock], fun i _ hi => ChangeMaps.heap_setBlock_other hb _ (fun e => hi e)⟩
theorem StampAt.store {l1 l2 : List (Value × Value)} {key u : Value} {st : Nat} (h : StampAt P k w b l1 key u l2 st) (t : TypeId) (val : Value) :
    ∃ w', (Instr.entryStore t (.map (some b)) (goInt st) val).run P w = .ok () w' ∧ MapAt P k w' b (l1 ++ (key, val) :: l2) ∧ Exc (fun q => q = b) w w' := by
  obtain ⟨h1, ents, clock, e0, hb, h2, h3⟩ := h
  have h0 := h1
  obtain ⟨ents', clock', hb', he, hbn, hdn, hkeys, hpw⟩ := h0
  rw [hb] at hb'
  cases hb'
  have hkey : e0.key = key := by
    have h5 : (ents.toList.map (fun e => (e.key, e.val)))[l1.length]? = some (e0.key, e0.val) := by rw [List.getElem?_map, Array.getElem?_toList, h2]; rfl
    rw [he] at h5
    simp at h5
    exact h5.1.symm
  have hidx : ents.findIdx? (fun e => ((e.born : Nat) : Int) == ((st : Nat) : Int)) = some l1.length := by
    rw [WideElems.findIdx_arr, ← h3]
    exact WideElems.findIdx_born (List.pairwise_map.2 hdn) (by rw [Array.getElem?_toList]; exact h2)
  refine ⟨ChangeMaps.setBlock w b (.map (ents.modify l1.length fun e => { e with val := val }) clock), ?_, (h1.set_there (f := fun e => { e with val := val }) hb h2 hkey rfl rfl).1, ?_⟩
  · simp [Instr.entryStore, MapKept.run_getObj_map hb, goInt, asInt, asIntOf, hidx, MapKept.run_setObj_map _ hb, Result.andThen, ChangeMaps.setBlock]
  · exact ⟨rfl, rfl, rfl, by simp [ChangeMaps.setBlock], fun i _ hi => ChangeMaps.heap_setBlock_other hb _ (fun e => hi e)⟩
end
section
variable {P : Program} {ops : Array Oper} {rest : List Oper} {o : Oper} {a : Act} {Q : Exit → Act → World → Prop} {L0 L F : List Part} {w0 w : World} {k : TypeId} {b : Nat}
/-- an entry that was not there -/
theorem wpList_entry_new_at {t : TypeId} {m x : Operand} {es : List (Value × Value)} (hg : o.guard = none) (hop : o.op = .mapEntry t m x) (hm : a.eval m = .map (some b)) {key : Value} (hx : a.eval x = key)
    (h : At L0 w0 L w) (s : Sel (Part.map P k b es) L F) {e : TypeId} (K : Keyed P k) (ht : P.underlying t = some (.map k e)) {z : Value} (hz : ∀ u : World, (zeroValue e).run P u = .ok z u) {kl : Lit} (hk : keyOf P k key = some kl) (hn : ∀ p ∈ es, p.1 ≠ key)
    (hK : ∀ w' (st : Nat), At L0 w0 (Part.stamp P k b es key z [] st :: F) w' → wpList P ops Q rest (a.put o.dst (.tuple #[z, goInt st])) w') : wpList P ops Q (o :: rest) a w := by
  have hM : MapAt P k w b es := h.get s
  obtain ⟨w', st, h1, h2, h3⟩ := hM.entry_new K ht hz hk hn
  refine wpList_val hg ?_ (hK w' st (h.turn s _ h2 (fun _ e => .inl e) h3))
  simp [execOp, hop, hm, hx, h1, Result.andThen]
theorem wpList_entry_there_at {t : TypeId} {m x : Operand} {l1 l2 : List (Value × Value)} {u : Value} (hg : o.guard = none) (hop : o.op = .mapEntry t m x) (hm : a.eval m = .map (some b)) {key : Value} (hx : a.eval x = key)
    (h : At L0 w0 L w) (s : Sel (Part.map P k b (l1 ++ (key, u) :: l2)) L F) {e : TypeId} (K : Keyed P k) (ht : P.underlying t = some (.map k e)) {kl : Lit} (hk : keyOf P k key = some kl)
    (hK : ∀ w' (st : Nat), At L0 w0 (Part.stamp P k b l1 key u l2 st :: F) w' → wpList P ops Q rest (a.put o.dst (.tuple #[u, goInt st])) w') : wpList P ops Q (o :: rest) a w := by
  have hM : MapAt P k w b (l1 ++ (key, u) :: l2) := h.get s
  obtain ⟨w', st, h1, h2, h3⟩ := hM.entry_there K ht hk
  refine wpList_val hg ?_ (hK w' st (h.turn s _ h2 (fun _ e => .inl e) h3))
  simp [execOp, hop, hm, hx, h1, Result.andThen]
theorem wpList_entryStore_at {t : TypeId} {m x y : Operand} {l1 l2 : List (Value × Value)} {key u val : Value} {st : Nat} (hg : o.guard = none) (hop : o.op = .entryStore t m x y) (hm : a.eval m = .map (some b)) (hx : a.eval x = goInt st) (hy : a.eval y = val)
    (h : At L0 w0 L w) (s : Sel (Part.stamp P k b l1 key u l2 st) L F)
    (hK : ∀ w', At L0 w0 (Part.map P k b (l1 ++ (key, val) :: l2) :: F) w' → wpList P ops Q rest (a.put o.dst undef) w') : wpList P ops Q (o :: rest) a w := by
  have hM : StampAt P k w b l1 key u l2 st := h.get s
  obtain ⟨w', h1, h2, h3⟩ := hM.store t val
  refine wpList_unit hg ?_ (hK w' (h.turn s _ h2 (fun _ e => .inl e) h3))
  simp [execOp, hop, hm, hx, hy, h1, Result.andThen]
end
end Go.Proofs.YtnkddjomanaadaaGreatDoor
end

section
namespace Go.Proofs.YtnkddjomanaadaaGreatDoor.Lock
open Go.RowKit Go.Shelf Go.Sort
open Go.Maps (Keyed)
open Go.Lib (compareBytes compareInt)
open Path (bl)
open _root_.Go.Proofs.YtnkddjomanaadaaGreatDoor.Mark (orI or2 three_grow new_cell holdsK_of own_sorted grownBy_sortedK)
open _root_.Go.Proofs.YtnkddjomanaadaaGreatDoor.Sess (seV seL compare_u64 cmpS cbS sortS swoS totS)
set_option linter.unusedSimpArgs false
set_option linter.unusedVariables false

theorem seL_len (x : Ses) : (seL x).length = 2 := rfl
theorem seL_one (x : Ses) : ∀ v ∈ seL x, v.oneCell' = true := by
  intro u hu
  simp only [seL, List.mem_cons, List.not_mem_nil, or_false] at hu
  rcases hu with rfl | rfl <;> rfl
abbrev flatQ (l : List Ses) : List Value := l.flatMap seL
abbrev rowQ (v : Value) (l : List Ses) : Part := .row 33 2 v l.length (flatQ l)
theorem rowQ_snoc (v : Value) (l : List Ses) (x : Ses) : Part.row 33 2 v (l.length + 1) (flatQ l ++ seL x) = rowQ v (l ++ [x]) := rows_snoc (enc := seL) _ v l x
theorem rowQ_app (v : Value) (l r : List Ses) : Part.row 33 2 v (l.length + r.length) (flatQ l ++ flatQ r) = rowQ v (l ++ r) := rows_app (enc := seL) _ v l r
theorem rowQ_nil {L0 L : List Part} {w0 w : World} (h : At L0 w0 L w) : At L0 w0 (rowQ (.slice none 0 0) [] :: L) w := h.row_nil 33 2
theorem infoQ : (Tryz.prog.info? 33).map (fun i => (i.zero, i.size, i.bytes)) = some (some (.agg #[.int .u64 0, .string .empty]), 2, 24) := by kernel_rfl
set_option maxRecDepth 100000 in
theorem stuck1_exact (x y : Ses) (W : World) : Calls Tryz.prog 49 #[.agg #[.int .u64 x.1, .string x.2], .agg #[.int .u64 y.1, .string y.2]] W fun e w' => e = .returned (.int .i64 (cmpS x y)) ∧ ∃ q os', w' = grow (W.drewN q) os' := by
  unfold cmpS cbS
  go_enter Tryz.func49, Tryz.ntmps49
  go_wp2_with fail
  (refine wp_region_head 10 (fun w' => ∃ n, w' = World.drewN _ n) (by kernel_rfl) (by kernel_rfl) ⟨1, rfl⟩ ?_); (simp only [List.take_succ_cons, List.take_zero, List.drop_succ_cons, List.drop_zero]); (repeat (first | go_big_quiet_step (first | exact (compare_u64 _ _ _).mono fun _ _ ⟨he, hw⟩ => ⟨he, _, hw⟩ | exact (Path.cmpS_any _ _ _).mono fun _ _ ⟨he, hw⟩ => ⟨he, _, hw.symm⟩) | quiet_step (first | exact (compare_u64 _ _ _).mono fun _ _ ⟨he, hw⟩ => ⟨he, _, hw⟩ | exact (Path.cmpS_any _ _ _).mono fun _ _ ⟨he, hw⟩ => ⟨he, _, hw.symm⟩))); (refine wpQuiet_nil ?_); (rintro _ ⟨nq, rfl⟩)
  go_wp2_with fail
  refine (or2 (compareInt x.1 y.1) (compareBytes x.2.data.toList y.2.data.toList) _ _ ?h0 ?h1).mono ?_
  case h0 => exact new_cell _ _ (by simp) _ _ _ _ rfl
  case h1 => exact new_cell _ _ (by simp) _ _ _ _ rfl
  rintro e _ ⟨rfl, rfl⟩
  go_wp2_with fail
  go_ret
  exact ⟨rfl, nq, _, three_grow _ _ _ _ _⟩
theorem cmpLaysQ (blk off size : Nat) (w : World) : CmpLays Tryz.prog 49 #[] seL 2 cmpS blk off size w := fun _ _ _ _ x y => stuck1_exact x y _
theorem sortQ_perm (l : List Ses) : (sortS l).Perm l := List.mergeSort_perm l _
theorem sortQ_len (l : List Ses) : (sortS l).length = l.length := List.length_mergeSort l
/-- slices.SortFunc: the row is sorted where it lies -/
theorem sortQ_any {w w0 : World} {L F : List Part} {v : Value} {ss : List Ses} (h : At L w0 (rowQ v ss :: F) w) (hmax : ss.length ≤ 100000000) :
    Calls Tryz.prog 48 #[v, .func (.func 49) #[] #[]] w fun e w' => e = .returned (.tuple #[]) ∧ At L w0 (rowQ v (sortS ss) :: F) w' := by
  have hrow : w.ownsRow 0 33 2 v ss.length (ss.flatMap seL) := h.get (A := rowQ v ss) .here
  rcases hrow.2 with ⟨rfl, hz⟩ | ⟨gb, cap, cur, rfl, hbase, hgb, r1, r2, r3, r4⟩
  · have hss : ss = [] := List.eq_nil_of_length_eq_zero hz
    subst hss
    have hS : Calls Tryz.prog 48 #[.slice none 0 0, .func (.func 49) #[] #[]] w fun e w' => e = .returned (.tuple #[]) ∧ w' = w := AnyF.slices_SortFunc_none Tryz.sort48 none 0 _ _
    refine hS.mono ?_
    rintro e _ ⟨rfl, rfl⟩
    exact ⟨rfl, by simpa [sortS] using h⟩
  · have hH : HoldsK seL 2 w gb 0 ss.toArray := holdsK_of seL 2 seL_len hgb r4
    have hgl : gb < w.heap.size := (Array.getElem?_eq_some_iff.1 hgb).1
    have hsz : ss.toArray.size < 4611686018427387904 := by simp; omega
    have hS : Calls Tryz.prog 48 #[.slice (some ⟨gb, 0, none⟩) ss.length cap, .func (.func 49) #[] #[]] w fun e w' => e = .returned (.tuple #[]) ∧ ∃ n os, w' = sortWorldK seL 2 w gb 0 n (sortS ss).toArray os :=
      AnyQ.slices_SortFunc_total Tryz.sort48 2 Tryz.isAgg33 Tryz.sizeOf33 seL seL_len seL_one cmpS swoS 49 #[] gb 0 cap ss.toArray w (enters_of Tryz.func49 (by kernel_rfl) rfl) (cmpLaysQ _ _ _ _) hH hgl hsz totS
    refine hS.mono ?_
    rintro e _ ⟨rfl, nn, os, rfl⟩
    have hown := own_sorted seL 2 seL_len (w := w) (base := 0) (cap := cap) (n := nn) (os := os) (sortQ_len ss) (Nat.zero_le _) hgb r1 r2 r3
    refine ⟨rfl, ?_⟩
    have hD := h.turn (A := rowQ (.slice (some ⟨gb, 0, none⟩) ss.length cap) ss) .here (rowQ (.slice (some ⟨gb, 0, none⟩) ss.length cap) (sortS ss)) (by show World.ownsRow _ 0 _ 2 _ (sortS ss).length _; rw [sortQ_len]; exact hown) (fun b hb => .inl hb) (exc_grown (grownBy_sortedK _))
    exact hD
theorem wpList_zero_at {P : Program} {ops : Array Oper} {rest : List Oper} {o : Oper} {a : Act} {Q : Exit → Act → World → Prop} {L0 L : List Part} {w0 w : World} {t e : TypeId} {size : Nat} (hg : o.guard = none) (hop : o.op = .buildSlice t 0 #[])
    (hrun : (Instr.buildSlice t 0 #[]).run P w = .ok (.slice (some ⟨w.heap.size, 0, none⟩) 0 0) (w.alloc (.cells #[] e))) (h : At L0 w0 L w)
    (hK : ∀ b w', At L0 w0 (Part.row e size (.slice (some ⟨b, 0, none⟩) 0 0) 0 [] :: L) w' → wpList P ops Q rest (a.put o.dst (.slice (some ⟨b, 0, none⟩) 0 0)) w') : wpList P ops Q (o :: rest) a w := by
  refine wpList_val hg ?_ (hK w.heap.size (w.alloc (.cells #[] e)) ?_)
  · simp [execOp, hop, hrun, Result.andThen]
  · exact (h.alloc [] e).row_shut (cap := 0) (n := 0) (xs := []) .here (by simp) (Nat.le_refl _) (by unfold maxLen; omega) (by simp)
set_option maxRecDepth 100000 in
/-- slices.Clone of a row that is read -/
theorem clone_ses {L0 L : List Part} {w0 w : World} {v : Value} {l : List Ses} (hA : At L0 w0 L w) (hr : ∀ w', At L0 w0 L w' → Reads w' v l.length (flatQ l)) (hv : ∃ ax cap, v = .slice ax l.length cap ∧ (ax = none → l.length = 0)) (hmax : l.length ≤ 1000000) :
    Calls Tryz.prog 77 #[v] w fun e w' => ∃ v', e = .returned v' ∧ At L0 w0 (rowQ v' l :: L) w' := by
  obtain ⟨i0, hi0, hz0, hz1, hz2⟩ := info_parts infoQ
  obtain ⟨ax, cap, rfl, hax⟩ := hv
  cases ax with
  | none =>
    have : l = [] := List.eq_nil_of_length_eq_zero (hax rfl)
    subst this
    have he : ∀ w, (binOp .eql 62 (.slice none 0 cap) (.slice none 0 0)).run Tryz.prog w = .ok (.bool true) w := fun w => by kernel_rfl
    go_enter Tryz.func77, Tryz.ntmps77
    go_wp2_with fail
    go_ret
    exact ⟨_, rfl, rowQ_nil hA⟩
  | some ad =>
    have he : ∀ w, (binOp .eql 62 (.slice (some ad) l.length cap) (.slice none 0 0)).run Tryz.prog w = .ok (.bool false) w := fun w => by kernel_rfl
    go_enter Tryz.func77, Tryz.ntmps77
    go_wp2_with (first
      | ((with_reducible show wpList _ _ _ ({ dst := _, op := Op.buildSlice _ _ _, type := _, pos := _, after := _, guard := _ } :: _) _ _); refine wpList_zero_at (e := 33) (size := 2) rfl rfl (by kernel_rfl) hA ?_; intro b2 w1 hB)
      | ((with_reducible show wpList _ _ _ ({ dst := _, op := Op.call { callee := Callee.builtin Builtin.append, args := _, argTypes := _ }, type := _, pos := _, after := _, guard := _ } :: _) _ _); refine wpList_append_at (e := 33) (size := 2) (v := .slice (some ⟨b2, 0, none⟩) 0 0) (xs := []) (n := 0) (m := l.length) (news := flatQ l) rfl _ _ 62 rfl Tryz.underlying62 hi0 hz0 hz1 hz2 rfl (by omega) hB (by with_reducible repeat (first | exact Sel.here | apply Sel.there)) (by (try simp only [Act.eval, Array.getD_eq_getD_getElem?, List.getElem?_toArray, List.getElem?_cons_succ, List.getElem?_cons_zero, Option.getD_some]) <;> exact rfl) (by (try simp only [Act.eval, Array.getD_eq_getD_getElem?, List.getElem?_toArray, List.getElem?_cons_succ, List.getElem?_cons_zero, Option.getD_some]) <;> exact rfl) (flat_len _ _ seL_len _) (hr _ (hB.drop .here)) (flat_one seL_one _) (by unfold maxLen; omega) (by omega) ?_; intro v2 w2 hC))
    go_ret
    rw [Nat.zero_add, List.nil_append] at hC
    exact ⟨v2, rfl, hC⟩
end Go.Proofs.YtnkddjomanaadaaGreatDoor.Lock
end

section
namespace Go.Proofs.YtnkddjomanaadaaGreatDoor.Lock
open Go.RowKit
open Go.Maps (Keyed)
open Path (bl)
open _root_.Go.Proofs.YtnkddjomanaadaaGreatDoor.Sess (seV seL)
set_option linter.unusedSimpArgs false
set_option linter.unusedVariables false
attribute [-go_sem] run_eql_struct run_neq_struct run_eqGuard_agg
attribute [local go_sem] guardS eqlS

/-- an entry: a session, the row's value, the sessions in it -/
structure NE where
  key : Ses
  v : Value
  l : List Ses
def entN (e : NE) : Value × Value := (seV e.key, e.v)
def entsN (N : List NE) : List (Value × Value) := N.map entN
def restN (N : List NE) : Part := Part.all (N.map (fun e => rowQ e.v e.l))
abbrev mapN (m : Nat) (es : List (Value × Value)) : Part := Part.map Tryz.prog 33 m es
theorem eqvN (l1 l2 : List NE) (e : NE) (F : List Part) : Eqv (restN (l1 ++ e :: l2) :: F) (rowQ e.v e.l :: restN (l1 ++ l2) :: F) := by
  refine (Eqv.all _ F).trans ?_
  have p1 : ((l1 ++ e :: l2).map (fun e => rowQ e.v e.l) ++ F).Perm (rowQ e.v e.l :: ((l1 ++ l2).map (fun e => rowQ e.v e.l) ++ F)) := by
    simp only [List.map_append, List.map_cons, List.append_assoc, List.cons_append]
    exact List.perm_middle
  refine (Eqv.perm p1).trans ?_
  exact (Eqv.all ((l1 ++ l2).map (fun e => rowQ e.v e.l)) F).symm.prepend [rowQ e.v e.l]
theorem outN {L0 L F : List Part} {w0 w : World} {N l1 l2 : List NE} {e : NE} (q : N = l1 ++ e :: l2) (h : At L0 w0 L w) (s : Sel (restN N) L F) : At L0 w0 (rowQ e.v e.l :: restN (l1 ++ l2) :: F) w := (h.take s).to (by rw [q]; exact eqvN l1 l2 e F)
theorem inN {L0 L F G : List Part} {w0 w : World} {N l1 l2 : List NE} {e : NE} (q : N = l1 ++ e :: l2) (h : At L0 w0 L w) (s1 : Sel (rowQ e.v e.l) L F) (s2 : Sel (restN (l1 ++ l2)) F G) : At L0 w0 (restN N :: G) w :=
  (h.perm (s1.perm.trans (s2.perm.cons _))).to (by rw [q]; exact (eqvN l1 l2 e G).symm)
theorem nilN {L0 L : List Part} {w0 w : World} (h : At L0 w0 L w) : At L0 w0 (restN [] :: L) w := h.to (Eqv.all [] L).symm
/-- what the map tells is who leads to whom -/
structure NextIs (E : List (Ses × Ses)) (N : List NE) : Prop where
  once : N.Pairwise (fun a b => a.key ≠ b.key)
  rows : ∀ e ∈ N, e.l = nexts E e.key
  all : ∀ x, nexts E x ≠ [] → ∃ e ∈ N, e.key = x
  some : ∀ e ∈ N, e.l ≠ []
theorem next_none : NextIs [] [] := ⟨.nil, nofun, fun x h => absurd rfl h, nofun⟩
theorem NextIs.look {E : List (Ses × Ses)} {N : List NE} (h : NextIs E N) (x : Ses) : (∃ l1 e l2, N = l1 ++ e :: l2 ∧ e.key = x ∧ e.l = nexts E x) ∨ ((∀ p ∈ entsN N, p.1 ≠ seV x) ∧ nexts E x = []) := by
  by_cases q : ∃ e ∈ N, e.key = x
  · obtain ⟨e, he, hx⟩ := q
    obtain ⟨l1, l2, hl⟩ := List.append_of_mem he
    exact .inl ⟨l1, e, l2, hl, hx, hx ▸ h.rows e he⟩
  · refine .inr ⟨fun p hp => ?_, ?_⟩
    · obtain ⟨e, he, rfl⟩ := List.mem_map.1 hp
      intro hk
      apply q
      refine ⟨e, he, ?_⟩
      simp [entN, seV] at hk
      exact Prod.ext hk.1 hk.2
    · by_cases hn : nexts E x = []
      · exact hn
      · exact absurd (h.all x hn) q
/-- a pair more, its session there -/
theorem NextIs.more {E : List (Ses × Ses)} {l1 l2 : List NE} {e : NE} (h : NextIs E (l1 ++ e :: l2)) (y : Ses) (v : Value) : NextIs (E ++ [(e.key, y)]) (l1 ++ ⟨e.key, v, e.l ++ [y]⟩ :: l2) := by
  have ho := h.once
  rw [List.pairwise_append, List.pairwise_cons] at ho
  obtain ⟨o1, ⟨o2, o3⟩, o4⟩ := ho
  have hne : ∀ z ∈ l1 ++ l2, z.key ≠ e.key := fun z hz => by
    rcases List.mem_append.1 hz with hz | hz
    · exact o4 z hz e (List.mem_cons_self ..)
    · exact (o2 z hz).symm
  refine ⟨?_, ?_, ?_, ?_⟩
  · rw [List.pairwise_append, List.pairwise_cons]
    exact ⟨o1, ⟨o2, o3⟩, fun a ha b hb => by
      rcases List.mem_cons.1 hb with q | q
      · subst q; exact o4 a ha e (List.mem_cons_self ..)
      · exact o4 a ha b (List.mem_cons_of_mem _ q)⟩
  · intro z hz
    rw [nexts_snoc]
    rcases List.mem_append.1 hz with q | q
    · rw [if_neg (hne z (List.mem_append_left _ q)).symm]; exact h.rows z (List.mem_append_left _ q)
    · rcases List.mem_cons.1 q with q | q
      · subst q; rw [if_pos rfl]; rw [h.rows e (by simp)]
      · rw [if_neg (hne z (List.mem_append_right _ q)).symm]; exact h.rows z (List.mem_append_right _ (List.mem_cons_of_mem _ q))
  · intro x hx
    rw [nexts_snoc] at hx
    by_cases q : e.key = x
    · exact ⟨⟨e.key, v, e.l ++ [y]⟩, by simp, q⟩
    · rw [if_neg q] at hx
      obtain ⟨z, hz, hzx⟩ := h.all x hx
      rcases List.mem_append.1 hz with r | r
      · exact ⟨z, List.mem_append_left _ r, hzx⟩
      · rcases List.mem_cons.1 r with r | r
        · subst r; exact absurd hzx q
        · exact ⟨z, List.mem_append_right _ (List.mem_cons_of_mem _ r), hzx⟩
  · intro z hz
    rcases List.mem_append.1 hz with q | q
    · exact h.some z (List.mem_append_left _ q)
    · rcases List.mem_cons.1 q with q | q
      · subst q; simp
      · exact h.some z (List.mem_append_right _ (List.mem_cons_of_mem _ q))
/-- a pair more, its session new -/
theorem NextIs.new {E : List (Ses × Ses)} {N : List NE} (h : NextIs E N) {x : Ses} (hn : ∀ p ∈ entsN N, p.1 ≠ seV x) (h0 : nexts E x = []) (y : Ses) (v : Value) : NextIs (E ++ [(x, y)]) (N ++ [⟨x, v, [y]⟩]) := by
  have hne : ∀ z ∈ N, z.key ≠ x := fun z hz e => hn (entN z) (List.mem_map_of_mem hz) (by unfold entN; rw [e])
  refine ⟨?_, ?_, ?_, ?_⟩
  · rw [List.pairwise_append]
    exact ⟨h.once, List.pairwise_singleton _ _, fun a ha b hb => by rw [List.mem_singleton.1 hb]; exact hne a ha⟩
  · intro z hz
    rw [nexts_snoc]
    rcases List.mem_append.1 hz with q | q
    · rw [if_neg (hne z q).symm]; exact h.rows z q
    · rw [List.mem_singleton.1 q, if_pos rfl, h0]; rfl
  · intro z hz
    rw [nexts_snoc] at hz
    by_cases q : x = z
    · exact ⟨⟨x, v, [y]⟩, by simp, q⟩
    · rw [if_neg q] at hz
      obtain ⟨u, hu, huz⟩ := h.all z hz
      exact ⟨u, List.mem_append_left _ hu, huz⟩
  · intro z hz
    rcases List.mem_append.1 hz with q | q
    · exact h.some z q
    · rw [List.mem_singleton.1 q]; simp
theorem NextIs.len {E : List (Ses × Ses)} {N : List NE} (h : NextIs E N) : N.length ≤ E.length := by
  have h1 := nodup_len (l := N.map (·.key)) (r := E.map (·.1)) (List.pairwise_map.2 h.once) (fun x hx => by
    obtain ⟨e, he, rfl⟩ := List.mem_map.1 hx
    have h2 := h.some e he
    rw [h.rows e he] at h2
    obtain ⟨y, hy⟩ := List.exists_mem_of_ne_nil _ h2
    exact List.mem_map_of_mem (mem_nexts.1 hy))
  simpa using h1
theorem NextIs.keyed {E : List (Ses × Ses)} {N : List NE} (h : NextIs E N) {x : Ses} (c : Conn E x x) : ∃ e ∈ N, e.key = x := by
  obtain ⟨z, hz⟩ := c.first
  exact h.all x (fun e => by have := mem_nexts.2 hz; rw [e] at this; cases this)
end Go.Proofs.YtnkddjomanaadaaGreatDoor.Lock
end
