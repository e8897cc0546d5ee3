/- LockJ, joined. -/
import Derived.Test.YtnkddjomanaadaaGreatDoorJ14
section
namespace Go.Proofs.YtnkddjomanaadaaGreatDoor.Lock
open Go.RowKit
open Go.Maps (Keyed)
open Path (bl rightB overB)
set_option linter.unusedSimpArgs false
set_option linter.unusedVariables false
attribute [-go_sem] run_eql_struct run_neq_struct run_eqGuard_agg
attribute [local go_sem] guardS eqlS

/-- what stands of a list while those that D tells are taken away: of dn it is settled -/
structure Kept (es cur dn : List Ent) (D : Ent → Bool) : Prop where
  sub : cur.Sublist es
  kept : ∀ x ∈ es, x ∈ cur ∨ (D x = true ∧ x ∈ dn)
  done : ∀ x ∈ cur, x ∈ dn → D x = false
  inn : ∀ x ∈ dn, x ∈ es
  nd : dn.Nodup
theorem Kept.len {es cur dn : List Ent} {D : Ent → Bool} (h : Kept es cur dn D) : dn.length ≤ es.length := h.nd.length_le_of_subset (fun x hx => h.inn x hx)
theorem notin_mid {l1 l2 : List Ent} {x : Ent} (h : (l1 ++ x :: l2).Nodup) : x ∉ l1 ++ l2 := (List.nodup_cons.1 (List.perm_middle.nodup h)).1
theorem Kept.next {es cur dn : List Ent} {D : Ent → Bool} (h : Kept es cur dn D) {x : Ent} (hx : x ∈ cur) (hn : x ∉ dn) : (D x = false → Kept es cur (dn ++ [x]) D) ∧
    (D x = true → ∀ l1 l2, cur = l1 ++ x :: l2 → x ∉ l1 ++ l2 → Kept es (l1 ++ l2) (dn ++ [x]) D) := by
  have hpw : (dn ++ [x]).Nodup := List.nodup_append.2 ⟨h.nd, by simp, fun a ha c hc => by rw [List.mem_singleton.1 hc]; intro e; subst e; exact hn ha⟩
  have hdm : ∀ y ∈ dn ++ [x], y ∈ es := fun y hy => by
    rcases List.mem_append.1 hy with hy | hy
    · exact h.inn y hy
    · rw [List.mem_singleton.1 hy]; exact h.sub.subset hx
  constructor
  · intro hl
    refine ⟨h.sub, fun y hy => ?_, fun y hy hz => ?_, hdm, hpw⟩
    · rcases h.kept y hy with q | ⟨q, r⟩
      · exact .inl q
      · exact .inr ⟨q, by simp [r]⟩
    · rcases List.mem_append.1 hz with hz | hz
      · exact h.done y hy hz
      · rw [List.mem_singleton.1 hz]; exact hl
  · intro hl l1 l2 e hne
    subst e
    refine ⟨(List.Sublist.append (List.Sublist.refl _) (List.sublist_cons_self _ _)).trans h.sub, fun y hy => ?_, fun y hy hz => ?_, hdm, hpw⟩
    · rcases h.kept y hy with q | ⟨q, r⟩
      · by_cases hyx : y = x
        · subst hyx; exact .inr ⟨hl, by simp⟩
        · left
          simp only [List.mem_append, List.mem_cons] at q ⊢
          rcases q with q | q | q
          · exact .inl q
          · exact absurd q hyx
          · exact .inr q
      · exact .inr ⟨q, by simp [r]⟩
    · rcases List.mem_append.1 hz with hz | hz
      · exact h.done y (by simp only [List.mem_append, List.mem_cons] at hy ⊢; rcases hy with hy | hy <;> simp [hy]) hz
      · rw [List.mem_singleton.1 hz] at hy; exact absurd hy hne
theorem Kept.end {es cur dn : List Ent} {D : Ent → Bool} (h : Kept es cur dn D) (hnd : es.Nodup) (hall : ∀ x ∈ cur, x ∈ dn) : cur = es.filter (fun x => !D x) := by
  have hs : cur.Sublist (es.filter (fun x => !D x)) := by
    have := h.sub.filter (fun x => !D x)
    rwa [List.filter_eq_self.2 (fun x hx => by rw [h.done x hx (hall x hx)]; rfl)] at this
  refine hs.eq_of_length ?_
  refine (List.Perm.length_eq ?_)
  refine (List.perm_ext_iff_of_nodup (h.sub.nodup hnd) (hnd.sublist List.filter_sublist)).2 fun x => ?_
  rw [List.mem_filter]
  constructor
  · intro hx
    exact ⟨h.sub.subset hx, by rw [h.done x hx (hall x hx)]; rfl⟩
  · rintro ⟨h1, h2⟩
    rcases h.kept x h1 with q | ⟨q, _⟩
    · exact q
    · rw [q] at h2; cases h2
theorem ents_mid (l1 l2 : List Ent) (e : Ent) : ents (l1 ++ e :: l2) = ents l1 ++ (e.key, e.val) :: ents l2 := by simp [ents, ent]
theorem ents_app (l1 l2 : List Ent) : ents l1 ++ ents l2 = ents (l1 ++ l2) := by simp [ents]

set_option maxRecDepth 100000 in
theorem drop1_any {w : World} {bS : Nat} {n k : Int} {f p g : ByteArray} {v : List Value} (h : Sep [boxS bS n f] w) {c : Bool} (hc : decide (k = n ∧ g = f) = c) {c1 c2 c3 c4 c5 c6 : Value} :
    Calls Tryz.prog 53 #[.agg #[.string p, .int .u64 k, .string g], .agg #[c1, c2, c3, c4, c5, c6], .pointer (some ⟨bS, 0, none⟩)] w fun e w' => e = .returned (.bool c) ∧ At [boxS bS n f] w [boxS bS n f] w' := by
  have hA := At.start h
  have hF := hA.facts
  (try simp only [setL, List.set_cons_zero, List.set_cons_succ, List.cons_append, List.nil_append] at hA); (have hF := hA.facts); (try simp only [facts_cons, facts_nil, facts_cells, facts_old, facts_fact, facts_obj, facts_map, facts_iter, and_true, true_and] at hF)
  clear h
  have hc' := Lib.hid hc
  clear hc
  go_enter Tryz.func53, Tryz.ntmps53
  go_wp2_with (first | ((with_reducible show wpList _ _ _ ({ dst := _, op := Op.store _ _ _, type := _, pos := _, after := _, guard := _ } :: _) _ _); refine wpList_store_at rfl rfl rfl (by (try simp only [Act.eval, Array.getD_eq_getD_getElem?, List.getElem?_toArray, List.getElem?_cons_succ, List.getElem?_cons_zero, Option.getD_some]) <;> exact rfl) (by exact rfl) hA (by with_reducible repeat (first | exact Sel.here | apply Sel.there)) (by kernel_rfl) rfl (by first | decide | (simp; done) | omega) ?_; intro w1 hB; clear hF hA; have hA := hB; clear hB; (try simp only [setL, List.set_cons_zero, List.set_cons_succ, List.cons_append, List.nil_append] at hA); (have hF := hA.facts); (try simp only [facts_cons, facts_nil, facts_cells, facts_old, facts_fact, facts_obj, facts_map, facts_iter, and_true, true_and] at hF)) | ((with_reducible show wpList _ _ _ ({ dst := _, op := Op.box _ _, type := _, pos := _, after := _, guard := _ } :: _) _ _); refine wpList_box_at rfl rfl (by (try simp only [Act.eval, Array.getD_eq_getD_getElem?, List.getElem?_toArray, List.getElem?_cons_succ, List.getElem?_cons_zero, Option.getD_some]) <;> exact rfl) (by exact rfl) hA ?_; intro b1 w1 hB hb1; clear hF hA; have hA := hB; clear hB; (try simp only [setL, List.set_cons_zero, List.set_cons_succ, List.cons_append, List.nil_append] at hA); (have hF := hA.facts); (try simp only [facts_cons, facts_nil, facts_cells, facts_old, facts_fact, facts_obj, facts_map, facts_iter, and_true, true_and] at hF)))
  go_ret
  exact ⟨by rw [← hc'.out, Bool.decide_and]; rfl, hA.only1 (by with_reducible repeat (first | exact Sel.here | apply Sel.there))⟩
abbrev iterE (r b : Nat) (cur dn : List Ent) : Part := .iterD Tryz.prog 82 r b (ents cur) (ents dn)
def DelRel (L0 : List Part) (w : World) (m r bS : Nat) (n : Int) (f : ByteArray) (es : List Ent) (k : Nat) (wr : World) : Prop :=
  ∃ cur dn : List Ent, Kept es cur dn (·.of n f) ∧ dn.length + k = es.length ∧ At L0 w [iterE r m cur dn, boxS bS n f] wr
set_option maxRecDepth 100000 in
set_option maxHeartbeats 2000000 in
theorem del_any {w : World} {m bS : Nat} {n : Int} {f : ByteArray} {es : List Ent} (h : Sep [mapC m (ents es), boxS bS n f] w) (hok : ∀ x ∈ es, x.path.size ≤ maxLen ∧ 0 ≤ x.num ∧ x.num < big64 ∧ x.foot.size ≤ maxLen) :
    Calls Tryz.prog 52 #[.map (some m), .func (.func 53) #[] #[.pointer (some ⟨bS, 0, none⟩)]] w fun e w' => e = .returned (.tuple #[]) ∧ At [mapC m (ents es), boxS bS n f] w [mapC m (ents (es.filter (fun x => !x.of n f))), boxS bS n f] w' := by
  have hA := At.start h
  have hkeys := keys_of (MapAt.keys (hA.get (A := mapC m (ents es)) (by with_reducible repeat (first | exact Sel.here | apply Sel.there))))
  have hnde : es.Nodup := hkeys.imp (fun h e => h (by rw [e]))
  have hF := hA.facts
  (try simp only [setL, List.set_cons_zero, List.set_cons_succ, List.cons_append, List.nil_append] at hA); (have hF := hA.facts); (try simp only [facts_cons, facts_nil, facts_cells, facts_old, facts_fact, facts_obj, facts_map, facts_iter, and_true, true_and] at hF)
  clear h hkeys
  go_enter Tryz.func52, Tryz.ntmps52
  go_wp2_with (first | (refine wpList_range_at rfl rfl rfl hA (by with_reducible repeat (first | exact Sel.here | apply Sel.there)) Tryz.underlying69 ?_; intro r w1 hB hr; have hB := hB.rangeD (by with_reducible repeat (first | exact Sel.here | apply Sel.there)); clear hF hA; have hA := hB; clear hB; (try simp only [setL, List.set_cons_zero, List.set_cons_succ, List.cons_append, List.nil_append] at hA); (have hF := hA.facts); (try simp only [facts_cons, facts_nil, facts_cells, facts_old, facts_fact, facts_obj, facts_map, facts_iter, and_true, true_and] at hF)))
  try go_frame
  go_loopg [5] es.length (fun k _ wr => DelRel [mapC m (ents es), boxS bS n f] w m r bS n f es k wr)
  case atStart => exact ⟨es, [], ⟨List.Sublist.refl _, fun x hx => .inl hx, fun x _ hx => (by cases hx), nofun, List.nodup_nil⟩, by simp, hA⟩
  case round =>
    obtain ⟨cur, dn, hL, hk, hB⟩ := hrel
    clear hF hA
    have hA := hB
    clear hB
    (try simp only [setL, List.set_cons_zero, List.set_cons_succ, List.cons_append, List.nil_append] at hA); (have hF := hA.facts); (try simp only [facts_cons, facts_nil, facts_cells, facts_old, facts_fact, facts_obj, facts_map, facts_iter, and_true, true_and] at hF)
    go_step
    go_step
    refine wpList_nextD_at rfl rfl rfl hA (by with_reducible repeat (first | exact Sel.here | apply Sel.there)) (fun hp => ?_) (fun q w1 hq hd hB => ?_)
    · have hM := hA.rangedD (by with_reducible repeat (first | exact Sel.here | apply Sel.there))
      have hfin := Lib.hid (hL.end hnde (fun x hx => ent_mem (hp _ (List.mem_map.2 ⟨x, hx, rfl⟩))))
      clear hp hL
      go_wp2_with fail
      go_end0
      exact ⟨rfl, by rw [← hfin.out]; exact hM.only2 (by with_reducible repeat (first | exact Sel.here | apply Sel.there)) (by with_reducible repeat (first | exact Sel.here | apply Sel.there))⟩
    · obtain ⟨x, hx, rfl⟩ := List.mem_map.1 hq
      have hI : IterD Tryz.prog 82 w1 r m (ents cur) (ents dn ++ [ent x]) := hB.get (A := Part.iterD Tryz.prog 82 r m (ents cur) (ents dn ++ [ent x])) (by with_reducible repeat (first | exact Sel.here | apply Sel.there))
      have hen := hI.entry hq
      have hnot : x ∉ dn := fun q => hd (ent x) (List.mem_map.2 ⟨x, q, rfl⟩) rfl
      obtain ⟨hn1, hn2⟩ := hL.next hx hnot
      obtain ⟨o1, o2, o3, o4⟩ := hok x (hL.sub.subset hx)
      obtain ⟨kl, hkl⟩ := keyP o1 o2 o3 o4
      have hnd : cur.Nodup := hL.sub.nodup hnde
      have hlen : dn.length < es.length := by
        cases hin : x.of n f with
        | false => have := (hn1 hin).len; simp at this; omega
        | true =>
          obtain ⟨l1, l2, e⟩ := List.append_of_mem hx
          have := (hn2 hin l1 l2 e (by rw [e] at hnd; exact notin_mid hnd)).len
          simp at this; omega
      rw [show ents dn ++ [ent x] = ents (dn ++ [x]) by simp [ents]] at hB
      clear hF hA
      have hA := hB
      simp only [ent, Ent.key, keyV, Ent.val] at hen
      unfold keyV at hkl
      have hok' := Lib.hid hok
      clear hB hI hd hq hok o1 o2 o3 o4 hnot
      have hL' := Lib.hid hL
      clear hL
      (try simp only [setL, List.set_cons_zero, List.set_cons_succ, List.cons_append, List.nil_append] at hA); (have hF := hA.facts); (try simp only [facts_cons, facts_nil, facts_cells, facts_old, facts_fact, facts_obj, facts_map, facts_iter, and_true, true_and] at hF)
      cases hin : x.of n f with
      | false =>
        have hK := Lib.hid (hn1 hin)
        have hnde' := Lib.hid hnde
        clear hn1 hn2 hnde hnd
        go_wp2_with (first | ((with_reducible show wpList _ _ _ ({ dst := _, op := Op.store _ _ _, type := _, pos := _, after := _, guard := _ } :: _) _ _); refine wpList_store_at rfl rfl rfl (by (try simp only [Act.eval, Array.getD_eq_getD_getElem?, List.getElem?_toArray, List.getElem?_cons_succ, List.getElem?_cons_zero, Option.getD_some]) <;> exact rfl) (by exact rfl) hA (by with_reducible repeat (first | exact Sel.here | apply Sel.there)) (by kernel_rfl) rfl (by first | decide | (simp; done) | omega) ?_; intro w1 hB; clear hF hA; have hA := hB; clear hB; (try simp only [setL, List.set_cons_zero, List.set_cons_succ, List.cons_append, List.nil_append] at hA); (have hF := hA.facts); (try simp only [facts_cons, facts_nil, facts_cells, facts_old, facts_fact, facts_obj, facts_map, facts_iter, and_true, true_and] at hF)) | ((with_reducible show wpList _ _ _ ({ dst := _, op := Op.box _ _, type := _, pos := _, after := _, guard := _ } :: _) _ _); refine wpList_box_at rfl rfl (by (try simp only [Act.eval, Array.getD_eq_getD_getElem?, List.getElem?_toArray, List.getElem?_cons_succ, List.getElem?_cons_zero, Option.getD_some]) <;> exact rfl) (by exact rfl) hA ?_; intro b1 w1 hB hb1; clear hF hA; have hA := hB; clear hB; (try simp only [setL, List.set_cons_zero, List.set_cons_succ, List.cons_append, List.nil_append] at hA); (have hF := hA.facts); (try simp only [facts_cons, facts_nil, facts_cells, facts_old, facts_fact, facts_obj, facts_map, facts_iter, and_true, true_and] at hF)) | ((with_reducible show wpList _ _ _ ({ dst := _, op := Op.alloc _, type := _, pos := _, after := _, guard := _ } :: _) _ _); refine wpList_alloc_at (E := 82) (z := .agg #[.string .empty, .int .u64 0, .string .empty]) (vs := [.string .empty, .int .u64 0, .string .empty]) rfl rfl (by kernel_rfl) rfl hA ?_; intro b1 w1 hB hb1; clear hF hA; have hA := hB; clear hB; (try simp only [setL, List.set_cons_zero, List.set_cons_succ, List.cons_append, List.nil_append] at hA); (have hF := hA.facts); (try simp only [facts_cons, facts_nil, facts_cells, facts_old, facts_fact, facts_obj, facts_map, facts_iter, and_true, true_and] at hF)) | ((with_reducible show wpList _ _ _ ({ dst := _, op := Op.alloc _, type := _, pos := _, after := _, guard := _ } :: _) _ _); refine wpList_alloc_at (E := 41) (z := .agg #[.string .empty, .int .u64 0, .string .empty, .int .i64 0, .int .u64 0, .int .i64 0]) (vs := [.string .empty, .int .u64 0, .string .empty, .int .i64 0, .int .u64 0, .int .i64 0]) rfl rfl (by kernel_rfl) rfl hA ?_; intro b1 w1 hB hb1; clear hF hA; have hA := hB; clear hB; (try simp only [setL, List.set_cons_zero, List.set_cons_succ, List.cons_append, List.nil_append] at hA); (have hF := hA.facts); (try simp only [facts_cons, facts_nil, facts_cells, facts_old, facts_fact, facts_obj, facts_map, facts_iter, and_true, true_and] at hF)))
        refine (drop1_any (v := []) (hA.sep1 (A := boxS bS n f) (by with_reducible repeat (first | exact Sel.here | apply Sel.there))) hin).mono ?_
        rintro e w1 ⟨rfl, hT⟩; have hB := hA.call1 (by with_reducible repeat (first | exact Sel.here | apply Sel.there)) hT; clear hF hA hT; have hA := hB; clear hB; (try simp only [setL, List.set_cons_zero, List.set_cons_succ, List.cons_append, List.nil_append] at hA); (have hF := hA.facts); (try simp only [facts_cons, facts_nil, facts_cells, facts_old, facts_fact, facts_obj, facts_map, facts_iter, and_true, true_and] at hF)
        go_wp2_with fail
        go_roundg (gk - 1)
        case measure => omega
        case rel => exact ⟨cur, dn ++ [x], hK.out, by simp; omega, hA.only2 (by with_reducible repeat (first | exact Sel.here | apply Sel.there)) (by with_reducible repeat (first | exact Sel.here | apply Sel.there))⟩
      | true =>
        obtain ⟨l1, l2, e⟩ := List.append_of_mem hx
        subst e
        have hK := Lib.hid (hn2 hin l1 l2 rfl (notin_mid hnd))
        have hnde' := Lib.hid hnde
        clear hn1 hn2 hx hnd hnde
        unfold iterE at *
        rw [ents_mid] at hA
        unfold Ent.key keyV at hA
        go_wp2_with (first | ((with_reducible show wpList _ _ _ ({ dst := _, op := Op.store _ _ _, type := _, pos := _, after := _, guard := _ } :: _) _ _); refine wpList_store_at rfl rfl rfl (by (try simp only [Act.eval, Array.getD_eq_getD_getElem?, List.getElem?_toArray, List.getElem?_cons_succ, List.getElem?_cons_zero, Option.getD_some]) <;> exact rfl) (by exact rfl) hA (by with_reducible repeat (first | exact Sel.here | apply Sel.there)) (by kernel_rfl) rfl (by first | decide | (simp; done) | omega) ?_; intro w1 hB; clear hF hA; have hA := hB; clear hB; (try simp only [setL, List.set_cons_zero, List.set_cons_succ, List.cons_append, List.nil_append] at hA); (have hF := hA.facts); (try simp only [facts_cons, facts_nil, facts_cells, facts_old, facts_fact, facts_obj, facts_map, facts_iter, and_true, true_and] at hF)) | ((with_reducible show wpList _ _ _ ({ dst := _, op := Op.box _ _, type := _, pos := _, after := _, guard := _ } :: _) _ _); refine wpList_box_at rfl rfl (by (try simp only [Act.eval, Array.getD_eq_getD_getElem?, List.getElem?_toArray, List.getElem?_cons_succ, List.getElem?_cons_zero, Option.getD_some]) <;> exact rfl) (by exact rfl) hA ?_; intro b1 w1 hB hb1; clear hF hA; have hA := hB; clear hB; (try simp only [setL, List.set_cons_zero, List.set_cons_succ, List.cons_append, List.nil_append] at hA); (have hF := hA.facts); (try simp only [facts_cons, facts_nil, facts_cells, facts_old, facts_fact, facts_obj, facts_map, facts_iter, and_true, true_and] at hF)) | ((with_reducible show wpList _ _ _ ({ dst := _, op := Op.alloc _, type := _, pos := _, after := _, guard := _ } :: _) _ _); refine wpList_alloc_at (E := 82) (z := .agg #[.string .empty, .int .u64 0, .string .empty]) (vs := [.string .empty, .int .u64 0, .string .empty]) rfl rfl (by kernel_rfl) rfl hA ?_; intro b1 w1 hB hb1; clear hF hA; have hA := hB; clear hB; (try simp only [setL, List.set_cons_zero, List.set_cons_succ, List.cons_append, List.nil_append] at hA); (have hF := hA.facts); (try simp only [facts_cons, facts_nil, facts_cells, facts_old, facts_fact, facts_obj, facts_map, facts_iter, and_true, true_and] at hF)) | ((with_reducible show wpList _ _ _ ({ dst := _, op := Op.alloc _, type := _, pos := _, after := _, guard := _ } :: _) _ _); refine wpList_alloc_at (E := 41) (z := .agg #[.string .empty, .int .u64 0, .string .empty, .int .i64 0, .int .u64 0, .int .i64 0]) (vs := [.string .empty, .int .u64 0, .string .empty, .int .i64 0, .int .u64 0, .int .i64 0]) rfl rfl (by kernel_rfl) rfl hA ?_; intro b1 w1 hB hb1; clear hF hA; have hA := hB; clear hB; (try simp only [setL, List.set_cons_zero, List.set_cons_succ, List.cons_append, List.nil_append] at hA); (have hF := hA.facts); (try simp only [facts_cons, facts_nil, facts_cells, facts_old, facts_fact, facts_obj, facts_map, facts_iter, and_true, true_and] at hF)))
        refine (drop1_any (v := []) (hA.sep1 (A := boxS bS n f) (by with_reducible repeat (first | exact Sel.here | apply Sel.there))) hin).mono ?_
        rintro e w1 ⟨rfl, hT⟩; have hB := hA.call1 (by with_reducible repeat (first | exact Sel.here | apply Sel.there)) hT; clear hF hA hT; have hA := hB; clear hB; (try simp only [setL, List.set_cons_zero, List.set_cons_succ, List.cons_append, List.nil_append] at hA); (have hF := hA.facts); (try simp only [facts_cons, facts_nil, facts_cells, facts_old, facts_fact, facts_obj, facts_map, facts_iter, and_true, true_and] at hF)
        go_wp2_with (first | (refine wpList_del_iter_at rfl rfl rfl (by (try simp only [Act.eval, Array.getD_eq_getD_getElem?, List.getElem?_toArray, List.getElem?_cons_succ, List.getElem?_cons_zero, Option.getD_some]) <;> exact rfl) hA (k := 82) (by with_reducible repeat (first | exact Sel.here | apply Sel.there)) lawP Tryz.underlying69 hkl ?_; intro w1 hB; rw [ents_app l1 l2] at hB; clear hF hA; have hA := hB; clear hB; (try simp only [setL, List.set_cons_zero, List.set_cons_succ, List.cons_append, List.nil_append] at hA); (have hF := hA.facts); (try simp only [facts_cons, facts_nil, facts_cells, facts_old, facts_fact, facts_obj, facts_map, facts_iter, and_true, true_and] at hF)))
        go_roundg (gk - 1)
        case measure => omega
        case rel => exact ⟨l1 ++ l2, dn ++ [x], hK.out, by simp; omega, hA.only2 (by with_reducible repeat (first | exact Sel.here | apply Sel.there)) (by with_reducible repeat (first | exact Sel.here | apply Sel.there))⟩
set_option maxRecDepth 100000 in
set_option maxHeartbeats 2000000 in
/-- Drop -/
theorem drop_any {w : World} {b : Bk} (h : Sep [BookP b] w) (n : Int) (f : ByteArray) (hl : b.es.length ≤ 1000000000) (hok : ∀ x ∈ b.es, x.path.size ≤ maxLen ∧ 0 ≤ x.num ∧ x.num < big64 ∧ x.foot.size ≤ maxLen) :
    Calls Tryz.prog 22 #[.pointer (some ⟨b.p, 0, none⟩), .agg #[.int .u64 n, .string f]] w fun e w' => e = .returned (.int .i64 (b.es.length - (b.st.dropAll n f).es.length)) ∧ At [BookP b] w [BookP (b.with (b.st.dropAll n f))] w' := by
  have hA := begin0 h
  have hF := hA.facts
  have hle : (b.es.filter (fun x => !x.of n f)).length ≤ b.es.length := List.length_filter_le _ _
  show Calls _ _ _ _ fun e w' => e = .returned (.int .i64 (b.es.length - (b.es.filter (fun x => !x.of n f)).length)) ∧ At [BookP b] w [BookP ⟨b.p, b.m, b.c, b.first, b.es.filter (fun x => !x.of n f), b.cs⟩] w'
  have hdel := fun (w1 : World) (bS : Nat) (q : Sep [mapC b.m (ents b.es), boxS bS n f] w1) => del_any q hok
  generalize b.es.filter (fun x => !x.of n f) = es' at *
  have e1 : (ents b.es).length = b.es.length := by simp [ents]
  have e2 : (ents es').length = es'.length := by simp [ents]
  (try simp only [setL, List.set_cons_zero, List.set_cons_succ, List.cons_append, List.nil_append] at hA); (have hF := hA.facts); (try simp only [facts_cons, facts_nil, facts_cells, facts_old, facts_fact, facts_obj, facts_map, facts_iter, and_true, true_and] at hF)
  clear h hok
  go_enter Tryz.func22, Tryz.ntmps22
  go_wp2_with (first | ((with_reducible show wpList _ _ _ ({ dst := _, op := Op.box _ _, type := _, pos := _, after := _, guard := _ } :: _) _ _); refine wpList_box_at (E := 33) rfl rfl (by (try simp only [Act.eval, Array.getD_eq_getD_getElem?, List.getElem?_toArray, List.getElem?_cons_succ, List.getElem?_cons_zero, Option.getD_some]) <;> exact rfl) (by exact rfl) hA ?_; intro bS w1 hB hbS; clear hF hA; have hA := hB; clear hB; (try simp only [setL, List.set_cons_zero, List.set_cons_succ, List.cons_append, List.nil_append] at hA); (have hF := hA.facts); (try simp only [facts_cons, facts_nil, facts_cells, facts_old, facts_fact, facts_obj, facts_map, facts_iter, and_true, true_and] at hF)) | (refine wpList_len_map_at (k := 82) (es := ents b.es) rfl rfl rfl hA (by with_reducible repeat (first | exact Sel.here | apply Sel.there)) Tryz.underlying69 ?_; rw [e1]))
  refine (hdel _ bS (hA.sep2 (A := mapC b.m (ents b.es)) (B := boxS bS n f) (by with_reducible repeat (first | exact Sel.here | apply Sel.there)) (by with_reducible repeat (first | exact Sel.here | apply Sel.there)))).mono ?_
  clear hdel
  rintro e w2 ⟨rfl, hT⟩
  have hB := hA.call2 (A := mapC b.m (ents b.es)) (B := boxS bS n f) (by with_reducible repeat (first | exact Sel.here | apply Sel.there)) (by with_reducible repeat (first | exact Sel.here | apply Sel.there)) hT
  clear hF hA hT
  have hA := hB
  clear hB
  (try simp only [setL, List.set_cons_zero, List.set_cons_succ, List.cons_append, List.nil_append] at hA); (have hF := hA.facts); (try simp only [facts_cons, facts_nil, facts_cells, facts_old, facts_fact, facts_obj, facts_map, facts_iter, and_true, true_and] at hF)
  have hw : IntKind.i64.wrap ((b.es.length : Int) - (es'.length : Int)) = (b.es.length : Int) - (es'.length : Int) := by rw [IntKind.wrap_i64] <;> omega
  go_wp2_with (first | (refine wpList_len_map_at (k := 82) (es := ents es') rfl rfl rfl hA (by with_reducible repeat (first | exact Sel.here | apply Sel.there)) Tryz.underlying69 ?_; rw [e2]))
  go_ret
  exact ⟨rfl, close0 ⟨b.p, b.m, b.c, b.first, es', b.cs⟩ hA (by with_reducible repeat (first | exact Sel.here | apply Sel.there)) (by with_reducible repeat (first | exact Sel.here | apply Sel.there)) (by with_reducible repeat (first | exact Sel.here | apply Sel.there))⟩
end Go.Proofs.YtnkddjomanaadaaGreatDoor.Lock
end
