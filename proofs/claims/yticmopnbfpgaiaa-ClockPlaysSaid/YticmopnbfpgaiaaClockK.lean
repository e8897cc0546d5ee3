/- A clock: Keep. -/
import Derived.Test.YticmopnbfpgaiaaClockW
namespace Go.Proofs.Yticmopnbfpgaiaa.Clk
open Go.RowKit
open Go.Maps (Keyed)
open _root_.Go.Proofs.Yticmopnbfpgaiaa.Mark (idV idL ltID sortID idL_len sort_len)
set_option linter.unusedSimpArgs false
set_option linter.unusedVariables false
attribute [-go_sem] run_eql_struct run_neq_struct run_eqGuard_agg
attribute [local go_sem] guardM eqlM neqM guardR eqlR neqR

abbrev boxI (b : Nat) (v : Value) : Part := .cells b [v] 51
set_option maxRecDepth 100000 in
theorem keep1_any {w : World} {R : Part} {bl : Nat} {v : Value} {l : List I2} (hR : ReadsIn R v l) (h : Sep [boxI bl v, R] w) (id : I2) (t : Int) (hmax : l.length ≤ 1000000) :
    Calls Try.prog 76 #[.agg #[.int .i64 id.1, .int .i64 id.2], .int .i64 t, .pointer (some ⟨bl, 0, none⟩)] w fun e w' => e = .returned (.bool (!(l.contains id))) ∧ At [boxI bl v, R] w [boxI bl v, R] w' := by
  have hA := At.start h
  have hF := hA.facts
  (try simp only [setL, List.set_cons_zero, List.set_cons_succ, List.cons_append, List.nil_append] at hA); (have hF := hA.facts); (try simp only [facts_cons, facts_nil, facts_cells, facts_old, facts_fact, facts_obj, facts_map, facts_iter, and_true, true_and] at hF)
  clear h
  go_enter Try.func76, Try.ntmps76
  go_wp2_with (first | (refine wpList_store_at rfl rfl rfl (by (try simp only [Act.eval, Array.getD_eq_getD_getElem?, List.getElem?_toArray, List.getElem?_cons_succ, List.getElem?_cons_zero, Option.getD_some]) <;> exact rfl) (by exact rfl) hA (by with_reducible repeat (first | exact Sel.here | apply Sel.there)) (by kernel_rfl) rfl (by first | decide | (simp; done) | omega) ?_; intro w1 hB; clear hF hA; have hA := hB; clear hB; (try simp only [setL, List.set_cons_zero, List.set_cons_succ, List.cons_append, List.nil_append] at hA); (have hF := hA.facts); (try simp only [facts_cons, facts_nil, facts_cells, facts_old, facts_fact, facts_obj, facts_map, facts_iter, and_true, true_and] at hF)) | (refine wpList_box_at rfl rfl (by (try simp only [Act.eval, Array.getD_eq_getD_getElem?, List.getElem?_toArray, List.getElem?_cons_succ, List.getElem?_cons_zero, Option.getD_some]) <;> exact rfl) (by exact rfl) hA ?_; intro b1 w1 hB hb1; clear hF hA; have hA := hB; clear hB; (try simp only [setL, List.set_cons_zero, List.set_cons_succ, List.cons_append, List.nil_append] at hA); (have hF := hA.facts); (try simp only [facts_cons, facts_nil, facts_cells, facts_old, facts_fact, facts_obj, facts_map, facts_iter, and_true, true_and] at hF)))
  refine (contains_any hR (hA.sep1 (A := R) (by with_reducible repeat (first | exact Sel.here | apply Sel.there))) id hmax).mono ?_
  rintro e w2 ⟨rfl, hT⟩
  have hB := hA.call1 (A := R) (by with_reducible repeat (first | exact Sel.here | apply Sel.there)) hT
  clear hF hA hT
  have hA := hB
  clear hB
  (try simp only [setL, List.set_cons_zero, List.set_cons_succ, List.cons_append, List.nil_append] at hA); (have hF := hA.facts); (try simp only [facts_cons, facts_nil, facts_cells, facts_old, facts_fact, facts_obj, facts_map, facts_iter, and_true, true_and] at hF)
  generalize hc : l.contains id = c
  go_wp2_with fail
  go_ret
  exact ⟨by rw [hc]; rfl, hA.only2 (by with_reducible repeat (first | exact Sel.here | apply Sel.there)) (by with_reducible repeat (first | exact Sel.here | apply Sel.there))⟩

theorem keep1_c {w : World} {R : Part} {bl : Nat} {v : Value} {l : List I2} (hR : ReadsIn R v l) (h : Sep [boxI bl v, R] w) (id : I2) (t : Int) (hmax : l.length ≤ 1000000) {c : Bool} (hc : l.contains id = c) :
    Calls Try.prog 76 #[.agg #[.int .i64 id.1, .int .i64 id.2], .int .i64 t, .pointer (some ⟨bl, 0, none⟩)] w fun e w' => e = .returned (.bool (!c)) ∧ At [boxI bl v, R] w [boxI bl v, R] w' := by
  subst hc; exact keep1_any hR h id t hmax
/-- what stands of a map while entries whose name isn't in l are taken away: of dn it is settled -/
structure Kept (mp cur dn : List WR) (l : List I2) : Prop where
  sub : cur.Sublist mp
  kept : ∀ x ∈ mp, x ∈ cur ∨ (x.1 ∉ l ∧ x ∈ dn)
  done : ∀ x ∈ cur, x ∈ dn → x.1 ∈ l
  inn : ∀ x ∈ dn, x ∈ mp
  nd : dn.Pairwise (fun x y => x.1 ≠ y.1)
theorem Kept.len {mp cur dn : List WR} {l : List I2} (h : Kept mp cur dn l) : dn.length ≤ mp.length :=
  (show dn.Nodup from h.nd.imp (fun h e => h (by rw [e]))).length_le_of_subset (fun x hx => h.inn x hx)
theorem notin_mid {l1 l2 : List WR} {x : WR} (h : (l1 ++ x :: l2).Nodup) : x ∉ l1 ++ l2 := (List.nodup_cons.1 (List.perm_middle.nodup h)).1
theorem ent_inj {x y : WR} (h : ent x = ent y) : x = y := by
  simp only [ent, Prod.mk.injEq, Value.agg.injEq, Array.mk.injEq, List.cons.injEq, Value.int.injEq, true_and, and_true] at h
  exact Prod.ext (Prod.ext h.1.1 h.1.2) h.2
theorem ent_mem {x : WR} {l : List WR} (h : ent x ∈ ents l) : x ∈ l := by
  obtain ⟨y, hy, e⟩ := List.mem_map.1 h
  rw [← ent_inj e]; exact hy
theorem Kept.next {mp cur dn : List WR} {l : List I2} (h : Kept mp cur dn l) {x : WR} (hx : x ∈ cur) (hn : ∀ q ∈ ents dn, q.1 ≠ (ent x).1) (hd : ∀ y ∈ cur, y.1 = x.1 → y = x) : (x.1 ∈ l → Kept mp cur (dn ++ [x]) l) ∧
    (x.1 ∉ l → ∀ l1 l2, cur = l1 ++ x :: l2 → x ∉ l1 ++ l2 → Kept mp (l1 ++ l2) (dn ++ [x]) l) := by
  have hpw : (dn ++ [x]).Pairwise (fun x y => x.1 ≠ y.1) := List.pairwise_append.2 ⟨h.nd, List.pairwise_singleton _ _, fun y hy z hz => by
    rw [List.mem_singleton.1 hz]
    intro e
    exact hn (ent y) (List.mem_map.2 ⟨y, hy, rfl⟩) (by simp only [ent, e])⟩
  have hdm : ∀ y ∈ dn ++ [x], y ∈ mp := fun y hy => by
    rcases List.mem_append.1 hy with hy | hy
    · exact h.inn y hy
    · rw [List.mem_singleton.1 hy]; exact h.sub.subset hx
  constructor
  · intro hl
    refine ⟨h.sub, fun y hy => ?_, fun y hy hz => ?_, hdm, hpw⟩
    · rcases h.kept y hy with q | ⟨q, r⟩
      · exact .inl q
      · exact .inr ⟨q, by simp [r]⟩
    · rcases List.mem_append.1 hz with hz | hz
      · exact h.done y hy hz
      · rw [List.mem_singleton.1 hz]; exact hl
  · intro hl l1 l2 e hne
    subst e
    refine ⟨(List.Sublist.append (List.Sublist.refl _) (List.sublist_cons_self _ _)).trans h.sub, fun y hy => ?_, fun y hy hz => ?_, hdm, hpw⟩
    · rcases h.kept y hy with q | ⟨q, r⟩
      · by_cases hyx : y = x
        · subst hyx; exact .inr ⟨hl, by simp⟩
        · left
          simp only [List.mem_append, List.mem_cons] at q ⊢
          rcases q with q | q | q
          · exact .inl q
          · exact absurd q hyx
          · exact .inr q
      · exact .inr ⟨q, by simp [r]⟩
    · rcases List.mem_append.1 hz with hz | hz
      · exact h.done y (by simp only [List.mem_append, List.mem_cons] at hy ⊢; rcases hy with hy | hy <;> simp [hy]) hz
      · rw [List.mem_singleton.1 hz] at hy; exact absurd hy hne

abbrev iterC (r b : Nat) (cur dn : List WR) : Part := .iterD Try.prog 50 r b (ents cur) (ents dn)
def DelRel (L0 : List Part) (w : World) (R : Part) (b r bl : Nat) (v : Value) (l : List I2) (mp : List WR) (k : Nat) (wr : World) : Prop :=
  ∃ cur dn : List WR, Kept mp cur dn l ∧ dn.length + k = mp.length ∧ At L0 w [iterC r b cur dn, boxI bl v, R] wr
def DelPost (w : World) (R : Part) (b bl : Nat) (v : Value) (l : List I2) (mp : List WR) (e : Ending) (w' : World) : Prop :=
  ∃ cur : List WR, e = .returned (.tuple #[]) ∧ cur.Sublist mp ∧ (∀ x, x ∈ cur ↔ x ∈ mp ∧ x.1 ∈ l) ∧ At [mapC b mp, boxI bl v, R] w [mapC b cur, boxI bl v, R] w'
set_option maxRecDepth 100000 in
theorem del_any {w : World} {R : Part} {b bl : Nat} {v : Value} {l : List I2} {mp : List WR} (hR : ReadsIn R v l) (h : Sep [mapC b mp, boxI bl v, R] w) (hok : ∀ x ∈ mp, okI x.1) (hmax : l.length ≤ 1000000) :
    Calls Try.prog 75 #[.map (some b), .func (.func 76) #[] #[.pointer (some ⟨bl, 0, none⟩)]] w (DelPost w R b bl v l mp) := by
  have hA := At.start h
  have hF := hA.facts
  (try simp only [setL, List.set_cons_zero, List.set_cons_succ, List.cons_append, List.nil_append] at hA); (have hF := hA.facts); (try simp only [facts_cons, facts_nil, facts_cells, facts_old, facts_fact, facts_obj, facts_map, facts_iter, and_true, true_and] at hF)
  clear h
  go_enter Try.func75, Try.ntmps75
  go_wp2_with (first | (refine wpList_range_at rfl rfl rfl hA (by with_reducible repeat (first | exact Sel.here | apply Sel.there)) Try.underlying147 ?_; intro r w1 hB hr; have hB := hB.rangeD (by with_reducible repeat (first | exact Sel.here | apply Sel.there)); clear hF hA; have hA := hB; clear hB; (try simp only [setL, List.set_cons_zero, List.set_cons_succ, List.cons_append, List.nil_append] at hA); (have hF := hA.facts); (try simp only [facts_cons, facts_nil, facts_cells, facts_old, facts_fact, facts_obj, facts_map, facts_iter, and_true, true_and] at hF)))
  try go_frame
  go_loopg [5] mp.length (fun k _ wr => DelRel [mapC b mp, boxI bl v, R] w R b r bl v l mp k wr)
  case atStart => exact ⟨mp, [], ⟨List.Sublist.refl _, fun x hx => .inl hx, fun x _ hx => (by cases hx), nofun, List.Pairwise.nil⟩, by simp, hA⟩
  case round =>
    obtain ⟨cur, dn, hL, hk, hB⟩ := hrel
    clear hF hA
    have hA := hB
    clear hB
    (try simp only [setL, List.set_cons_zero, List.set_cons_succ, List.cons_append, List.nil_append] at hA); (have hF := hA.facts); (try simp only [facts_cons, facts_nil, facts_cells, facts_old, facts_fact, facts_obj, facts_map, facts_iter, and_true, true_and] at hF)
    go_step
    go_step
    refine wpList_nextD_at rfl rfl rfl hA (by with_reducible repeat (first | exact Sel.here | apply Sel.there)) (fun hp => ?_) (fun q w1 hq hd hB => ?_)
    · have hM := hA.rangedD (by with_reducible repeat (first | exact Sel.here | apply Sel.there))
      have hdone : ∀ x, x ∈ cur ↔ x ∈ mp ∧ x.1 ∈ l := fun x => ⟨fun hx => ⟨hL.sub.subset hx, hL.done x hx (ent_mem (hp _ (List.mem_map.2 ⟨x, hx, rfl⟩)))⟩, fun ⟨h1, h2⟩ => by
        rcases hL.kept x h1 with q | ⟨q, _⟩
        · exact q
        · exact absurd h2 q⟩
      have hsub := hL.sub
      clear hp hL
      go_wp2_with fail
      go_end0
      exact ⟨cur, rfl, hsub, hdone, hM⟩
    · obtain ⟨x, hx, rfl⟩ := List.mem_map.1 hq
      have hI : IterD Try.prog 50 w1 r b (ents cur) (ents dn ++ [ent x]) := hB.get (A := Part.iterD Try.prog 50 r b (ents cur) (ents dn ++ [ent x])) (by with_reducible repeat (first | exact Sel.here | apply Sel.there))
      have hen := hI.entry hq
      have hpw := hI.keys
      have hone : ∀ y ∈ cur, y.1 = x.1 → y = x := fun y hy e => by
        obtain ⟨i, hi⟩ := List.mem_iff_getElem?.1 hy
        obtain ⟨j, hj⟩ := List.mem_iff_getElem?.1 hx
        have g1 : (ents cur)[i]? = some (ent y) := by simp [ents, hi]
        have g2 : (ents cur)[j]? = some (ent x) := by simp [ents, hj]
        have := apart_of hpw g1 g2 (by simp only [ent, e])
        subst this
        rw [hi] at hj
        exact Option.some.inj hj
      obtain ⟨hn1, hn2⟩ := hL.next hx hd hone
      have hokx := hok x (hL.sub.subset hx)
      obtain ⟨kl, hkl⟩ := keyI hokx
      have hnd : cur.Nodup := (List.pairwise_map.1 hpw).imp (fun h e => h (by rw [e]))
      have hlen : dn.length < mp.length := by
        by_cases hin : x.1 ∈ l
        · have := (hn1 hin).len; simp at this; omega
        · obtain ⟨l1, l2, e⟩ := List.append_of_mem hx
          have := (hn2 hin l1 l2 e (by rw [e] at hnd; exact notin_mid hnd)).len
          simp at this; omega
      rw [show ents dn ++ [ent x] = ents (dn ++ [x]) by simp [ents]] at hB
      clear hF hA
      have hA := hB
      simp only [ent] at hen
      clear hB hI hpw hone hd hq hok
      have hL' := Lib.hid hL
      clear hL
      (try simp only [setL, List.set_cons_zero, List.set_cons_succ, List.cons_append, List.nil_append] at hA); (have hF := hA.facts); (try simp only [facts_cons, facts_nil, facts_cells, facts_old, facts_fact, facts_obj, facts_map, facts_iter, and_true, true_and] at hF)
      by_cases hin : l.contains x.1 = true
      · have hK := Lib.hid (hn1 (by simpa using hin))
        clear hn1 hn2
        go_wp2_with (first | (refine wpList_store_at rfl rfl rfl (by (try simp only [Act.eval, Array.getD_eq_getD_getElem?, List.getElem?_toArray, List.getElem?_cons_succ, List.getElem?_cons_zero, Option.getD_some]) <;> exact rfl) (by exact rfl) hA (by with_reducible repeat (first | exact Sel.here | apply Sel.there)) (by kernel_rfl) rfl (by first | decide | (simp; done) | omega) ?_; intro w1 hB; clear hF hA; have hA := hB; clear hB; (try simp only [setL, List.set_cons_zero, List.set_cons_succ, List.cons_append, List.nil_append] at hA); (have hF := hA.facts); (try simp only [facts_cons, facts_nil, facts_cells, facts_old, facts_fact, facts_obj, facts_map, facts_iter, and_true, true_and] at hF)) | (refine wpList_box_at rfl rfl (by (try simp only [Act.eval, Array.getD_eq_getD_getElem?, List.getElem?_toArray, List.getElem?_cons_succ, List.getElem?_cons_zero, Option.getD_some]) <;> exact rfl) (by exact rfl) hA ?_; intro b1 w1 hB hb1; clear hF hA; have hA := hB; clear hB; (try simp only [setL, List.set_cons_zero, List.set_cons_succ, List.cons_append, List.nil_append] at hA); (have hF := hA.facts); (try simp only [facts_cons, facts_nil, facts_cells, facts_old, facts_fact, facts_obj, facts_map, facts_iter, and_true, true_and] at hF)) | (refine wpList_alloc_at (E := 50) (z := .agg #[.int .i64 0, .int .i64 0]) (vs := [.int .i64 0, .int .i64 0]) rfl rfl (by kernel_rfl) rfl hA ?_; intro b1 w1 hB hb1; clear hF hA; have hA := hB; clear hB; (try simp only [setL, List.set_cons_zero, List.set_cons_succ, List.cons_append, List.nil_append] at hA); (have hF := hA.facts); (try simp only [facts_cons, facts_nil, facts_cells, facts_old, facts_fact, facts_obj, facts_map, facts_iter, and_true, true_and] at hF)))
        refine (keep1_c hR (hA.sep2 (A := boxI bl v) (B := R) (by with_reducible repeat (first | exact Sel.here | apply Sel.there)) (by with_reducible repeat (first | exact Sel.here | apply Sel.there))) x.1 x.2 hmax hin).mono ?_
        rintro e w2 ⟨rfl, hT⟩
        have hB := hA.call2 (A := boxI bl v) (B := R) (by with_reducible repeat (first | exact Sel.here | apply Sel.there)) (by with_reducible repeat (first | exact Sel.here | apply Sel.there)) hT
        clear hF hA hT
        have hA := hB
        clear hB
        (try simp only [setL, List.set_cons_zero, List.set_cons_succ, List.cons_append, List.nil_append] at hA); (have hF := hA.facts); (try simp only [facts_cons, facts_nil, facts_cells, facts_old, facts_fact, facts_obj, facts_map, facts_iter, and_true, true_and] at hF)
        go_wp2_with fail
        go_roundg (gk - 1)
        case measure => omega
        case rel => exact ⟨cur, dn ++ [x], hK.out, by simp; omega, hA.only3 (by with_reducible repeat (first | exact Sel.here | apply Sel.there)) (by with_reducible repeat (first | exact Sel.here | apply Sel.there)) (by with_reducible repeat (first | exact Sel.here | apply Sel.there))⟩
      · have hin : l.contains x.1 = false := by simpa using hin
        obtain ⟨l1, l2, e⟩ := List.append_of_mem hx
        subst e
        have hK := Lib.hid (hn2 (by simpa using hin) l1 l2 rfl (notin_mid hnd))
        clear hn1 hn2 hx hnd
        unfold iterC at *
        rw [ents_mid] at hA
        go_wp2_with (first | (refine wpList_store_at rfl rfl rfl (by (try simp only [Act.eval, Array.getD_eq_getD_getElem?, List.getElem?_toArray, List.getElem?_cons_succ, List.getElem?_cons_zero, Option.getD_some]) <;> exact rfl) (by exact rfl) hA (by with_reducible repeat (first | exact Sel.here | apply Sel.there)) (by kernel_rfl) rfl (by first | decide | (simp; done) | omega) ?_; intro w1 hB; clear hF hA; have hA := hB; clear hB; (try simp only [setL, List.set_cons_zero, List.set_cons_succ, List.cons_append, List.nil_append] at hA); (have hF := hA.facts); (try simp only [facts_cons, facts_nil, facts_cells, facts_old, facts_fact, facts_obj, facts_map, facts_iter, and_true, true_and] at hF)) | (refine wpList_box_at rfl rfl (by (try simp only [Act.eval, Array.getD_eq_getD_getElem?, List.getElem?_toArray, List.getElem?_cons_succ, List.getElem?_cons_zero, Option.getD_some]) <;> exact rfl) (by exact rfl) hA ?_; intro b1 w1 hB hb1; clear hF hA; have hA := hB; clear hB; (try simp only [setL, List.set_cons_zero, List.set_cons_succ, List.cons_append, List.nil_append] at hA); (have hF := hA.facts); (try simp only [facts_cons, facts_nil, facts_cells, facts_old, facts_fact, facts_obj, facts_map, facts_iter, and_true, true_and] at hF)) | (refine wpList_alloc_at (E := 50) (z := .agg #[.int .i64 0, .int .i64 0]) (vs := [.int .i64 0, .int .i64 0]) rfl rfl (by kernel_rfl) rfl hA ?_; intro b1 w1 hB hb1; clear hF hA; have hA := hB; clear hB; (try simp only [setL, List.set_cons_zero, List.set_cons_succ, List.cons_append, List.nil_append] at hA); (have hF := hA.facts); (try simp only [facts_cons, facts_nil, facts_cells, facts_old, facts_fact, facts_obj, facts_map, facts_iter, and_true, true_and] at hF)))
        refine (keep1_c hR (hA.sep2 (A := boxI bl v) (B := R) (by with_reducible repeat (first | exact Sel.here | apply Sel.there)) (by with_reducible repeat (first | exact Sel.here | apply Sel.there))) x.1 x.2 hmax hin).mono ?_
        rintro e w2 ⟨rfl, hT⟩
        have hB := hA.call2 (A := boxI bl v) (B := R) (by with_reducible repeat (first | exact Sel.here | apply Sel.there)) (by with_reducible repeat (first | exact Sel.here | apply Sel.there)) hT
        clear hF hA hT
        have hA := hB
        clear hB
        (try simp only [setL, List.set_cons_zero, List.set_cons_succ, List.cons_append, List.nil_append] at hA); (have hF := hA.facts); (try simp only [facts_cons, facts_nil, facts_cells, facts_old, facts_fact, facts_obj, facts_map, facts_iter, and_true, true_and] at hF)
        go_wp2_with (first | (refine wpList_del_iter_at rfl rfl rfl (by (try simp only [Act.eval, Array.getD_eq_getD_getElem?, List.getElem?_toArray, List.getElem?_cons_succ, List.getElem?_cons_zero, Option.getD_some]) <;> exact rfl) hA (k := 50) (by with_reducible repeat (first | exact Sel.here | apply Sel.there)) lawI Try.underlying147 hkl ?_; intro w1 hB; rw [ents_app l1 l2] at hB; clear hF hA; have hA := hB; clear hB; (try simp only [setL, List.set_cons_zero, List.set_cons_succ, List.cons_append, List.nil_append] at hA); (have hF := hA.facts); (try simp only [facts_cons, facts_nil, facts_cells, facts_old, facts_fact, facts_obj, facts_map, facts_iter, and_true, true_and] at hF)))
        go_roundg (gk - 1)
        case measure => omega
        case rel => exact ⟨l1 ++ l2, dn ++ [x], hK.out, by simp; omega, hA.only3 (by with_reducible repeat (first | exact Sel.here | apply Sel.there)) (by with_reducible repeat (first | exact Sel.here | apply Sel.there)) (by with_reducible repeat (first | exact Sel.here | apply Sel.there))⟩

/-! ### Keep -/
/-- a map once a list's first names are watched -/
def KeptTo (mp mk : List WR) (l : List I2) (i : Nat) (now : Int) : Prop := ∀ x, x ∈ mk ↔ (x ∈ mp ∧ x.1 ∈ l) ∨ (x.1 ∈ l.take i ∧ x.2 = now ∧ ∀ y ∈ mp, y.1 ≠ x.1)
theorem keptTo_there {mp mk : List WR} {l : List I2} {i : Nat} {now t : Int} (h : KeptTo mp mk l i now) (hi : i < l.length) (ht : (l[i], t) ∈ mk) : KeptTo mp mk l (i + 1) now := by
  intro x
  rw [h x, List.take_succ_eq_append_getElem hi]
  simp only [List.mem_append, List.mem_singleton]
  constructor
  · rintro (q | ⟨q1, q2⟩)
    · exact .inl q
    · exact .inr ⟨.inl q1, q2⟩
  · rintro (q | ⟨q1 | q1, q2, q3⟩)
    · exact .inl q
    · exact .inr ⟨q1, q2, q3⟩
    · rcases (h _).1 ht with ⟨r1, r2⟩ | ⟨r1, r2, r3⟩
      · exact absurd q1.symm (q3 _ r1)
      · exact .inr ⟨by rw [q1]; exact r1, q2, q3⟩
theorem keptTo_new {mp mk : List WR} {l : List I2} {i : Nat} {now : Int} (h : KeptTo mp mk l i now) (hi : i < l.length) (hn : ∀ x ∈ mk, x.1 ≠ l[i]) : KeptTo mp (mk ++ [(l[i], now)]) l (i + 1) now := by
  have hno : ∀ y ∈ mp, y.1 ≠ l[i] := fun y hy e => hn y ((h y).2 (.inl ⟨hy, by rw [e]; exact List.getElem_mem hi⟩)) e
  intro x
  rw [List.take_succ_eq_append_getElem hi]
  simp only [List.mem_append, List.mem_singleton, h x]
  constructor
  · rintro ((q | ⟨q1, q2⟩) | q)
    · exact .inl q
    · exact .inr ⟨.inl q1, q2⟩
    · subst q; exact .inr ⟨.inr rfl, rfl, hno⟩
  · rintro (q | ⟨q1 | q1, q2, q3⟩)
    · exact .inl (.inl q)
    · exact .inl (.inr ⟨q1, q2, q3⟩)
    · exact .inr (Prod.ext q1 q2)
def KeepRel (L0 : List Part) (w : World) (R : Part) (p b bl : Nat) (now : Int) (v : Value) (l : List I2) (mp : List WR) (k : Nat) (u : Value) (wr : World) : Prop :=
  ∃ (i : Nat) (mk : List WR), u = .int .i64 i ∧ i + k = l.length ∧ KeptTo mp mk l i now ∧ At L0 w [clkH p b now, mapC b mk, boxI bl v, R] wr
def KeepPost (w : World) (R : Part) (p b : Nat) (now : Int) (v : Value) (l : List I2) (mp : List WR) (e : Ending) (w' : World) : Prop :=
  ∃ mk : List WR, e = .returned (.tuple #[]) ∧ KeptTo mp mk l l.length now ∧ At [clkH p b now, mapC b mp, R] w [clkH p b now, mapC b mk, R] w'
set_option maxRecDepth 100000 in
theorem keep_any {w : World} {R : Part} {p b : Nat} {now : Int} {v : Value} {l : List I2} {mp : List WR} (hR : ReadsIn R v l) (h : Sep [clkH p b now, mapC b mp, R] w) (hok : ∀ x ∈ mp, okI x.1) (hol : ∀ x ∈ l, okI x) (hmax : l.length ≤ 1000000) :
    Calls Try.prog 33 #[.pointer (some ⟨p, 0, none⟩), v] w (KeepPost w R p b now v l mp) := by
  have hA := At.start h
  have hF := hA.facts
  clear h
  obtain ⟨ax, cap, rfl, hax⟩ := hR.form (hA.get (A := R) (by with_reducible repeat (first | exact Sel.here | apply Sel.there)))
  have hR' := Lib.hid hR
  clear hR
  (try simp only [setL, List.set_cons_zero, List.set_cons_succ, List.cons_append, List.nil_append] at hA); (have hF := hA.facts); (try simp only [facts_cons, facts_nil, facts_cells, facts_old, facts_fact, facts_obj, facts_map, facts_iter, and_true, true_and] at hF)
  go_enter Try.func33, Try.ntmps33
  go_wp2_with (first | (refine wpList_store_at rfl rfl rfl (by (try simp only [Act.eval, Array.getD_eq_getD_getElem?, List.getElem?_toArray, List.getElem?_cons_succ, List.getElem?_cons_zero, Option.getD_some]) <;> exact rfl) (by exact rfl) hA (by with_reducible repeat (first | exact Sel.here | apply Sel.there)) (by kernel_rfl) rfl (by first | decide | (simp; done) | omega) ?_; intro w1 hB; clear hF hA; have hA := hB; clear hB; (try simp only [setL, List.set_cons_zero, List.set_cons_succ, List.cons_append, List.nil_append] at hA); (have hF := hA.facts); (try simp only [facts_cons, facts_nil, facts_cells, facts_old, facts_fact, facts_obj, facts_map, facts_iter, and_true, true_and] at hF)) | (refine wpList_box_at rfl rfl (by (try simp only [Act.eval, Array.getD_eq_getD_getElem?, List.getElem?_toArray, List.getElem?_cons_succ, List.getElem?_cons_zero, Option.getD_some]) <;> exact rfl) (by exact rfl) hA ?_; intro b1 w1 hB hb1; clear hF hA; have hA := hB; clear hB; (try simp only [setL, List.set_cons_zero, List.set_cons_succ, List.cons_append, List.nil_append] at hA); (have hF := hA.facts); (try simp only [facts_cons, facts_nil, facts_cells, facts_old, facts_fact, facts_obj, facts_map, facts_iter, and_true, true_and] at hF)))
  refine (del_any hR'.out (hA.sep3 (A := mapC b mp) (B := boxI b1 (.slice ax l.length cap)) (C := R) (by with_reducible repeat (first | exact Sel.here | apply Sel.there)) (by with_reducible repeat (first | exact Sel.here | apply Sel.there)) (by with_reducible repeat (first | exact Sel.here | apply Sel.there))) hok hmax).mono ?_
  rintro e w2 ⟨cur, rfl, hsub, hmem, hT⟩
  have hB := hA.call3 (A := mapC b mp) (B := boxI b1 (.slice ax l.length cap)) (C := R) (by with_reducible repeat (first | exact Sel.here | apply Sel.there)) (by with_reducible repeat (first | exact Sel.here | apply Sel.there)) (by with_reducible repeat (first | exact Sel.here | apply Sel.there)) hT
  have hK00 : KeptTo mp cur l 0 now := fun x => by rw [hmem x]; simp
  have hK0 := Lib.hid hK00
  clear hK00
  clear hF hA hT hsub hmem
  have hA := hB
  clear hB
  (try simp only [setL, List.set_cons_zero, List.set_cons_succ, List.cons_append, List.nil_append] at hA); (have hF := hA.facts); (try simp only [facts_cons, facts_nil, facts_cells, facts_old, facts_fact, facts_obj, facts_map, facts_iter, and_true, true_and] at hF)
  go_wp2_with fail
  try go_frame
  go_loopg [14] l.length (KeepRel [clkH p b now, mapC b mp, R] w R p b b1 now (.slice ax l.length cap) l mp)
  case atStart => exact ⟨0, cur, rfl, by simp, hK0.out, hA.only4 (by with_reducible repeat (first | exact Sel.here | apply Sel.there)) (by with_reducible repeat (first | exact Sel.here | apply Sel.there)) (by with_reducible repeat (first | exact Sel.here | apply Sel.there)) (by with_reducible repeat (first | exact Sel.here | apply Sel.there))⟩
  case round =>
    obtain ⟨i, mk, rfl, hik, hKT, hB⟩ := hrel
    clear hF hA
    have hA := hB
    clear hB
    have hKT' := Lib.hid hKT
    clear hKT
    by_cases hi : i < l.length
    · obtain ⟨g, off, rfl, c0, c1⟩ := hR'.out.at (hA.get (A := R) (by with_reducible repeat (first | exact Sel.here | apply Sel.there))) i hi
      have hoki := hol l[i] (List.getElem_mem hi)
      (try simp only [setL, List.set_cons_zero, List.set_cons_succ, List.cons_append, List.nil_append] at hA); (have hF := hA.facts); (try simp only [facts_cons, facts_nil, facts_cells, facts_old, facts_fact, facts_obj, facts_map, facts_iter, and_true, true_and] at hF)
      by_cases hin : ∃ t, (l[i], t) ∈ mk
      · obtain ⟨t, ht⟩ := hin
        obtain ⟨l1, l2, e⟩ := List.append_of_mem ht
        have hKn := Lib.hid (keptTo_there hKT'.out hi ht)
        subst e
        go_wp2_with (first | (refine wpList_store_at rfl rfl rfl (by (try simp only [Act.eval, Array.getD_eq_getD_getElem?, List.getElem?_toArray, List.getElem?_cons_succ, List.getElem?_cons_zero, Option.getD_some]) <;> exact rfl) (by exact rfl) hA (by with_reducible repeat (first | exact Sel.here | apply Sel.there)) (by kernel_rfl) rfl (by first | decide | (simp; done) | omega) ?_; intro w1 hB; clear hF hA; have hA := hB; clear hB; (try simp only [setL, List.set_cons_zero, List.set_cons_succ, List.cons_append, List.nil_append] at hA); (have hF := hA.facts); (try simp only [facts_cons, facts_nil, facts_cells, facts_old, facts_fact, facts_obj, facts_map, facts_iter, and_true, true_and] at hF)) | (refine wpList_box_at rfl rfl (by (try simp only [Act.eval, Array.getD_eq_getD_getElem?, List.getElem?_toArray, List.getElem?_cons_succ, List.getElem?_cons_zero, Option.getD_some]) <;> exact rfl) (by exact rfl) hA ?_; intro b1 w1 hB hb1; clear hF hA; have hA := hB; clear hB; (try simp only [setL, List.set_cons_zero, List.set_cons_succ, List.cons_append, List.nil_append] at hA); (have hF := hA.facts); (try simp only [facts_cons, facts_nil, facts_cells, facts_old, facts_fact, facts_obj, facts_map, facts_iter, and_true, true_and] at hF)) | (refine wpList_alloc_at (E := 50) (z := .agg #[.int .i64 0, .int .i64 0]) (vs := [.int .i64 0, .int .i64 0]) rfl rfl (by kernel_rfl) rfl hA ?_; intro b1 w1 hB hb1; clear hF hA; have hA := hB; clear hB; (try simp only [setL, List.set_cons_zero, List.set_cons_succ, List.cons_append, List.nil_append] at hA); (have hF := hA.facts); (try simp only [facts_cons, facts_nil, facts_cells, facts_old, facts_fact, facts_obj, facts_map, facts_iter, and_true, true_and] at hF)))
        refine (watch_there (hA.sep2 (by with_reducible repeat (first | exact Sel.here | apply Sel.there)) (by with_reducible repeat (first | exact Sel.here | apply Sel.there))) hoki).mono ?_
        rintro e w2 ⟨rfl, hT⟩
        have hB := hA.call2 (by with_reducible repeat (first | exact Sel.here | apply Sel.there)) (by with_reducible repeat (first | exact Sel.here | apply Sel.there)) hT
        clear hF hA hT
        have hA := hB
        clear hB
        (try simp only [setL, List.set_cons_zero, List.set_cons_succ, List.cons_append, List.nil_append] at hA); (have hF := hA.facts); (try simp only [facts_cons, facts_nil, facts_cells, facts_old, facts_fact, facts_obj, facts_map, facts_iter, and_true, true_and] at hF)
        go_wp2_with fail
        go_roundg (gk - 1)
        case measure => omega
        case rel => exact ⟨i + 1, _, by simp, by omega, hKn.out, hA.only4 (by with_reducible repeat (first | exact Sel.here | apply Sel.there)) (by with_reducible repeat (first | exact Sel.here | apply Sel.there)) (by with_reducible repeat (first | exact Sel.here | apply Sel.there)) (by with_reducible repeat (first | exact Sel.here | apply Sel.there))⟩
      · have hno : ∀ x ∈ mk, x.1 ≠ l[i] := fun x hx e => hin ⟨x.2, by rw [← e]; exact hx⟩
        have hKn := Lib.hid (keptTo_new hKT'.out hi hno)
        clear hin
        go_wp2_with (first | (refine wpList_store_at rfl rfl rfl (by (try simp only [Act.eval, Array.getD_eq_getD_getElem?, List.getElem?_toArray, List.getElem?_cons_succ, List.getElem?_cons_zero, Option.getD_some]) <;> exact rfl) (by exact rfl) hA (by with_reducible repeat (first | exact Sel.here | apply Sel.there)) (by kernel_rfl) rfl (by first | decide | (simp; done) | omega) ?_; intro w1 hB; clear hF hA; have hA := hB; clear hB; (try simp only [setL, List.set_cons_zero, List.set_cons_succ, List.cons_append, List.nil_append] at hA); (have hF := hA.facts); (try simp only [facts_cons, facts_nil, facts_cells, facts_old, facts_fact, facts_obj, facts_map, facts_iter, and_true, true_and] at hF)) | (refine wpList_box_at rfl rfl (by (try simp only [Act.eval, Array.getD_eq_getD_getElem?, List.getElem?_toArray, List.getElem?_cons_succ, List.getElem?_cons_zero, Option.getD_some]) <;> exact rfl) (by exact rfl) hA ?_; intro b1 w1 hB hb1; clear hF hA; have hA := hB; clear hB; (try simp only [setL, List.set_cons_zero, List.set_cons_succ, List.cons_append, List.nil_append] at hA); (have hF := hA.facts); (try simp only [facts_cons, facts_nil, facts_cells, facts_old, facts_fact, facts_obj, facts_map, facts_iter, and_true, true_and] at hF)) | (refine wpList_alloc_at (E := 50) (z := .agg #[.int .i64 0, .int .i64 0]) (vs := [.int .i64 0, .int .i64 0]) rfl rfl (by kernel_rfl) rfl hA ?_; intro b1 w1 hB hb1; clear hF hA; have hA := hB; clear hB; (try simp only [setL, List.set_cons_zero, List.set_cons_succ, List.cons_append, List.nil_append] at hA); (have hF := hA.facts); (try simp only [facts_cons, facts_nil, facts_cells, facts_old, facts_fact, facts_obj, facts_map, facts_iter, and_true, true_and] at hF)))
        refine (watch_new (hA.sep2 (by with_reducible repeat (first | exact Sel.here | apply Sel.there)) (by with_reducible repeat (first | exact Sel.here | apply Sel.there))) hoki hno).mono ?_
        rintro e w2 ⟨rfl, hT⟩
        have hB := hA.call2 (by with_reducible repeat (first | exact Sel.here | apply Sel.there)) (by with_reducible repeat (first | exact Sel.here | apply Sel.there)) hT
        clear hF hA hT hno
        have hA := hB
        clear hB
        (try simp only [setL, List.set_cons_zero, List.set_cons_succ, List.cons_append, List.nil_append] at hA); (have hF := hA.facts); (try simp only [facts_cons, facts_nil, facts_cells, facts_old, facts_fact, facts_obj, facts_map, facts_iter, and_true, true_and] at hF)
        go_wp2_with fail
        go_roundg (gk - 1)
        case measure => omega
        case rel => exact ⟨i + 1, _, by simp, by omega, hKn.out, hA.only4 (by with_reducible repeat (first | exact Sel.here | apply Sel.there)) (by with_reducible repeat (first | exact Sel.here | apply Sel.there)) (by with_reducible repeat (first | exact Sel.here | apply Sel.there)) (by with_reducible repeat (first | exact Sel.here | apply Sel.there))⟩
    · have e : i = l.length := by omega
      subst e
      go_wp2_with fail
      go_end0
      exact ⟨mk, rfl, hKT'.out, hA.only3 (by with_reducible repeat (first | exact Sel.here | apply Sel.there)) (by with_reducible repeat (first | exact Sel.here | apply Sel.there)) (by with_reducible repeat (first | exact Sel.here | apply Sel.there))⟩
end Go.Proofs.Yticmopnbfpgaiaa.Clk
