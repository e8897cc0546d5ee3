/- PathO, LockL, LockJ, joined. -/
import Derived.Test.YtalfoiodejoicaaGreatDoorJ13
import Derived.Test.YtalfoiodejoicaaGreatDoorJ19
import Derived.Lib.QuietBelow
import Derived.Sort.Grow
import Derived.Test.YtalfoiodejoicaaGreatDoorJ18
section
namespace Go.Proofs.YtalfoiodejoicaaGreatDoor.Path
open Go.RowKit
open Go.Sort (grow)
open Go.Lib (compareBytes)
set_option linter.unusedSimpArgs false
set_option linter.unusedVariables false

theorem ext_grow {w w' : World} (h : Ext w w') (hd : w.drawn ≤ w'.drawn) : ∃ q os', w' = grow (w.drewN q) os' := by
  obtain ⟨p, hp⟩ := regrown_of_below h
  refine ⟨p.d - w.drawn, p.os, ?_⟩
  have e : w'.drawn = p.d := by rw [hp]; rfl
  rw [hp]
  congr 1
  unfold World.drewN redrawn
  congr 1
  omega
theorem calls_grow {P : Program} {f : FuncId} {args : Array Value} {w : World} {v : Value} (h : Calls P f args w fun e w' => e = .returned v ∧ Ext w w') : Calls P f args w fun e w' => e = .returned v ∧ ∃ q os', w' = grow (w.drewN q) os' :=
  (calls_drawn h (fun w' hr => by cases hr.1)).mono fun e w' ⟨⟨he, hx⟩, hd⟩ => ⟨he, ext_grow hx hd⟩
theorem str_compare (p q : ByteArray) (w : World) : Calls Tryz.prog 38 #[.string p, .string q] w fun e w' => e = .returned (.int .i64 (compareBytes (bl p) (bl q))) ∧ w = w' :=
  (Tryz.strings_Compare p q w).mono fun _ _ ⟨he, hw⟩ => ⟨he, hw.symm⟩
set_option maxRecDepth 100000 in
set_option maxHeartbeats 2000000 in
theorem compareP_any (p q : ByteArray) (w : World) (hp : p.size ≤ 1000) (hq : q.size ≤ 1000) : Calls Tryz.prog 65 #[.string p, .string q] w fun e w' => e = .returned (.int .i64 (cmpP (bl p) (bl q))) ∧ Ext w w' := by
  have hA := At.start (w0 := w) (L0 := []) trivial
  have hF := hA.facts
  go_enter Tryz.func65, Tryz.ntmps65
  go_wp2_with fail
  refine (parts_any p w (by omega)).mono ?_
  rintro e w1 ⟨v, ws, rfl, hw1, hT⟩
  have hB := hA.call0 hT
  clear hF hA hT
  have hA := hB
  clear hB
  simp only [List.append_nil] at hA
  obtain ⟨ax, kn, cap, hv0, hkn⟩ := hA.row_hid (v := v) (xs := flatS ws) (by with_reducible repeat (first | exact Sel.here | apply Sel.there))
  subst hv0
  have hF := hA.facts
  (try simp only [setL, List.set_cons_zero, List.set_cons_succ, List.cons_append, List.nil_append] at hA); (have hF := hA.facts); (try simp only [facts_cons, facts_nil, facts_cells, facts_old, facts_fact, facts_obj, facts_map, facts_iter, facts_row, and_true, true_and] at hF)
  go_wp2_with fail
  refine (parts_any q w1 (by omega)).mono ?_
  rintro e w2 ⟨u, us, rfl, hw2, hT⟩
  have hB := hA.call0 hT
  clear hF hA hT
  have hA := hB
  clear hB
  simp only [List.cons_append, List.nil_append] at hA
  obtain ⟨bx, km, cbp, hu0, hkm⟩ := hA.row_hid (v := u) (xs := flatS us) (by with_reducible repeat (first | exact Sel.here | apply Sel.there))
  subst hu0
  have hF := hA.facts
  (try simp only [setL, List.set_cons_zero, List.set_cons_succ, List.cons_append, List.nil_append] at hA); (have hF := hA.facts); (try simp only [facts_cons, facts_nil, facts_cells, facts_old, facts_fact, facts_obj, facts_map, facts_iter, facts_row, and_true, true_and] at hF)
  have ek := hkn.out
  have em := hkm.out
  have hx : Ext w w2 := hA.toExt
  have hl1 : ws.length = (partsL (bl p)).length := by rw [← hw1]; simp
  have hl2 : us.length = (partsL (bl q)).length := by rw [← hw2]; simp
  by_cases hr : rightB (bl p) = true ∧ rightB (bl q) = true
  · have e1 : partsL (bl p) = splits (bl p) := by simp [partsL, hr.1]
    have e2 : partsL (bl q) = splits (bl q) := by simp [partsL, hr.2]
    have hc : cmpP (bl p) (bl q) = cmpL (ws.map bl) (us.map bl) := by rw [hw1, hw2, e1, e2]; simp [cmpP, hr]
    have n1 := splits_len (bl p)
    have n2 := splits_len (bl q)
    have m1 := splits_len_le (bl p)
    have m2 := splits_len_le (bl q)
    have z1 : (bl p).length = p.size := by simp
    have z2 : (bl q).length = q.size := by simp
    rw [e1] at hl1
    rw [e2] at hl2
    obtain rfl : kn = ws.length := ek
    obtain rfl : km = us.length := em
    obtain ⟨g1, c1, rfl, _, _, hcl1, hct1, hB⟩ := hA.row_open (ax := ax) (cap := cap) (n := ws.length) (xs := flatS ws) (by with_reducible repeat (first | exact Sel.here | apply Sel.there)) (by omega)
    obtain ⟨g2, c2, rfl, _, _, hcl2, hct2, hB2⟩ := hB.row_open (ax := bx) (cap := cbp) (n := us.length) (xs := flatS us) (by with_reducible repeat (first | exact Sel.here | apply Sel.there)) (by omega)
    have x1 : ∀ (j : Nat) x, ws[j]? = some x → w2.cell? ⟨g1, j, none⟩ = some (.string x) := fun j x hx => ((hB2.get (A := Part.cells g1 c1 9) (by with_reducible repeat (first | exact Sel.here | apply Sel.there)) : BlockIs w2 g1 c1 _).cell j).trans (flatS_at hct1 hx)
    have x2 : ∀ (j : Nat) x, us[j]? = some x → w2.cell? ⟨g2, j, none⟩ = some (.string x) := fun j x hx => ((hB2.get (A := Part.cells g2 c2 9) (by with_reducible repeat (first | exact Sel.here | apply Sel.there)) : BlockIs w2 g2 c2 _).cell j).trans (flatS_at hct2 hx)
    have hcs := compareS_any (c1 := cap) (c2 := cbp) x1 x2 (by omega) (by omega)
    have l1 : 0 < ws.length := by omega
    have l2 : 0 < us.length := by omega
    have n1' : ((ws.length : Int) == 0) = false := beq_eq_false_iff_ne.2 (by omega)
    have n2' : ((us.length : Int) == 0) = false := beq_eq_false_iff_ne.2 (by omega)
    have hc' := Lib.hid hc
    clear hc hA hB hB2 hF x1 x2 hct1 hct2 hcl1 hcl2 hw1 hw2 hl1 hl2 n1 n2 m1 m2 z1 z2 e1 e2 hr hkn hkm
    go_wp2_with fail
    refine hcs.mono ?_
    clear hcs
    rintro e _ ⟨rfl, rfl⟩
    go_wp2_with fail
    go_ret
    exact ⟨by rw [hc'.out]; rfl, hx⟩
  · have hc : cmpP (bl p) (bl q) = compareBytes (bl p) (bl q) := by simp [cmpP, hr]
    have hc' := Lib.hid hc
    have hst := str_compare p q w2
    clear hc hA hF hw1 hw2
    by_cases h1 : ws.length = 0
    · obtain rfl : kn = 0 := ek.trans h1
      clear ek em hl1 hl2 h1 hkn hkm
      go_wp2_with fail
      refine hst.mono ?_
      clear hst
      rintro e _ ⟨rfl, rfl⟩
      go_wp2_with fail
      go_ret
      exact ⟨by rw [hc'.out]; rfl, hx⟩
    · have h2 : us.length = 0 := by
        cases r1 : rightB (bl p)
        · have : partsL (bl p) = [] := by simp [partsL, r1]
          rw [this] at hl1
          exact absurd hl1 h1
        · cases r2 : rightB (bl q)
          · have : partsL (bl q) = [] := by simp [partsL, r2]
            rw [this] at hl2
            exact hl2
          · exact absurd ⟨r1, r2⟩ hr
      obtain rfl : km = 0 := em.trans h2
      have n1' : ((kn : Int) == 0) = false := beq_eq_false_iff_ne.2 (by omega)
      clear ek em hl1 hl2 h1 h2 hkn hkm hr
      go_wp2_with fail
      refine hst.mono ?_
      clear hst
      rintro e _ ⟨rfl, rfl⟩
      go_wp2_with fail
      go_ret
      exact ⟨by rw [hc'.out]; rfl, hx⟩
end Go.Proofs.YtalfoiodejoicaaGreatDoor.Path
end

section
namespace Go.Proofs.YtalfoiodejoicaaGreatDoor.Lock
open _root_.Go.Proofs.YtalfoiodejoicaaGreatDoor.Mark (holdsK_of own_sorted grownBy_sortedK orI or2 new_cell)
open Go.RowKit Go.Shelf Go.Sort
open Go.Maps (Keyed)
open Path (bl rightB overB cmpP)
set_option linter.unusedSimpArgs false
set_option linter.unusedVariables false

set_option maxRecDepth 100000 in
set_option maxHeartbeats 2000000 in
theorem list1_any (x y : Ent) (w : World) (hx : x.path.size ≤ 1000) (hy : y.path.size ≤ 1000) : Calls Tryz.prog 99 #[x.val, y.val] w fun e w' => e = .returned (.int .i64 (cmpE x y)) ∧ Ext w w' := by
  have hA : At [] w [] w := At.start (L0 := []) trivial
  have hF := hA.facts
  have hcp := fun (w1 : World) => Path.compareP_any x.path y.path w1 (by omega) (by omega)
  unfold cmpE
  generalize cmpP (bl x.path) (bl y.path) = cp at *
  have hcc := fun (w1 : World) => Tryz.cmp_Compare_int x.stamp y.stamp w1
  generalize hcs : Lib.compareInt x.stamp y.stamp = cs at *
  obtain ⟨p1, n1, f1, m1, k1, s1⟩ := x
  obtain ⟨p2, n2, f2, m2, k2, s2⟩ := y
  simp only [Ent.val] at *
  go_enter Tryz.func99, Tryz.ntmps99
  go_wp2_with (first | ((with_reducible show wpList _ _ _ ({ dst := _, op := Op.box _ _, type := _, pos := _, after := _, guard := _ } :: _) _ _); refine wpList_box_at (E := 115) rfl rfl (by (try simp only [Act.eval, Array.getD_eq_getD_getElem?, List.getElem?_toArray, List.getElem?_cons_succ, List.getElem?_cons_zero, Option.getD_some]) <;> exact rfl) (by exact rfl) hA ?_; intro bX w1 hB hbX; clear hF hA; have hA := hB; clear hB; (try simp only [setL, List.set_cons_zero, List.set_cons_succ, List.cons_append, List.nil_append] at hA); (have hF := hA.facts); (try simp only [facts_cons, facts_nil, facts_cells, facts_old, facts_fact, facts_obj, facts_map, facts_iter, and_true, true_and] at hF)))
  try go_frame
  (refine wp_region_head 10 (Cl _ _ _) (by kernel_rfl) (by kernel_rfl) (Cl.drew hA) ?_); (simp only [List.take_succ_cons, List.take_zero, List.drop_succ_cons, List.drop_zero]); (have hn1 := Cl.none hA); (have hn2 := Cl.none2 hA); (repeat (first | go_big_quiet_skip | (go_big_quiet_want; (first | (refine quiet_load_at rfl rfl (by with_reducible repeat (first | exact Sel.here | apply Sel.there)) (by kernel_rfl) (by first | assumption | exact rfl) ?_; go_frame; go_big_quiet_on) | (go_big_quiet_op; (first | go_big_quiet_on | ((apply Exists.intro); (refine ⟨fun w1 hw => ?_, ?_⟩); (focus ((have hw := Cl.out hw); (first | exact through0 hw (hcp _) | exact (hcc _).mono fun _ _ ⟨he, hq⟩ => ⟨he, hq ▸ hw⟩))); (go_big_quiet_on))))))))
  (refine wpQuiet_nil ?_); (intro w1 hB); (clear hF hA hn1 hn2); (have hA := Cl.out hB); (clear hB); (try simp only [setL, List.set_cons_zero, List.set_cons_succ, List.cons_append, List.nil_append] at hA); (have hF := hA.facts); (try simp only [facts_cons, facts_nil, facts_cells, facts_old, facts_fact, facts_obj, facts_map, facts_iter, and_true, true_and] at hF)
  clear hcp hcc
  have hB := hA.alloc [.int .i64 cp, .int .i64 cs] 3
  have hx1 := hA.toExt
  go_wp2_with fail
  refine (or2 cp cs _ _ ?h0 ?h1).mono ?_
  case h0 => exact new_cell _ _ (by simp) _ _ _ _ rfl
  case h1 => exact new_cell _ _ (by simp) _ _ _ _ rfl
  rintro e _ ⟨rfl, rfl⟩
  go_wp2_with fail
  go_ret
  exact ⟨rfl, hx1.alloc _⟩

section
variable {es : List Ent} (H : Sortable es)
theorem encI_len (x : EntI es) : (encI es x).length = 6 := rfl
theorem encI_one (x : EntI es) : ∀ v ∈ encI es x, v.oneCell' = true := by
  intro u hu
  simp only [encI, Ent.cells, List.mem_cons, List.not_mem_nil, or_false] at hu
  rcases hu with rfl | rfl | rfl | rfl | rfl | rfl <;> rfl
theorem cmpLaysI [Inhabited (EntI es)] (hs : ∀ e ∈ es, e.path.size ≤ 1000) (blk off size : Nat) (w : World) : CmpLays Tryz.prog 99 #[] (encI es) 6 (cmpI es) blk off size w :=
  fun _ _ _ _ x y => Path.calls_grow (list1_any x.1 y.1 _ (hs _ x.2) (hs _ y.2))
end
abbrev rowL (v : Value) (l : List Ent) : Part := .row 115 6 v l.length (l.flatMap Ent.cells)
def ListPost (w : World) (b : Bk) (e : Ending) (w' : World) : Prop := ∃ (v : Value) (l : List Ent), e = .returned v ∧ l.Perm b.es ∧ l.Pairwise ltE ∧ At [BookP b] w [rowL v l, BookP b] w'
theorem nodup_es {es : List Ent} (h : es.Pairwise (fun a b => a.key ≠ b.key)) : es.Nodup := h.imp (fun h e => h (by rw [e]))
set_option maxRecDepth 100000 in
set_option maxHeartbeats 2000000 in
theorem list_any {w : World} {b : Bk} (h : Sep [BookP b] w) (H : Sortable b.es) (hmax : b.es.length ≤ 1000000) (hs : ∀ e ∈ b.es, e.path.size ≤ 1000) :
    Calls Tryz.prog 58 #[.pointer (some ⟨b.p, 0, none⟩)] w (ListPost w b) := by
  have hA := begin0 h
  have hkeys := keys_of (MapAt.keys (hA.get (A := mapC b.m (ents b.es)) (by with_reducible repeat (first | exact Sel.here | apply Sel.there))))
  have hnd := nodup_es hkeys
  have hF := hA.facts
  (try simp only [setL, List.set_cons_zero, List.set_cons_succ, List.cons_append, List.nil_append] at hA); (have hF := hA.facts); (try simp only [facts_cons, facts_nil, facts_cells, facts_old, facts_fact, facts_obj, facts_map, facts_iter, and_true, true_and] at hF)
  clear h hkeys
  go_enter Tryz.func58, Tryz.ntmps58
  go_wp2_with fail
  refine (callsIn_wide.1 (vals_in Fence.wide 1 trivial rfl (some b.m) w)).mono ?_
  rintro e _ ⟨rfl, rfl⟩
  have hB := hA.alloc [.map (some b.m)] 120
  go_wp2_with fail
  refine (collect_vals w.heap.size b.m (ents b.es) b.es (by simp [ents, ent]) _ (by simp) ((BlockIs.alloc w [.map (some b.m)] 120).cell 0) (hB.get (A := mapC b.m (ents b.es)) (by with_reducible repeat (first | exact Sel.here | apply Sel.there))) (by omega)).mono ?_
  rintro e w1 ⟨v, ss, rfl, hp, hrow, hnil, hb⟩
  have hC := hB.row_new hb hrow
  have hB2 := fold0 b hC (by with_reducible repeat (first | exact Sel.here | apply Sel.there)) (by with_reducible repeat (first | exact Sel.here | apply Sel.there)) (by with_reducible repeat (first | exact Sel.here | apply Sel.there))
  have hC2 := hB2.only2 (A := rowL v ss) (B := BookP b) (by repeat (first | exact Sel.here | apply Sel.there)) (by repeat (first | exact Sel.here | apply Sel.there))
  have hll := hp.length_eq
  clear hF hA hB hC hB2
  rcases hrow.2 with ⟨rfl, hz⟩ | ⟨gb, cap, cur, rfl, hbase, hgb, r1, r2, r3, r4⟩
  · have hss : ss = [] := List.eq_nil_of_length_eq_zero hz
    subst hss
    have hS : Calls Tryz.prog 98 #[.slice none 0 0, .func (.func 99) #[] #[]] w1 fun e w' => e = .returned (.tuple #[]) ∧ w' = w1 := AnyF.slices_SortFunc_none Tryz.sort98 none 0 _ w1
    go_wp2_with fail
    refine hS.mono ?_
    rintro e _ ⟨rfl, rfl⟩
    go_wp2_with fail
    go_ret
    exact ⟨_, [], rfl, hp, .nil, hC2⟩
  · have hsub : ∀ x ∈ ss, x ∈ b.es := fun x hx => hp.mem_iff.1 hx
    have htm := toI_map ss hsub
    obtain ⟨ti, hti⟩ : ∃ ti, toI ss hsub = ti := ⟨_, rfl⟩
    rw [hti] at htm
    have htl : ti.length = ss.length := by rw [← htm]; simp
    have hflat : ti.flatMap (encI b.es) = ss.flatMap Ent.cells := by rw [encI_flat, htm]
    have htn : ti.Nodup := by
      have : (ti.map (·.1)).Nodup := by rw [htm]; exact hp.nodup_iff.2 hnd
      exact (List.pairwise_map.1 this).imp (fun q e => q (by rw [e]))
    have hne : ss ≠ [] := fun e => by have := hnil.2 e; cases this
    have hpos : 0 < ss.length := List.length_pos_iff.2 hne
    haveI : Inhabited (EntI b.es) := ⟨⟨ss[0]'hpos, hsub _ (List.getElem_mem _)⟩⟩
    have hH : HoldsK (encI b.es) 6 w1 gb 0 ti.toArray := holdsK_of (encI b.es) 6 encI_len hgb (by rw [htl, hflat]; exact r4)
    have hgl : gb < w1.heap.size := (Array.getElem?_eq_some_iff.1 hgb).1
    have hsz : ti.toArray.size < 4611686018427387904 := by simp; omega
    have hS : Calls Tryz.prog 98 #[.slice (some ⟨gb, 0, none⟩) ti.length cap, .func (.func 99) #[] #[]] w1 fun e w' => e = .returned (.tuple #[]) ∧ ∃ n os, w' = sortWorldK (encI b.es) 6 w1 gb 0 n (sortI H ti).toArray os :=
      AnyQ.slices_SortFunc_total Tryz.sort98 6 Tryz.isAgg115 Tryz.sizeOf115 (encI b.es) encI_len encI_one (cmpI b.es) (swoI H) 99 #[] gb 0 cap ti.toArray w1 (enters_of Tryz.func99 (by kernel_rfl) rfl) (cmpLaysI hs _ _ _ _) hH hgl hsz (totI H)
    rw [htl] at hS
    have htl' := Lib.hid htl
    clear hll hmax htl
    go_wp2_with fail
    refine hS.mono ?_
    rintro e _ ⟨rfl, nn, os, rfl⟩
    go_wp2_with fail
    go_ret
    have hown := own_sorted (encI b.es) 6 encI_len (w := w1) (base := 0) (cap := cap) (n := nn) (os := os) (sortI_len H ti) (Nat.zero_le _) hgb (by rw [htl'.out]; exact r1) r2 r3
    have hlt := sortI_lt H ti htn
    have hlp : ((sortI H ti).map (fun x : EntI b.es => x.1)).Perm ss := by
      have := (sortI_perm H ti).map (fun x : EntI b.es => x.1)
      rwa [htm] at this
    rw [encI_flat, htl'.out, ← hlp.length_eq] at hown
    generalize (sortI H ti).map (fun x : EntI b.es => x.1) = l at *
    have hD := hC2.turn (A := rowL (.slice (some ⟨gb, 0, none⟩) ss.length cap) ss) .here (rowL (.slice (some ⟨gb, 0, none⟩) l.length cap) l) hown (fun b hb => .inl hb) (exc_grown (grownBy_sortedK _))
    refine ⟨_, l, ?_, hlp.trans hp, hlt, hD⟩
    rw [hlp.length_eq]
    rfl
end Go.Proofs.YtalfoiodejoicaaGreatDoor.Lock
end

section
namespace Go.Proofs.YtalfoiodejoicaaGreatDoor.Lock
open Go.RowKit
open Go.Maps (Keyed)
open Path (bl rightB overB)
set_option linter.unusedSimpArgs false
set_option linter.unusedVariables false
attribute [-go_sem] run_eql_struct run_neq_struct run_eqGuard_agg
attribute [local go_sem] guardS eqlS

/-- what stands of a list while those that D tells are taken away: of dn it is settled -/
structure Kept (es cur dn : List Ent) (D : Ent → Bool) : Prop where
  sub : cur.Sublist es
  kept : ∀ x ∈ es, x ∈ cur ∨ (D x = true ∧ x ∈ dn)
  done : ∀ x ∈ cur, x ∈ dn → D x = false
  inn : ∀ x ∈ dn, x ∈ es
  nd : dn.Nodup
theorem Kept.len {es cur dn : List Ent} {D : Ent → Bool} (h : Kept es cur dn D) : dn.length ≤ es.length := h.nd.length_le_of_subset (fun x hx => h.inn x hx)
theorem notin_mid {l1 l2 : List Ent} {x : Ent} (h : (l1 ++ x :: l2).Nodup) : x ∉ l1 ++ l2 := (List.nodup_cons.1 (List.perm_middle.nodup h)).1
theorem Kept.next {es cur dn : List Ent} {D : Ent → Bool} (h : Kept es cur dn D) {x : Ent} (hx : x ∈ cur) (hn : x ∉ dn) : (D x = false → Kept es cur (dn ++ [x]) D) ∧
    (D x = true → ∀ l1 l2, cur = l1 ++ x :: l2 → x ∉ l1 ++ l2 → Kept es (l1 ++ l2) (dn ++ [x]) D) := by
  have hpw : (dn ++ [x]).Nodup := List.nodup_append.2 ⟨h.nd, by simp, fun a ha c hc => by rw [List.mem_singleton.1 hc]; intro e; subst e; exact hn ha⟩
  have hdm : ∀ y ∈ dn ++ [x], y ∈ es := fun y hy => by
    rcases List.mem_append.1 hy with hy | hy
    · exact h.inn y hy
    · rw [List.mem_singleton.1 hy]; exact h.sub.subset hx
  constructor
  · intro hl
    refine ⟨h.sub, fun y hy => ?_, fun y hy hz => ?_, hdm, hpw⟩
    · rcases h.kept y hy with q | ⟨q, r⟩
      · exact .inl q
      · exact .inr ⟨q, by simp [r]⟩
    · rcases List.mem_append.1 hz with hz | hz
      · exact h.done y hy hz
      · rw [List.mem_singleton.1 hz]; exact hl
  · intro hl l1 l2 e hne
    subst e
    refine ⟨(List.Sublist.append (List.Sublist.refl _) (List.sublist_cons_self _ _)).trans h.sub, fun y hy => ?_, fun y hy hz => ?_, hdm, hpw⟩
    · rcases h.kept y hy with q | ⟨q, r⟩
      · by_cases hyx : y = x
        · subst hyx; exact .inr ⟨hl, by simp⟩
        · left
          simp only [List.mem_append, List.mem_cons] at q ⊢
          rcases q with q | q | q
          · exact .inl q
          · exact absurd q hyx
          · exact .inr q
      · exact .inr ⟨q, by simp [r]⟩
    · rcases List.mem_append.1 hz with hz | hz
      · exact h.done y (by simp only [List.mem_append, List.mem_cons] at hy ⊢; rcases hy with hy | hy <;> simp [hy]) hz
      · rw [List.mem_singleton.1 hz] at hy; exact absurd hy hne
theorem Kept.end {es cur dn : List Ent} {D : Ent → Bool} (h : Kept es cur dn D) (hnd : es.Nodup) (hall : ∀ x ∈ cur, x ∈ dn) : cur = es.filter (fun x => !D x) := by
  have hs : cur.Sublist (es.filter (fun x => !D x)) := by
    have := h.sub.filter (fun x => !D x)
    rwa [List.filter_eq_self.2 (fun x hx => by rw [h.done x hx (hall x hx)]; rfl)] at this
  refine hs.eq_of_length ?_
  refine (List.Perm.length_eq ?_)
  refine (List.perm_ext_iff_of_nodup (h.sub.nodup hnd) (hnd.sublist List.filter_sublist)).2 fun x => ?_
  rw [List.mem_filter]
  constructor
  · intro hx
    exact ⟨h.sub.subset hx, by rw [h.done x hx (hall x hx)]; rfl⟩
  · rintro ⟨h1, h2⟩
    rcases h.kept x h1 with q | ⟨q, _⟩
    · exact q
    · rw [q] at h2; cases h2
theorem ents_mid (l1 l2 : List Ent) (e : Ent) : ents (l1 ++ e :: l2) = ents l1 ++ (e.key, e.val) :: ents l2 := by simp [ents, ent]
theorem ents_app (l1 l2 : List Ent) : ents l1 ++ ents l2 = ents (l1 ++ l2) := by simp [ents]

set_option maxRecDepth 100000 in
theorem drop1_any {w : World} {bS : Nat} {n k : Int} {f p g : ByteArray} {v : List Value} (h : Sep [boxS bS n f] w) {c : Bool} (hc : decide (k = n ∧ g = f) = c) {c1 c2 c3 c4 c5 c6 : Value} :
    Calls Tryz.prog 95 #[.agg #[.string p, .int .u64 k, .string g], .agg #[c1, c2, c3, c4, c5, c6], .pointer (some ⟨bS, 0, none⟩)] w fun e w' => e = .returned (.bool c) ∧ At [boxS bS n f] w [boxS bS n f] w' := by
  have hA := At.start h
  have hF := hA.facts
  (try simp only [setL, List.set_cons_zero, List.set_cons_succ, List.cons_append, List.nil_append] at hA); (have hF := hA.facts); (try simp only [facts_cons, facts_nil, facts_cells, facts_old, facts_fact, facts_obj, facts_map, facts_iter, and_true, true_and] at hF)
  clear h
  have hc' := Lib.hid hc
  clear hc
  go_enter Tryz.func95, Tryz.ntmps95
  go_wp2_with (first | ((with_reducible show wpList _ _ _ ({ dst := _, op := Op.store _ _ _, type := _, pos := _, after := _, guard := _ } :: _) _ _); refine wpList_store_at rfl rfl rfl (by (try simp only [Act.eval, Array.getD_eq_getD_getElem?, List.getElem?_toArray, List.getElem?_cons_succ, List.getElem?_cons_zero, Option.getD_some]) <;> exact rfl) (by exact rfl) hA (by with_reducible repeat (first | exact Sel.here | apply Sel.there)) (by kernel_rfl) rfl (by first | decide | (simp; done) | omega) ?_; intro w1 hB; clear hF hA; have hA := hB; clear hB; (try simp only [setL, List.set_cons_zero, List.set_cons_succ, List.cons_append, List.nil_append] at hA); (have hF := hA.facts); (try simp only [facts_cons, facts_nil, facts_cells, facts_old, facts_fact, facts_obj, facts_map, facts_iter, and_true, true_and] at hF)) | ((with_reducible show wpList _ _ _ ({ dst := _, op := Op.box _ _, type := _, pos := _, after := _, guard := _ } :: _) _ _); refine wpList_box_at rfl rfl (by (try simp only [Act.eval, Array.getD_eq_getD_getElem?, List.getElem?_toArray, List.getElem?_cons_succ, List.getElem?_cons_zero, Option.getD_some]) <;> exact rfl) (by exact rfl) hA ?_; intro b1 w1 hB hb1; clear hF hA; have hA := hB; clear hB; (try simp only [setL, List.set_cons_zero, List.set_cons_succ, List.cons_append, List.nil_append] at hA); (have hF := hA.facts); (try simp only [facts_cons, facts_nil, facts_cells, facts_old, facts_fact, facts_obj, facts_map, facts_iter, and_true, true_and] at hF)))
  go_ret
  exact ⟨by rw [← hc'.out, Bool.decide_and]; rfl, hA.only1 (by with_reducible repeat (first | exact Sel.here | apply Sel.there))⟩
abbrev iterE (r b : Nat) (cur dn : List Ent) : Part := .iterD Tryz.prog 160 r b (ents cur) (ents dn)
def DelRel (L0 : List Part) (w : World) (m r bS : Nat) (n : Int) (f : ByteArray) (es : List Ent) (k : Nat) (wr : World) : Prop :=
  ∃ cur dn : List Ent, Kept es cur dn (·.of n f) ∧ dn.length + k = es.length ∧ At L0 w [iterE r m cur dn, boxS bS n f] wr
set_option maxRecDepth 100000 in
set_option maxHeartbeats 2000000 in
theorem del_any {w : World} {m bS : Nat} {n : Int} {f : ByteArray} {es : List Ent} (h : Sep [mapC m (ents es), boxS bS n f] w) (hok : ∀ x ∈ es, x.path.size ≤ maxLen ∧ 0 ≤ x.num ∧ x.num < big64 ∧ x.foot.size ≤ maxLen) :
    Calls Tryz.prog 94 #[.map (some m), .func (.func 95) #[] #[.pointer (some ⟨bS, 0, none⟩)]] w fun e w' => e = .returned (.tuple #[]) ∧ At [mapC m (ents es), boxS bS n f] w [mapC m (ents (es.filter (fun x => !x.of n f))), boxS bS n f] w' := by
  have hA := At.start h
  have hkeys := keys_of (MapAt.keys (hA.get (A := mapC m (ents es)) (by with_reducible repeat (first | exact Sel.here | apply Sel.there))))
  have hnde : es.Nodup := hkeys.imp (fun h e => h (by rw [e]))
  have hF := hA.facts
  (try simp only [setL, List.set_cons_zero, List.set_cons_succ, List.cons_append, List.nil_append] at hA); (have hF := hA.facts); (try simp only [facts_cons, facts_nil, facts_cells, facts_old, facts_fact, facts_obj, facts_map, facts_iter, and_true, true_and] at hF)
  clear h hkeys
  go_enter Tryz.func94, Tryz.ntmps94
  go_wp2_with (first | (refine wpList_range_at rfl rfl rfl hA (by with_reducible repeat (first | exact Sel.here | apply Sel.there)) Tryz.underlying120 ?_; intro r w1 hB hr; have hB := hB.rangeD (by with_reducible repeat (first | exact Sel.here | apply Sel.there)); clear hF hA; have hA := hB; clear hB; (try simp only [setL, List.set_cons_zero, List.set_cons_succ, List.cons_append, List.nil_append] at hA); (have hF := hA.facts); (try simp only [facts_cons, facts_nil, facts_cells, facts_old, facts_fact, facts_obj, facts_map, facts_iter, and_true, true_and] at hF)))
  try go_frame
  go_loopg [5] es.length (fun k _ wr => DelRel [mapC m (ents es), boxS bS n f] w m r bS n f es k wr)
  case atStart => exact ⟨es, [], ⟨List.Sublist.refl _, fun x hx => .inl hx, fun x _ hx => (by cases hx), nofun, List.nodup_nil⟩, by simp, hA⟩
  case round =>
    obtain ⟨cur, dn, hL, hk, hB⟩ := hrel
    clear hF hA
    have hA := hB
    clear hB
    (try simp only [setL, List.set_cons_zero, List.set_cons_succ, List.cons_append, List.nil_append] at hA); (have hF := hA.facts); (try simp only [facts_cons, facts_nil, facts_cells, facts_old, facts_fact, facts_obj, facts_map, facts_iter, and_true, true_and] at hF)
    go_step
    go_step
    refine wpList_nextD_at rfl rfl rfl hA (by with_reducible repeat (first | exact Sel.here | apply Sel.there)) (fun hp => ?_) (fun q w1 hq hd hB => ?_)
    · have hM := hA.rangedD (by with_reducible repeat (first | exact Sel.here | apply Sel.there))
      have hfin := Lib.hid (hL.end hnde (fun x hx => ent_mem (hp _ (List.mem_map.2 ⟨x, hx, rfl⟩))))
      clear hp hL
      go_wp2_with fail
      go_end0
      exact ⟨rfl, by rw [← hfin.out]; exact hM.only2 (by with_reducible repeat (first | exact Sel.here | apply Sel.there)) (by with_reducible repeat (first | exact Sel.here | apply Sel.there))⟩
    · obtain ⟨x, hx, rfl⟩ := List.mem_map.1 hq
      have hI : IterD Tryz.prog 160 w1 r m (ents cur) (ents dn ++ [ent x]) := hB.get (A := Part.iterD Tryz.prog 160 r m (ents cur) (ents dn ++ [ent x])) (by with_reducible repeat (first | exact Sel.here | apply Sel.there))
      have hen := hI.entry hq
      have hnot : x ∉ dn := fun q => hd (ent x) (List.mem_map.2 ⟨x, q, rfl⟩) rfl
      obtain ⟨hn1, hn2⟩ := hL.next hx hnot
      obtain ⟨o1, o2, o3, o4⟩ := hok x (hL.sub.subset hx)
      obtain ⟨kl, hkl⟩ := keyP o1 o2 o3 o4
      have hnd : cur.Nodup := hL.sub.nodup hnde
      have hlen : dn.length < es.length := by
        cases hin : x.of n f with
        | false => have := (hn1 hin).len; simp at this; omega
        | true =>
          obtain ⟨l1, l2, e⟩ := List.append_of_mem hx
          have := (hn2 hin l1 l2 e (by rw [e] at hnd; exact notin_mid hnd)).len
          simp at this; omega
      rw [show ents dn ++ [ent x] = ents (dn ++ [x]) by simp [ents]] at hB
      clear hF hA
      have hA := hB
      simp only [ent, Ent.key, keyV, Ent.val] at hen
      unfold keyV at hkl
      have hok' := Lib.hid hok
      clear hB hI hd hq hok o1 o2 o3 o4 hnot
      have hL' := Lib.hid hL
      clear hL
      (try simp only [setL, List.set_cons_zero, List.set_cons_succ, List.cons_append, List.nil_append] at hA); (have hF := hA.facts); (try simp only [facts_cons, facts_nil, facts_cells, facts_old, facts_fact, facts_obj, facts_map, facts_iter, and_true, true_and] at hF)
      cases hin : x.of n f with
      | false =>
        have hK := Lib.hid (hn1 hin)
        have hnde' := Lib.hid hnde
        clear hn1 hn2 hnde hnd
        go_wp2_with (first | ((with_reducible show wpList _ _ _ ({ dst := _, op := Op.store _ _ _, type := _, pos := _, after := _, guard := _ } :: _) _ _); refine wpList_store_at rfl rfl rfl (by (try simp only [Act.eval, Array.getD_eq_getD_getElem?, List.getElem?_toArray, List.getElem?_cons_succ, List.getElem?_cons_zero, Option.getD_some]) <;> exact rfl) (by exact rfl) hA (by with_reducible repeat (first | exact Sel.here | apply Sel.there)) (by kernel_rfl) rfl (by first | decide | (simp; done) | omega) ?_; intro w1 hB; clear hF hA; have hA := hB; clear hB; (try simp only [setL, List.set_cons_zero, List.set_cons_succ, List.cons_append, List.nil_append] at hA); (have hF := hA.facts); (try simp only [facts_cons, facts_nil, facts_cells, facts_old, facts_fact, facts_obj, facts_map, facts_iter, and_true, true_and] at hF)) | ((with_reducible show wpList _ _ _ ({ dst := _, op := Op.box _ _, type := _, pos := _, after := _, guard := _ } :: _) _ _); refine wpList_box_at rfl rfl (by (try simp only [Act.eval, Array.getD_eq_getD_getElem?, List.getElem?_toArray, List.getElem?_cons_succ, List.getElem?_cons_zero, Option.getD_some]) <;> exact rfl) (by exact rfl) hA ?_; intro b1 w1 hB hb1; clear hF hA; have hA := hB; clear hB; (try simp only [setL, List.set_cons_zero, List.set_cons_succ, List.cons_append, List.nil_append] at hA); (have hF := hA.facts); (try simp only [facts_cons, facts_nil, facts_cells, facts_old, facts_fact, facts_obj, facts_map, facts_iter, and_true, true_and] at hF)) | ((with_reducible show wpList _ _ _ ({ dst := _, op := Op.alloc _, type := _, pos := _, after := _, guard := _ } :: _) _ _); refine wpList_alloc_at (E := 160) (z := .agg #[.string .empty, .int .u64 0, .string .empty]) (vs := [.string .empty, .int .u64 0, .string .empty]) rfl rfl (by kernel_rfl) rfl hA ?_; intro b1 w1 hB hb1; clear hF hA; have hA := hB; clear hB; (try simp only [setL, List.set_cons_zero, List.set_cons_succ, List.cons_append, List.nil_append] at hA); (have hF := hA.facts); (try simp only [facts_cons, facts_nil, facts_cells, facts_old, facts_fact, facts_obj, facts_map, facts_iter, and_true, true_and] at hF)) | ((with_reducible show wpList _ _ _ ({ dst := _, op := Op.alloc _, type := _, pos := _, after := _, guard := _ } :: _) _ _); refine wpList_alloc_at (E := 115) (z := .agg #[.string .empty, .int .u64 0, .string .empty, .int .i64 0, .int .u64 0, .int .i64 0]) (vs := [.string .empty, .int .u64 0, .string .empty, .int .i64 0, .int .u64 0, .int .i64 0]) rfl rfl (by kernel_rfl) rfl hA ?_; intro b1 w1 hB hb1; clear hF hA; have hA := hB; clear hB; (try simp only [setL, List.set_cons_zero, List.set_cons_succ, List.cons_append, List.nil_append] at hA); (have hF := hA.facts); (try simp only [facts_cons, facts_nil, facts_cells, facts_old, facts_fact, facts_obj, facts_map, facts_iter, and_true, true_and] at hF)))
        refine (drop1_any (v := []) (hA.sep1 (A := boxS bS n f) (by with_reducible repeat (first | exact Sel.here | apply Sel.there))) hin).mono ?_
        rintro e w1 ⟨rfl, hT⟩; have hB := hA.call1 (by with_reducible repeat (first | exact Sel.here | apply Sel.there)) hT; clear hF hA hT; have hA := hB; clear hB; (try simp only [setL, List.set_cons_zero, List.set_cons_succ, List.cons_append, List.nil_append] at hA); (have hF := hA.facts); (try simp only [facts_cons, facts_nil, facts_cells, facts_old, facts_fact, facts_obj, facts_map, facts_iter, and_true, true_and] at hF)
        go_wp2_with fail
        go_roundg (gk - 1)
        case measure => omega
        case rel => exact ⟨cur, dn ++ [x], hK.out, by simp; omega, hA.only2 (by with_reducible repeat (first | exact Sel.here | apply Sel.there)) (by with_reducible repeat (first | exact Sel.here | apply Sel.there))⟩
      | true =>
        obtain ⟨l1, l2, e⟩ := List.append_of_mem hx
        subst e
        have hK := Lib.hid (hn2 hin l1 l2 rfl (notin_mid hnd))
        have hnde' := Lib.hid hnde
        clear hn1 hn2 hx hnd hnde
        unfold iterE at *
        rw [ents_mid] at hA
        unfold Ent.key keyV at hA
        go_wp2_with (first | ((with_reducible show wpList _ _ _ ({ dst := _, op := Op.store _ _ _, type := _, pos := _, after := _, guard := _ } :: _) _ _); refine wpList_store_at rfl rfl rfl (by (try simp only [Act.eval, Array.getD_eq_getD_getElem?, List.getElem?_toArray, List.getElem?_cons_succ, List.getElem?_cons_zero, Option.getD_some]) <;> exact rfl) (by exact rfl) hA (by with_reducible repeat (first | exact Sel.here | apply Sel.there)) (by kernel_rfl) rfl (by first | decide | (simp; done) | omega) ?_; intro w1 hB; clear hF hA; have hA := hB; clear hB; (try simp only [setL, List.set_cons_zero, List.set_cons_succ, List.cons_append, List.nil_append] at hA); (have hF := hA.facts); (try simp only [facts_cons, facts_nil, facts_cells, facts_old, facts_fact, facts_obj, facts_map, facts_iter, and_true, true_and] at hF)) | ((with_reducible show wpList _ _ _ ({ dst := _, op := Op.box _ _, type := _, pos := _, after := _, guard := _ } :: _) _ _); refine wpList_box_at rfl rfl (by (try simp only [Act.eval, Array.getD_eq_getD_getElem?, List.getElem?_toArray, List.getElem?_cons_succ, List.getElem?_cons_zero, Option.getD_some]) <;> exact rfl) (by exact rfl) hA ?_; intro b1 w1 hB hb1; clear hF hA; have hA := hB; clear hB; (try simp only [setL, List.set_cons_zero, List.set_cons_succ, List.cons_append, List.nil_append] at hA); (have hF := hA.facts); (try simp only [facts_cons, facts_nil, facts_cells, facts_old, facts_fact, facts_obj, facts_map, facts_iter, and_true, true_and] at hF)) | ((with_reducible show wpList _ _ _ ({ dst := _, op := Op.alloc _, type := _, pos := _, after := _, guard := _ } :: _) _ _); refine wpList_alloc_at (E := 160) (z := .agg #[.string .empty, .int .u64 0, .string .empty]) (vs := [.string .empty, .int .u64 0, .string .empty]) rfl rfl (by kernel_rfl) rfl hA ?_; intro b1 w1 hB hb1; clear hF hA; have hA := hB; clear hB; (try simp only [setL, List.set_cons_zero, List.set_cons_succ, List.cons_append, List.nil_append] at hA); (have hF := hA.facts); (try simp only [facts_cons, facts_nil, facts_cells, facts_old, facts_fact, facts_obj, facts_map, facts_iter, and_true, true_and] at hF)) | ((with_reducible show wpList _ _ _ ({ dst := _, op := Op.alloc _, type := _, pos := _, after := _, guard := _ } :: _) _ _); refine wpList_alloc_at (E := 115) (z := .agg #[.string .empty, .int .u64 0, .string .empty, .int .i64 0, .int .u64 0, .int .i64 0]) (vs := [.string .empty, .int .u64 0, .string .empty, .int .i64 0, .int .u64 0, .int .i64 0]) rfl rfl (by kernel_rfl) rfl hA ?_; intro b1 w1 hB hb1; clear hF hA; have hA := hB; clear hB; (try simp only [setL, List.set_cons_zero, List.set_cons_succ, List.cons_append, List.nil_append] at hA); (have hF := hA.facts); (try simp only [facts_cons, facts_nil, facts_cells, facts_old, facts_fact, facts_obj, facts_map, facts_iter, and_true, true_and] at hF)))
        refine (drop1_any (v := []) (hA.sep1 (A := boxS bS n f) (by with_reducible repeat (first | exact Sel.here | apply Sel.there))) hin).mono ?_
        rintro e w1 ⟨rfl, hT⟩; have hB := hA.call1 (by with_reducible repeat (first | exact Sel.here | apply Sel.there)) hT; clear hF hA hT; have hA := hB; clear hB; (try simp only [setL, List.set_cons_zero, List.set_cons_succ, List.cons_append, List.nil_append] at hA); (have hF := hA.facts); (try simp only [facts_cons, facts_nil, facts_cells, facts_old, facts_fact, facts_obj, facts_map, facts_iter, and_true, true_and] at hF)
        go_wp2_with (first | (refine wpList_del_iter_at rfl rfl rfl (by (try simp only [Act.eval, Array.getD_eq_getD_getElem?, List.getElem?_toArray, List.getElem?_cons_succ, List.getElem?_cons_zero, Option.getD_some]) <;> exact rfl) hA (k := 160) (by with_reducible repeat (first | exact Sel.here | apply Sel.there)) lawP Tryz.underlying120 hkl ?_; intro w1 hB; rw [ents_app l1 l2] at hB; clear hF hA; have hA := hB; clear hB; (try simp only [setL, List.set_cons_zero, List.set_cons_succ, List.cons_append, List.nil_append] at hA); (have hF := hA.facts); (try simp only [facts_cons, facts_nil, facts_cells, facts_old, facts_fact, facts_obj, facts_map, facts_iter, and_true, true_and] at hF)))
        go_roundg (gk - 1)
        case measure => omega
        case rel => exact ⟨l1 ++ l2, dn ++ [x], hK.out, by simp; omega, hA.only2 (by with_reducible repeat (first | exact Sel.here | apply Sel.there)) (by with_reducible repeat (first | exact Sel.here | apply Sel.there))⟩
set_option maxRecDepth 100000 in
set_option maxHeartbeats 2000000 in
/-- Drop -/
theorem drop_any {w : World} {b : Bk} (h : Sep [BookP b] w) (n : Int) (f : ByteArray) (hl : b.es.length ≤ 1000000000) (hok : ∀ x ∈ b.es, x.path.size ≤ maxLen ∧ 0 ≤ x.num ∧ x.num < big64 ∧ x.foot.size ≤ maxLen) :
    Calls Tryz.prog 57 #[.pointer (some ⟨b.p, 0, none⟩), .agg #[.int .u64 n, .string f]] w fun e w' => e = .returned (.int .i64 (b.es.length - (b.st.dropAll n f).es.length)) ∧ At [BookP b] w [BookP (b.with (b.st.dropAll n f))] w' := by
  have hA := begin0 h
  have hF := hA.facts
  have hle : (b.es.filter (fun x => !x.of n f)).length ≤ b.es.length := List.length_filter_le _ _
  show Calls _ _ _ _ fun e w' => e = .returned (.int .i64 (b.es.length - (b.es.filter (fun x => !x.of n f)).length)) ∧ At [BookP b] w [BookP ⟨b.p, b.m, b.c, b.first, b.es.filter (fun x => !x.of n f), b.cs⟩] w'
  have hdel := fun (w1 : World) (bS : Nat) (q : Sep [mapC b.m (ents b.es), boxS bS n f] w1) => del_any q hok
  generalize b.es.filter (fun x => !x.of n f) = es' at *
  have e1 : (ents b.es).length = b.es.length := by simp [ents]
  have e2 : (ents es').length = es'.length := by simp [ents]
  (try simp only [setL, List.set_cons_zero, List.set_cons_succ, List.cons_append, List.nil_append] at hA); (have hF := hA.facts); (try simp only [facts_cons, facts_nil, facts_cells, facts_old, facts_fact, facts_obj, facts_map, facts_iter, and_true, true_and] at hF)
  clear h hok
  go_enter Tryz.func57, Tryz.ntmps57
  go_wp2_with (first | ((with_reducible show wpList _ _ _ ({ dst := _, op := Op.box _ _, type := _, pos := _, after := _, guard := _ } :: _) _ _); refine wpList_box_at (E := 25) rfl rfl (by (try simp only [Act.eval, Array.getD_eq_getD_getElem?, List.getElem?_toArray, List.getElem?_cons_succ, List.getElem?_cons_zero, Option.getD_some]) <;> exact rfl) (by exact rfl) hA ?_; intro bS w1 hB hbS; clear hF hA; have hA := hB; clear hB; (try simp only [setL, List.set_cons_zero, List.set_cons_succ, List.cons_append, List.nil_append] at hA); (have hF := hA.facts); (try simp only [facts_cons, facts_nil, facts_cells, facts_old, facts_fact, facts_obj, facts_map, facts_iter, and_true, true_and] at hF)) | (refine wpList_len_map_at (k := 160) (es := ents b.es) rfl rfl rfl hA (by with_reducible repeat (first | exact Sel.here | apply Sel.there)) Tryz.underlying120 ?_; rw [e1]))
  refine (hdel _ bS (hA.sep2 (A := mapC b.m (ents b.es)) (B := boxS bS n f) (by with_reducible repeat (first | exact Sel.here | apply Sel.there)) (by with_reducible repeat (first | exact Sel.here | apply Sel.there)))).mono ?_
  clear hdel
  rintro e w2 ⟨rfl, hT⟩
  have hB := hA.call2 (A := mapC b.m (ents b.es)) (B := boxS bS n f) (by with_reducible repeat (first | exact Sel.here | apply Sel.there)) (by with_reducible repeat (first | exact Sel.here | apply Sel.there)) hT
  clear hF hA hT
  have hA := hB
  clear hB
  (try simp only [setL, List.set_cons_zero, List.set_cons_succ, List.cons_append, List.nil_append] at hA); (have hF := hA.facts); (try simp only [facts_cons, facts_nil, facts_cells, facts_old, facts_fact, facts_obj, facts_map, facts_iter, and_true, true_and] at hF)
  have hw : IntKind.i64.wrap ((b.es.length : Int) - (es'.length : Int)) = (b.es.length : Int) - (es'.length : Int) := by rw [IntKind.wrap_i64] <;> omega
  go_wp2_with (first | (refine wpList_len_map_at (k := 160) (es := ents es') rfl rfl rfl hA (by with_reducible repeat (first | exact Sel.here | apply Sel.there)) Tryz.underlying120 ?_; rw [e2]))
  go_ret
  exact ⟨rfl, close0 ⟨b.p, b.m, b.c, b.first, es', b.cs⟩ hA (by with_reducible repeat (first | exact Sel.here | apply Sel.there)) (by with_reducible repeat (first | exact Sel.here | apply Sel.there)) (by with_reducible repeat (first | exact Sel.here | apply Sel.there))⟩
end Go.Proofs.YtalfoiodejoicaaGreatDoor.Lock
end
