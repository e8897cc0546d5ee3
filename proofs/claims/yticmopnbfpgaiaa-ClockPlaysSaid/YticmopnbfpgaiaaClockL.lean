/- The walk of the law ClockPlays. Printed by gen/clockl.py. -/
import Derived.Test.YticmopnbfpgaiaaClockP
namespace Go.Proofs.Yticmopnbfpgaiaa.Clk
open Go.RowKit
open Go.Maps (Keyed)
open _root_.Go.Proofs.Yticmopnbfpgaiaa.Mark (idV idL ltID sortID idL_len sort_len idL_one)
set_option linter.unusedSimpArgs false
set_option linter.unusedVariables false

structure OpC where
  kind : Int
  id : I2
  lv : Value
  list : List I2
def OpOk (W : World) (o : OpC) : Prop := okI o.id ∧ (∀ x ∈ o.list, okI x) ∧ Reads W o.lv o.list.length (flatI o.list)
/-- the ops that come in -/
def OpsAt (W : World) (v : Value) (os : List OpC) : Prop :=
  ∃ sa sc, v = .slice sa os.length sc ∧ ∀ j (hj : j < os.length), ∃ b off, sa = some ⟨b, off, none⟩ ∧
    (W.cell? ⟨b, off + j * 4, none⟩ = some (.int .i64 os[j].kind) ∧ W.cell? ⟨b, off + j * 4 + 1, none⟩ = some (.int .i64 os[j].id.1) ∧ W.cell? ⟨b, off + j * 4 + 2, none⟩ = some (.int .i64 os[j].id.2) ∧ W.cell? ⟨b, off + j * 4 + 3, none⟩ = some os[j].lv) ∧ OpOk W os[j]
theorem old_cell {W w : World} (h : (Part.old W).holds w) {b off : Nat} {u : Value} (hc : W.cell? ⟨b, off, none⟩ = some u) : w.cell? ⟨b, off, none⟩ = some u := by
  have hb : b < W.heap.size := by
    rcases Nat.lt_or_ge b W.heap.size with q | q
    · exact q
    · simp [World.cell?, Array.getElem?_eq_none q] at hc
  have := h b hb
  rw [← hc]
  simp [World.cell?, this]
theorem old_reads {W : World} {v : Value} {l : List I2} (h : Reads W v l.length (flatI l)) : ReadsIn (Part.old W) v l := fun w hw => by
  obtain ⟨ax, c, hx, ha, hn⟩ := h
  refine ⟨ax, c, hx, ha, fun j u hj => ?_⟩
  obtain ⟨b, off, h1, h2⟩ := hn j u hj
  exact ⟨b, off, h1, old_cell hw h2⟩
theorem below_old {w w' : World} {L F : List Part} (h : At [Part.old w] w L w') (s : Sel (Part.old w) L F) : Below w.heap.size w w' := by
  have ho : (Part.old w).holds w' := h.get s
  exact ⟨h.exc.os, h.exc.tape, h.exc.output, h.exc.size, fun b hb => ho b hb⟩
theorem nd_of {w : World} {b : Nat} {mp : List WR} (h : (mapC b mp).holds w) : mp.Pairwise (fun x y => x.1 ≠ y.1) := by
  have hM : MapAt Try.prog 50 w b (ents mp) := h
  exact (List.pairwise_map.1 hM.keys).imp (fun h e => h (by simp only [ent, e]))
def LawRel (w : World) (p b n : Nat) (k : Nat) (u6 u7 u25 : Value) (wr : World) : Prop :=
  ∃ (i : Nat) (mp L : List WR) (now : Int) (v : Value), u25 = .int .i64 i ∧ i + k = n ∧ u6 = v ∧ u7 = .int .i64 now ∧ Good mp L now ∧ 0 ≤ now ∧ now ≤ i ∧ L.length ≤ 40 + i ∧ At [Part.old w] w [Part.old w, clkH p b now, mapC b mp, rowW v L] wr
def KeepRel2 (w : World) (p b : Nat) (now : Int) (mk : List WR) (v : Value) (L : List WR) (ls : List I2) (k : Nat) (u12 u90 : Value) (wr : World) : Prop :=
  ∃ (j : Nat) (vn : Value), u90 = .int .i64 j ∧ j + k = ls.length ∧ u12 = vn ∧ At [Part.old w] w [Part.old w, clkH p b now, mapC b mk, rowW v L, rowW vn (keepL L now (ls.take j))] wr
set_option maxRecDepth 100000 in
set_option maxHeartbeats 8000000 in
theorem law_any {w : World} {v : Value} {os : List OpC} (h : OpsAt w v os) (hlen : os.length ≤ 9223372036854775807) (wait : Int) :
    Calls Try.prog 5 #[v, .int .i64 wait] w fun e w' => e = .returned (.bool true) ∧ Below w.heap.size w w' := by
  obtain ⟨sa, sc, rfl, hops0⟩ := h
  have hops := Lib.hid hops0
  clear hops0
  have hA : At [Part.old w] w [Part.old w] w := At.start ⟨fun _ _ => rfl, trivial, nofun⟩
  have hF := hA.facts
  go_enter Try.func5, Try.ntmps5
  go_wp2_with fail
  refine (anchor_any w).mono ?_
  rintro e w1 ⟨rfl, hT⟩
  have hB := hA.call0 hT
  clear hF hA hT
  have hA := hB
  clear hB
  (try simp only [setL, List.set_cons_zero, List.set_cons_succ, List.cons_append, List.nil_append] at hA); (have hF := hA.facts); (try simp only [facts_cons, facts_nil, facts_cells, facts_old, facts_fact, facts_obj, facts_map, facts_iter, and_true, true_and] at hF)
  by_cases h60 : 60 < os.length
  · go_wp2_with fail
    refine bodyPost_ret (results_tmp rfl _ _ _) rfl ?_
    exact ⟨rfl, below_old hA (by with_reducible repeat (first | exact Sel.here | apply Sel.there))⟩
  · have h60' : os.length ≤ 60 := by omega
    clear h60 hlen
    go_wp2_with fail
    refine (new_any w1).mono ?_
    rintro e w2 ⟨p, b, rfl, hT⟩
    have hB := hA.call0 hT
    clear hF hA hT
    have hA := hB
    clear hB
    (try simp only [setL, List.set_cons_zero, List.set_cons_succ, List.cons_append, List.nil_append] at hA); (have hF := hA.facts); (try simp only [facts_cons, facts_nil, facts_cells, facts_old, facts_fact, facts_obj, facts_map, facts_iter, and_true, true_and] at hF)
    go_wp2_with fail
    try go_frame
    go_loopg [6, 7, 25] os.length (LawRel w p b os.length)
    case atStart => exact ⟨0, [], [], 0, .slice none 0 0, rfl, by simp, rfl, rfl, Good.nil 0, by omega, by simp, by simp, (row_nilW hA).only4 (A := Part.old w) (B := clkH p b 0) (C := mapC b []) (D := rowW (.slice none 0 0) []) (by with_reducible repeat (first | exact Sel.here | apply Sel.there)) (by with_reducible repeat (first | exact Sel.here | apply Sel.there)) (by with_reducible repeat (first | exact Sel.here | apply Sel.there)) (by with_reducible repeat (first | exact Sel.here | apply Sel.there))⟩
    case round =>
    obtain ⟨i, mp, L, now, v, rfl, hik, hu6, rfl, hgood0, hn0, hn1, hLl, hB⟩ := hrel
    have hu6' := hu6.symm
    subst hu6'
    have hgood := Lib.hid hgood0
    have hmp : mp.length ≤ 1000 := by
      have nd := nd_of (hB.get (A := mapC b mp) (by with_reducible repeat (first | exact Sel.here | apply Sel.there)))
      have := (hgood0.agree nd).len
      omega
    clear hF hA hgood0
    have hA := hB
    clear hB
    by_cases hi : i < os.length
    · obtain ⟨g, off, rfl, ⟨c0, c1, c2, c3⟩, hok⟩ := hops.out i hi
      have c0 := old_cell (hA.get (A := Part.old w) (by with_reducible repeat (first | exact Sel.here | apply Sel.there))) c0
      have c1 := old_cell (hA.get (A := Part.old w) (by with_reducible repeat (first | exact Sel.here | apply Sel.there))) c1
      have c2 := old_cell (hA.get (A := Part.old w) (by with_reducible repeat (first | exact Sel.here | apply Sel.there))) c2
      have c3 := old_cell (hA.get (A := Part.old w) (by with_reducible repeat (first | exact Sel.here | apply Sel.there))) c3
      obtain ⟨hoid, hol1, hrd⟩ := hok
      obtain ⟨la, lc, hlv, hla⟩ := (old_reads hrd).form (hA.get (A := Part.old w) (by with_reducible repeat (first | exact Sel.here | apply Sel.there)))
      have hR0 := old_reads hrd
      rw [hlv] at c3 hR0
      obtain ⟨ls, hls⟩ : ∃ ls, ls = (os[i]).list := ⟨_, rfl⟩
      obtain ⟨oid, hoi⟩ : ∃ oid, oid = (os[i]).id := ⟨_, rfl⟩
      obtain ⟨kd, hkd⟩ : ∃ kd, kd = (os[i]).kind := ⟨_, rfl⟩
      rw [← hls] at c3 hR0 hol1 hla
      rw [← hoi] at c1 c2 hoid
      rw [← hkd] at c0
      have hol := Lib.hid hol1
      have hR := Lib.hid hR0
      clear hol1 hrd hR0 hlv hls hoi hkd
      (try simp only [setL, List.set_cons_zero, List.set_cons_succ, List.cons_append, List.nil_append] at hA); (have hF := hA.facts); (try simp only [facts_cons, facts_nil, facts_cells, facts_old, facts_fact, facts_obj, facts_map, facts_iter, and_true, true_and] at hF)
      go_upto_region 12 with (first | (refine wpList_store_at rfl rfl rfl (by (try simp only [Act.eval, Array.getD_eq_getD_getElem?, List.getElem?_toArray, List.getElem?_cons_succ, List.getElem?_cons_zero, Option.getD_some]) <;> exact rfl) (by exact rfl) hA (by with_reducible repeat (first | exact Sel.here | apply Sel.there)) (by kernel_rfl) rfl (by first | decide | (simp; done) | omega) ?_; intro w1 hB; clear hF hA; have hA := hB; clear hB; (try simp only [setL, List.set_cons_zero, List.set_cons_succ, List.cons_append, List.nil_append] at hA); (have hF := hA.facts); (try simp only [facts_cons, facts_nil, facts_cells, facts_old, facts_fact, facts_obj, facts_map, facts_iter, and_true, true_and] at hF)) | (refine wpList_box_at rfl rfl (by (try simp only [Act.eval, Array.getD_eq_getD_getElem?, List.getElem?_toArray, List.getElem?_cons_succ, List.getElem?_cons_zero, Option.getD_some]) <;> exact rfl) (by exact rfl) hA ?_; intro b1 w1 hB hb1; clear hF hA; have hA := hB; clear hB; (try simp only [setL, List.set_cons_zero, List.set_cons_succ, List.cons_append, List.nil_append] at hA); (have hF := hA.facts); (try simp only [facts_cons, facts_nil, facts_cells, facts_old, facts_fact, facts_obj, facts_map, facts_iter, and_true, true_and] at hF)) | (refine wpList_alloc_at (E := 53) (z := .agg #[.int .i64 0, .int .i64 0, .int .i64 0, .slice none 0 0]) (vs := [.int .i64 0, .int .i64 0, .int .i64 0, .slice none 0 0]) rfl rfl (by kernel_rfl) rfl hA ?_; intro b1 w1 hB hb1; clear hF hA; have hA := hB; clear hB; (try simp only [setL, List.set_cons_zero, List.set_cons_succ, List.cons_append, List.nil_append] at hA); (have hF := hA.facts); (try simp only [facts_cons, facts_nil, facts_cells, facts_old, facts_fact, facts_obj, facts_map, facts_iter, and_true, true_and] at hF)) | (refine wpList_alloc_at (E := 54) (z := .agg #[.int .i64 0, .int .i64 0]) (vs := [.int .i64 0, .int .i64 0]) rfl rfl (by kernel_rfl) rfl hA ?_; intro b1 w1 hB hb1; clear hF hA; have hA := hB; clear hB; (try simp only [setL, List.set_cons_zero, List.set_cons_succ, List.cons_append, List.nil_append] at hA); (have hF := hA.facts); (try simp only [facts_cons, facts_nil, facts_cells, facts_old, facts_fact, facts_obj, facts_map, facts_iter, and_true, true_and] at hF)))
      clear c0 c1 c2 c3
      by_cases hk : kd = 1
      · have hk' : (kd == 1) = true := by simp [hk]
        go_wp2_with fail
        refine (tick_any (hA.sep1 (A := clkH p b now) (by with_reducible repeat (first | exact Sel.here | apply Sel.there))) hn0 (by omega)).mono ?_
        rintro e w5 ⟨rfl, hT⟩
        have hB := hA.call1 (A := clkH p b now) (by with_reducible repeat (first | exact Sel.here | apply Sel.there)) hT
        clear hF hA hT
        have hA := hB
        clear hB
        (try simp only [setL, List.set_cons_zero, List.set_cons_succ, List.cons_append, List.nil_append] at hA); (have hF := hA.facts); (try simp only [facts_cons, facts_nil, facts_cells, facts_old, facts_fact, facts_obj, facts_map, facts_iter, and_true, true_and] at hF)
        have hG := Lib.hid (hgood.out.tick)
        have hnd : (mp).Pairwise (fun x y => x.1 ≠ y.1) := nd_of (hA.get (A := mapC b (mp)) (by with_reducible repeat (first | exact Sel.here | apply Sel.there)))
        have hag := Lib.hid (hG.out.agree hnd)
        clear hnd
        go_wp2_with fail
        refine (same_any (mp := mp) (L := L) (now := now + 1) (v := v) (hA.sep3 (A := clkH p b (now + 1)) (B := mapC b (mp)) (C := rowW v (L)) (by with_reducible repeat (first | exact Sel.here | apply Sel.there)) (by with_reducible repeat (first | exact Sel.here | apply Sel.there)) (by with_reducible repeat (first | exact Sel.here | apply Sel.there))) hag.out (by omega) (by omega)).mono ?_
        rintro e w9 ⟨rfl, hT⟩
        have hB := hA.call3 (A := clkH p b (now + 1)) (B := mapC b (mp)) (C := rowW v (L)) (by with_reducible repeat (first | exact Sel.here | apply Sel.there)) (by with_reducible repeat (first | exact Sel.here | apply Sel.there)) (by with_reducible repeat (first | exact Sel.here | apply Sel.there)) hT
        clear hF hA hT
        have hA := hB
        clear hB
        (try simp only [setL, List.set_cons_zero, List.set_cons_succ, List.cons_append, List.nil_append] at hA); (have hF := hA.facts); (try simp only [facts_cons, facts_nil, facts_cells, facts_old, facts_fact, facts_obj, facts_map, facts_iter, and_true, true_and] at hF)
        go_wp2_with fail
        go_roundg (os.length - (i + 1))
        case measure => omega
        case rel => exact ⟨i + 1, mp, L, now + 1, v, by simp, by omega, rfl, rfl, hG.out, by omega, by omega, by omega, hA.only4 (A := Part.old w) (B := clkH p b (now + 1)) (C := mapC b (mp)) (D := rowW v (L)) (by with_reducible repeat (first | exact Sel.here | apply Sel.there)) (by with_reducible repeat (first | exact Sel.here | apply Sel.there)) (by with_reducible repeat (first | exact Sel.here | apply Sel.there)) (by with_reducible repeat (first | exact Sel.here | apply Sel.there))⟩
      have hk1 := hk
      clear hk
      by_cases hk : kd = 2
      · have hk1' : (kd == 1) = false := by simp [hk]
        have hk' : (kd == 2) = true := by simp [hk]
        go_wp2_with fail
        refine (since_any (v := v) (l := L) (hA.sep1 (A := rowW v L) (by with_reducible repeat (first | exact Sel.here | apply Sel.there))) oid (by omega)).mono ?_
        rintro e w5 ⟨rfl, hT⟩
        have hB := hA.call1 (A := rowW v L) (by with_reducible repeat (first | exact Sel.here | apply Sel.there)) hT
        clear hF hA hT
        have hA := hB
        clear hB
        (try simp only [setL, List.set_cons_zero, List.set_cons_succ, List.cons_append, List.nil_append] at hA); (have hF := hA.facts); (try simp only [facts_cons, facts_nil, facts_cells, facts_old, facts_fact, facts_obj, facts_map, facts_iter, and_true, true_and] at hF)
        by_cases hfr : sinceL L oid < 0
        · have hno := (hgood.out.fresh oid).1 hfr
          go_wp2_with fail
          refine (again_any (v := v) (l := L) (hA.sep1 (A := rowW v L) (by with_reducible repeat (first | exact Sel.here | apply Sel.there))) oid now (by omega)).mono ?_
          rintro e w5 ⟨vn, rfl, hT⟩
          have hB := hA.call1 (A := rowW v L) (by with_reducible repeat (first | exact Sel.here | apply Sel.there)) hT
          clear hF hA hT
          have hA := hB
          clear hB
          (try simp only [setL, List.set_cons_zero, List.set_cons_succ, List.cons_append, List.nil_append] at hA); (have hF := hA.facts); (try simp only [facts_cons, facts_nil, facts_cells, facts_old, facts_fact, facts_obj, facts_map, facts_iter, and_true, true_and] at hF)
          go_wp2_with fail
          refine (watch_new (hA.sep2 (A := clkH p b now) (B := mapC b (mp)) (by with_reducible repeat (first | exact Sel.here | apply Sel.there)) (by with_reducible repeat (first | exact Sel.here | apply Sel.there))) hoid hno).mono ?_
          rintro e w6 ⟨rfl, hT⟩
          have hB := hA.call2 (A := clkH p b now) (B := mapC b (mp)) (by with_reducible repeat (first | exact Sel.here | apply Sel.there)) (by with_reducible repeat (first | exact Sel.here | apply Sel.there)) hT
          clear hF hA hT
          have hA := hB
          clear hB
          (try simp only [setL, List.set_cons_zero, List.set_cons_succ, List.cons_append, List.nil_append] at hA); (have hF := hA.facts); (try simp only [facts_cons, facts_nil, facts_cells, facts_old, facts_fact, facts_obj, facts_map, facts_iter, and_true, true_and] at hF)
          have hG := Lib.hid (hgood.out.again_new hn0 hoid hno)
          have hnd : (mp ++ [(oid, now)]).Pairwise (fun x y => x.1 ≠ y.1) := nd_of (hA.get (A := mapC b (mp ++ [(oid, now)])) (by with_reducible repeat (first | exact Sel.here | apply Sel.there)))
          have hag := Lib.hid (hG.out.agree hnd)
          clear hnd
          go_wp2_with fail
          refine (same_any (mp := mp ++ [(oid, now)]) (L := againL L oid now) (now := now) (v := vn) (hA.sep3 (A := clkH p b (now)) (B := mapC b (mp ++ [(oid, now)])) (C := rowW vn (againL L oid now)) (by with_reducible repeat (first | exact Sel.here | apply Sel.there)) (by with_reducible repeat (first | exact Sel.here | apply Sel.there)) (by with_reducible repeat (first | exact Sel.here | apply Sel.there))) hag.out (by omega) (by have := again_le L oid now; omega)).mono ?_
          rintro e w9 ⟨rfl, hT⟩
          have hB := hA.call3 (A := clkH p b (now)) (B := mapC b (mp ++ [(oid, now)])) (C := rowW vn (againL L oid now)) (by with_reducible repeat (first | exact Sel.here | apply Sel.there)) (by with_reducible repeat (first | exact Sel.here | apply Sel.there)) (by with_reducible repeat (first | exact Sel.here | apply Sel.there)) hT
          clear hF hA hT
          have hA := hB
          clear hB
          (try simp only [setL, List.set_cons_zero, List.set_cons_succ, List.cons_append, List.nil_append] at hA); (have hF := hA.facts); (try simp only [facts_cons, facts_nil, facts_cells, facts_old, facts_fact, facts_obj, facts_map, facts_iter, and_true, true_and] at hF)
          go_wp2_with fail
          go_roundg (os.length - (i + 1))
          case measure => omega
          case rel => exact ⟨i + 1, mp ++ [(oid, now)], againL L oid now, now, vn, by simp, by omega, rfl, rfl, hG.out, hn0, by omega, by have := again_le L oid now; omega, hA.only4 (A := Part.old w) (B := clkH p b (now)) (C := mapC b (mp ++ [(oid, now)])) (D := rowW vn (againL L oid now)) (by with_reducible repeat (first | exact Sel.here | apply Sel.there)) (by with_reducible repeat (first | exact Sel.here | apply Sel.there)) (by with_reducible repeat (first | exact Sel.here | apply Sel.there)) (by with_reducible repeat (first | exact Sel.here | apply Sel.there))⟩
        · have hin : ∃ x ∈ mp, x.1 = oid := by
            refine Classical.byContradiction fun hc => hfr ((hgood.out.fresh oid).2 fun x hx e => hc ⟨x, hx, e⟩)
          obtain ⟨y, hy, he⟩ := hin
          have hy2 : (oid, y.2) ∈ mp := by rw [← he]; exact hy
          obtain ⟨t, ht⟩ : ∃ t, t = y.2 := ⟨_, rfl⟩
          rw [← ht] at hy2
          obtain ⟨l1, l2, e⟩ := List.append_of_mem hy2
          subst e
          clear hy2 ht he
          have hnd0 : (l1 ++ (oid, t) :: l2).Pairwise (fun x y => x.1 ≠ y.1) := nd_of (hA.get (A := mapC b (l1 ++ (oid, t) :: l2)) (by with_reducible repeat (first | exact Sel.here | apply Sel.there)))
          have hnd1 := Lib.hid hnd0
          clear hnd0 hy
          go_wp2_with fail
          refine (watch_there (hA.sep2 (A := clkH p b now) (B := mapC b (l1 ++ (oid, t) :: l2)) (by with_reducible repeat (first | exact Sel.here | apply Sel.there)) (by with_reducible repeat (first | exact Sel.here | apply Sel.there))) hoid).mono ?_
          rintro e w6 ⟨rfl, hT⟩
          have hB := hA.call2 (A := clkH p b now) (B := mapC b (l1 ++ (oid, t) :: l2)) (by with_reducible repeat (first | exact Sel.here | apply Sel.there)) (by with_reducible repeat (first | exact Sel.here | apply Sel.there)) hT
          clear hF hA hT
          have hA := hB
          clear hB
          (try simp only [setL, List.set_cons_zero, List.set_cons_succ, List.cons_append, List.nil_append] at hA); (have hF := hA.facts); (try simp only [facts_cons, facts_nil, facts_cells, facts_old, facts_fact, facts_obj, facts_map, facts_iter, and_true, true_and] at hF)
          have hG := Lib.hid (hgood.out)
          have hnd : (l1 ++ (oid, t) :: l2).Pairwise (fun x y => x.1 ≠ y.1) := nd_of (hA.get (A := mapC b (l1 ++ (oid, t) :: l2)) (by with_reducible repeat (first | exact Sel.here | apply Sel.there)))
          have hag := Lib.hid (hG.out.agree hnd)
          clear hnd
          go_wp2_with fail
          refine (same_any (mp := l1 ++ (oid, t) :: l2) (L := L) (now := now) (v := v) (hA.sep3 (A := clkH p b (now)) (B := mapC b (l1 ++ (oid, t) :: l2)) (C := rowW v (L)) (by with_reducible repeat (first | exact Sel.here | apply Sel.there)) (by with_reducible repeat (first | exact Sel.here | apply Sel.there)) (by with_reducible repeat (first | exact Sel.here | apply Sel.there))) hag.out (by omega) (by omega)).mono ?_
          rintro e w9 ⟨rfl, hT⟩
          have hB := hA.call3 (A := clkH p b (now)) (B := mapC b (l1 ++ (oid, t) :: l2)) (C := rowW v (L)) (by with_reducible repeat (first | exact Sel.here | apply Sel.there)) (by with_reducible repeat (first | exact Sel.here | apply Sel.there)) (by with_reducible repeat (first | exact Sel.here | apply Sel.there)) hT
          clear hF hA hT
          have hA := hB
          clear hB
          (try simp only [setL, List.set_cons_zero, List.set_cons_succ, List.cons_append, List.nil_append] at hA); (have hF := hA.facts); (try simp only [facts_cons, facts_nil, facts_cells, facts_old, facts_fact, facts_obj, facts_map, facts_iter, and_true, true_and] at hF)
          go_wp2_with fail
          go_roundg (os.length - (i + 1))
          case measure => omega
          case rel => exact ⟨i + 1, l1 ++ (oid, t) :: l2, L, now, v, by simp, by omega, rfl, rfl, hG.out, hn0, by omega, by omega, hA.only4 (A := Part.old w) (B := clkH p b (now)) (C := mapC b (l1 ++ (oid, t) :: l2)) (D := rowW v (L)) (by with_reducible repeat (first | exact Sel.here | apply Sel.there)) (by with_reducible repeat (first | exact Sel.here | apply Sel.there)) (by with_reducible repeat (first | exact Sel.here | apply Sel.there)) (by with_reducible repeat (first | exact Sel.here | apply Sel.there))⟩
      have hk2 := hk
      clear hk
      by_cases hk : kd = 3
      · have hk1' : (kd == 1) = false := by simp [hk]
        have hk2' : (kd == 2) = false := by simp [hk]
        have hk' : (kd == 3) = true := by simp [hk]
        by_cases hin : ∃ x ∈ mp, x.1 = oid
        · obtain ⟨y, hy, he⟩ := hin
          have hy2 : (oid, y.2) ∈ mp := by rw [← he]; exact hy
          obtain ⟨t, ht⟩ : ∃ t, t = y.2 := ⟨_, rfl⟩
          rw [← ht] at hy2
          obtain ⟨l1, l2, e⟩ := List.append_of_mem hy2
          subst e
          clear hy2 ht he
          have hnd0 : (l1 ++ (oid, t) :: l2).Pairwise (fun x y => x.1 ≠ y.1) := nd_of (hA.get (A := mapC b (l1 ++ (oid, t) :: l2)) (by with_reducible repeat (first | exact Sel.here | apply Sel.there)))
          have hnd1 := Lib.hid hnd0
          clear hnd0 hy
          go_wp2_with fail
          refine (again_there (hA.sep2 (A := clkH p b now) (B := mapC b (l1 ++ (oid, t) :: l2)) (by with_reducible repeat (first | exact Sel.here | apply Sel.there)) (by with_reducible repeat (first | exact Sel.here | apply Sel.there))) hoid).mono ?_
          rintro e w6 ⟨rfl, hT⟩
          have hB := hA.call2 (A := clkH p b now) (B := mapC b (l1 ++ (oid, t) :: l2)) (by with_reducible repeat (first | exact Sel.here | apply Sel.there)) (by with_reducible repeat (first | exact Sel.here | apply Sel.there)) hT
          clear hF hA hT
          have hA := hB
          clear hB
          (try simp only [setL, List.set_cons_zero, List.set_cons_succ, List.cons_append, List.nil_append] at hA); (have hF := hA.facts); (try simp only [facts_cons, facts_nil, facts_cells, facts_old, facts_fact, facts_obj, facts_map, facts_iter, and_true, true_and] at hF)
          go_wp2_with fail
          refine (again_any (v := v) (l := L) (hA.sep1 (A := rowW v L) (by with_reducible repeat (first | exact Sel.here | apply Sel.there))) oid now (by omega)).mono ?_
          rintro e w5 ⟨vn, rfl, hT⟩
          have hB := hA.call1 (A := rowW v L) (by with_reducible repeat (first | exact Sel.here | apply Sel.there)) hT
          clear hF hA hT
          have hA := hB
          clear hB
          (try simp only [setL, List.set_cons_zero, List.set_cons_succ, List.cons_append, List.nil_append] at hA); (have hF := hA.facts); (try simp only [facts_cons, facts_nil, facts_cells, facts_old, facts_fact, facts_obj, facts_map, facts_iter, and_true, true_and] at hF)
          have hG := Lib.hid (hgood.out.again_there hn0 hoid hnd1.out)
          have hnd : (l1 ++ (oid, now) :: l2).Pairwise (fun x y => x.1 ≠ y.1) := nd_of (hA.get (A := mapC b (l1 ++ (oid, now) :: l2)) (by with_reducible repeat (first | exact Sel.here | apply Sel.there)))
          have hag := Lib.hid (hG.out.agree hnd)
          clear hnd
          go_wp2_with fail
          refine (same_any (mp := l1 ++ (oid, now) :: l2) (L := againL L oid now) (now := now) (v := vn) (hA.sep3 (A := clkH p b (now)) (B := mapC b (l1 ++ (oid, now) :: l2)) (C := rowW vn (againL L oid now)) (by with_reducible repeat (first | exact Sel.here | apply Sel.there)) (by with_reducible repeat (first | exact Sel.here | apply Sel.there)) (by with_reducible repeat (first | exact Sel.here | apply Sel.there))) hag.out (by omega) (by have := again_le L oid now; omega)).mono ?_
          rintro e w9 ⟨rfl, hT⟩
          have hB := hA.call3 (A := clkH p b (now)) (B := mapC b (l1 ++ (oid, now) :: l2)) (C := rowW vn (againL L oid now)) (by with_reducible repeat (first | exact Sel.here | apply Sel.there)) (by with_reducible repeat (first | exact Sel.here | apply Sel.there)) (by with_reducible repeat (first | exact Sel.here | apply Sel.there)) hT
          clear hF hA hT
          have hA := hB
          clear hB
          (try simp only [setL, List.set_cons_zero, List.set_cons_succ, List.cons_append, List.nil_append] at hA); (have hF := hA.facts); (try simp only [facts_cons, facts_nil, facts_cells, facts_old, facts_fact, facts_obj, facts_map, facts_iter, and_true, true_and] at hF)
          go_wp2_with fail
          go_roundg (os.length - (i + 1))
          case measure => omega
          case rel => exact ⟨i + 1, l1 ++ (oid, now) :: l2, againL L oid now, now, vn, by simp, by omega, rfl, rfl, hG.out, hn0, by omega, by have := again_le L oid now; omega, hA.only4 (A := Part.old w) (B := clkH p b (now)) (C := mapC b (l1 ++ (oid, now) :: l2)) (D := rowW vn (againL L oid now)) (by with_reducible repeat (first | exact Sel.here | apply Sel.there)) (by with_reducible repeat (first | exact Sel.here | apply Sel.there)) (by with_reducible repeat (first | exact Sel.here | apply Sel.there)) (by with_reducible repeat (first | exact Sel.here | apply Sel.there))⟩
        · have hno : ∀ x ∈ mp, x.1 ≠ oid := fun x hx e => hin ⟨x, hx, e⟩
          clear hin
          go_wp2_with fail
          refine (again_new (hA.sep2 (A := clkH p b now) (B := mapC b (mp)) (by with_reducible repeat (first | exact Sel.here | apply Sel.there)) (by with_reducible repeat (first | exact Sel.here | apply Sel.there))) hoid hno).mono ?_
          rintro e w6 ⟨rfl, hT⟩
          have hB := hA.call2 (A := clkH p b now) (B := mapC b (mp)) (by with_reducible repeat (first | exact Sel.here | apply Sel.there)) (by with_reducible repeat (first | exact Sel.here | apply Sel.there)) hT
          clear hF hA hT
          have hA := hB
          clear hB
          (try simp only [setL, List.set_cons_zero, List.set_cons_succ, List.cons_append, List.nil_append] at hA); (have hF := hA.facts); (try simp only [facts_cons, facts_nil, facts_cells, facts_old, facts_fact, facts_obj, facts_map, facts_iter, and_true, true_and] at hF)
          go_wp2_with fail
          refine (again_any (v := v) (l := L) (hA.sep1 (A := rowW v L) (by with_reducible repeat (first | exact Sel.here | apply Sel.there))) oid now (by omega)).mono ?_
          rintro e w5 ⟨vn, rfl, hT⟩
          have hB := hA.call1 (A := rowW v L) (by with_reducible repeat (first | exact Sel.here | apply Sel.there)) hT
          clear hF hA hT
          have hA := hB
          clear hB
          (try simp only [setL, List.set_cons_zero, List.set_cons_succ, List.cons_append, List.nil_append] at hA); (have hF := hA.facts); (try simp only [facts_cons, facts_nil, facts_cells, facts_old, facts_fact, facts_obj, facts_map, facts_iter, and_true, true_and] at hF)
          have hG := Lib.hid (hgood.out.again_new hn0 hoid hno)
          have hnd : (mp ++ [(oid, now)]).Pairwise (fun x y => x.1 ≠ y.1) := nd_of (hA.get (A := mapC b (mp ++ [(oid, now)])) (by with_reducible repeat (first | exact Sel.here | apply Sel.there)))
          have hag := Lib.hid (hG.out.agree hnd)
          clear hnd
          go_wp2_with fail
          refine (same_any (mp := mp ++ [(oid, now)]) (L := againL L oid now) (now := now) (v := vn) (hA.sep3 (A := clkH p b (now)) (B := mapC b (mp ++ [(oid, now)])) (C := rowW vn (againL L oid now)) (by with_reducible repeat (first | exact Sel.here | apply Sel.there)) (by with_reducible repeat (first | exact Sel.here | apply Sel.there)) (by with_reducible repeat (first | exact Sel.here | apply Sel.there))) hag.out (by omega) (by have := again_le L oid now; omega)).mono ?_
          rintro e w9 ⟨rfl, hT⟩
          have hB := hA.call3 (A := clkH p b (now)) (B := mapC b (mp ++ [(oid, now)])) (C := rowW vn (againL L oid now)) (by with_reducible repeat (first | exact Sel.here | apply Sel.there)) (by with_reducible repeat (first | exact Sel.here | apply Sel.there)) (by with_reducible repeat (first | exact Sel.here | apply Sel.there)) hT
          clear hF hA hT
          have hA := hB
          clear hB
          (try simp only [setL, List.set_cons_zero, List.set_cons_succ, List.cons_append, List.nil_append] at hA); (have hF := hA.facts); (try simp only [facts_cons, facts_nil, facts_cells, facts_old, facts_fact, facts_obj, facts_map, facts_iter, and_true, true_and] at hF)
          go_wp2_with fail
          go_roundg (os.length - (i + 1))
          case measure => omega
          case rel => exact ⟨i + 1, mp ++ [(oid, now)], againL L oid now, now, vn, by simp, by omega, rfl, rfl, hG.out, hn0, by omega, by have := again_le L oid now; omega, hA.only4 (A := Part.old w) (B := clkH p b (now)) (C := mapC b (mp ++ [(oid, now)])) (D := rowW vn (againL L oid now)) (by with_reducible repeat (first | exact Sel.here | apply Sel.there)) (by with_reducible repeat (first | exact Sel.here | apply Sel.there)) (by with_reducible repeat (first | exact Sel.here | apply Sel.there)) (by with_reducible repeat (first | exact Sel.here | apply Sel.there))⟩
      have hk3 := hk
      clear hk
      by_cases hk : kd = 4
      · have hk1' : (kd == 1) = false := by simp [hk]
        have hk2' : (kd == 2) = false := by simp [hk]
        have hk3' : (kd == 3) = false := by simp [hk]
        have hk' : (kd == 4) = true := by simp [hk]
        by_cases hin : ∃ x ∈ mp, x.1 = oid
        · obtain ⟨y, hy, he⟩ := hin
          have hy2 : (oid, y.2) ∈ mp := by rw [← he]; exact hy
          obtain ⟨t, ht⟩ : ∃ t, t = y.2 := ⟨_, rfl⟩
          rw [← ht] at hy2
          obtain ⟨l1, l2, e⟩ := List.append_of_mem hy2
          subst e
          clear hy2 ht he
          have hnd0 : (l1 ++ (oid, t) :: l2).Pairwise (fun x y => x.1 ≠ y.1) := nd_of (hA.get (A := mapC b (l1 ++ (oid, t) :: l2)) (by with_reducible repeat (first | exact Sel.here | apply Sel.there)))
          have hnd1 := Lib.hid hnd0
          clear hnd0 hy
          go_wp2_with fail
          refine (forget_there (hA.sep2 (A := clkH p b now) (B := mapC b (l1 ++ (oid, t) :: l2)) (by with_reducible repeat (first | exact Sel.here | apply Sel.there)) (by with_reducible repeat (first | exact Sel.here | apply Sel.there))) hoid).mono ?_
          rintro e w6 ⟨rfl, hT⟩
          have hB := hA.call2 (A := clkH p b now) (B := mapC b (l1 ++ (oid, t) :: l2)) (by with_reducible repeat (first | exact Sel.here | apply Sel.there)) (by with_reducible repeat (first | exact Sel.here | apply Sel.there)) hT
          clear hF hA hT
          have hA := hB
          clear hB
          (try simp only [setL, List.set_cons_zero, List.set_cons_succ, List.cons_append, List.nil_append] at hA); (have hF := hA.facts); (try simp only [facts_cons, facts_nil, facts_cells, facts_old, facts_fact, facts_obj, facts_map, facts_iter, and_true, true_and] at hF)
          go_wp2_with fail
          refine (forget_any (v := v) (l := L) (hA.sep1 (A := rowW v L) (by with_reducible repeat (first | exact Sel.here | apply Sel.there))) oid (by omega)).mono ?_
          rintro e w5 ⟨vn, rfl, hT⟩
          have hB := hA.call1 (A := rowW v L) (by with_reducible repeat (first | exact Sel.here | apply Sel.there)) hT
          clear hF hA hT
          have hA := hB
          clear hB
          (try simp only [setL, List.set_cons_zero, List.set_cons_succ, List.cons_append, List.nil_append] at hA); (have hF := hA.facts); (try simp only [facts_cons, facts_nil, facts_cells, facts_old, facts_fact, facts_obj, facts_map, facts_iter, and_true, true_and] at hF)
          have hG := Lib.hid (hgood.out.forget_there hnd1.out)
          have hnd : (l1 ++ l2).Pairwise (fun x y => x.1 ≠ y.1) := nd_of (hA.get (A := mapC b (l1 ++ l2)) (by with_reducible repeat (first | exact Sel.here | apply Sel.there)))
          have hag := Lib.hid (hG.out.agree hnd)
          clear hnd
          go_wp2_with fail
          refine (same_any (mp := l1 ++ l2) (L := forgetL L oid) (now := now) (v := vn) (hA.sep3 (A := clkH p b (now)) (B := mapC b (l1 ++ l2)) (C := rowW vn (forgetL L oid)) (by with_reducible repeat (first | exact Sel.here | apply Sel.there)) (by with_reducible repeat (first | exact Sel.here | apply Sel.there)) (by with_reducible repeat (first | exact Sel.here | apply Sel.there))) hag.out (by omega) (by have := forget_le L oid; omega)).mono ?_
          rintro e w9 ⟨rfl, hT⟩
          have hB := hA.call3 (A := clkH p b (now)) (B := mapC b (l1 ++ l2)) (C := rowW vn (forgetL L oid)) (by with_reducible repeat (first | exact Sel.here | apply Sel.there)) (by with_reducible repeat (first | exact Sel.here | apply Sel.there)) (by with_reducible repeat (first | exact Sel.here | apply Sel.there)) hT
          clear hF hA hT
          have hA := hB
          clear hB
          (try simp only [setL, List.set_cons_zero, List.set_cons_succ, List.cons_append, List.nil_append] at hA); (have hF := hA.facts); (try simp only [facts_cons, facts_nil, facts_cells, facts_old, facts_fact, facts_obj, facts_map, facts_iter, and_true, true_and] at hF)
          go_wp2_with fail
          go_roundg (os.length - (i + 1))
          case measure => omega
          case rel => exact ⟨i + 1, l1 ++ l2, forgetL L oid, now, vn, by simp, by omega, rfl, rfl, hG.out, hn0, by omega, by have := forget_le L oid; omega, hA.only4 (A := Part.old w) (B := clkH p b (now)) (C := mapC b (l1 ++ l2)) (D := rowW vn (forgetL L oid)) (by with_reducible repeat (first | exact Sel.here | apply Sel.there)) (by with_reducible repeat (first | exact Sel.here | apply Sel.there)) (by with_reducible repeat (first | exact Sel.here | apply Sel.there)) (by with_reducible repeat (first | exact Sel.here | apply Sel.there))⟩
        · have hno : ∀ x ∈ mp, x.1 ≠ oid := fun x hx e => hin ⟨x, hx, e⟩
          clear hin
          go_wp2_with fail
          refine (forget_none (hA.sep2 (A := clkH p b now) (B := mapC b (mp)) (by with_reducible repeat (first | exact Sel.here | apply Sel.there)) (by with_reducible repeat (first | exact Sel.here | apply Sel.there))) hoid hno).mono ?_
          rintro e w6 ⟨rfl, hT⟩
          have hB := hA.call2 (A := clkH p b now) (B := mapC b (mp)) (by with_reducible repeat (first | exact Sel.here | apply Sel.there)) (by with_reducible repeat (first | exact Sel.here | apply Sel.there)) hT
          clear hF hA hT
          have hA := hB
          clear hB
          (try simp only [setL, List.set_cons_zero, List.set_cons_succ, List.cons_append, List.nil_append] at hA); (have hF := hA.facts); (try simp only [facts_cons, facts_nil, facts_cells, facts_old, facts_fact, facts_obj, facts_map, facts_iter, and_true, true_and] at hF)
          go_wp2_with fail
          refine (forget_any (v := v) (l := L) (hA.sep1 (A := rowW v L) (by with_reducible repeat (first | exact Sel.here | apply Sel.there))) oid (by omega)).mono ?_
          rintro e w5 ⟨vn, rfl, hT⟩
          have hB := hA.call1 (A := rowW v L) (by with_reducible repeat (first | exact Sel.here | apply Sel.there)) hT
          clear hF hA hT
          have hA := hB
          clear hB
          (try simp only [setL, List.set_cons_zero, List.set_cons_succ, List.cons_append, List.nil_append] at hA); (have hF := hA.facts); (try simp only [facts_cons, facts_nil, facts_cells, facts_old, facts_fact, facts_obj, facts_map, facts_iter, and_true, true_and] at hF)
          have hG := Lib.hid (hgood.out.forget_none hno)
          have hnd : (mp).Pairwise (fun x y => x.1 ≠ y.1) := nd_of (hA.get (A := mapC b (mp)) (by with_reducible repeat (first | exact Sel.here | apply Sel.there)))
          have hag := Lib.hid (hG.out.agree hnd)
          clear hnd
          go_wp2_with fail
          refine (same_any (mp := mp) (L := forgetL L oid) (now := now) (v := vn) (hA.sep3 (A := clkH p b (now)) (B := mapC b (mp)) (C := rowW vn (forgetL L oid)) (by with_reducible repeat (first | exact Sel.here | apply Sel.there)) (by with_reducible repeat (first | exact Sel.here | apply Sel.there)) (by with_reducible repeat (first | exact Sel.here | apply Sel.there))) hag.out (by omega) (by have := forget_le L oid; omega)).mono ?_
          rintro e w9 ⟨rfl, hT⟩
          have hB := hA.call3 (A := clkH p b (now)) (B := mapC b (mp)) (C := rowW vn (forgetL L oid)) (by with_reducible repeat (first | exact Sel.here | apply Sel.there)) (by with_reducible repeat (first | exact Sel.here | apply Sel.there)) (by with_reducible repeat (first | exact Sel.here | apply Sel.there)) hT
          clear hF hA hT
          have hA := hB
          clear hB
          (try simp only [setL, List.set_cons_zero, List.set_cons_succ, List.cons_append, List.nil_append] at hA); (have hF := hA.facts); (try simp only [facts_cons, facts_nil, facts_cells, facts_old, facts_fact, facts_obj, facts_map, facts_iter, and_true, true_and] at hF)
          go_wp2_with fail
          go_roundg (os.length - (i + 1))
          case measure => omega
          case rel => exact ⟨i + 1, mp, forgetL L oid, now, vn, by simp, by omega, rfl, rfl, hG.out, hn0, by omega, by have := forget_le L oid; omega, hA.only4 (A := Part.old w) (B := clkH p b (now)) (C := mapC b (mp)) (D := rowW vn (forgetL L oid)) (by with_reducible repeat (first | exact Sel.here | apply Sel.there)) (by with_reducible repeat (first | exact Sel.here | apply Sel.there)) (by with_reducible repeat (first | exact Sel.here | apply Sel.there)) (by with_reducible repeat (first | exact Sel.here | apply Sel.there))⟩
      have hk4 := hk
      clear hk
      by_cases hk : kd = 5
      · have hk1' : (kd == 1) = false := by simp [hk]
        have hk2' : (kd == 2) = false := by simp [hk]
        have hk3' : (kd == 3) = false := by simp [hk]
        have hk4' : (kd == 4) = false := by simp [hk]
        have hk' : (kd == 5) = true := by simp [hk]
        by_cases h40 : 40 < ls.length
        · go_wp2_with fail
          refine bodyPost_ret (results_tmp rfl _ _ _) rfl ?_
          exact ⟨rfl, below_old hA (by with_reducible repeat (first | exact Sel.here | apply Sel.there))⟩
        · have h40' : ls.length ≤ 40 := by omega
          clear h40
          go_wp2_with fail
          refine (keep_any (R := Part.old w) (v := .slice la ls.length lc) (l := ls) hR.out (hA.sep3 (A := clkH p b now) (B := mapC b mp) (C := Part.old w) (by with_reducible repeat (first | exact Sel.here | apply Sel.there)) (by with_reducible repeat (first | exact Sel.here | apply Sel.there)) (by with_reducible repeat (first | exact Sel.here | apply Sel.there))) (fun x hx => (hgood.out.past x hx).1) hol.out (by omega)).mono ?_
          rintro e w6 ⟨mk, rfl, hkt0, hT⟩
          have hkt := Lib.hid hkt0
          clear hkt0
          have hB := hA.call3 (A := clkH p b now) (B := mapC b mp) (C := Part.old w) (by with_reducible repeat (first | exact Sel.here | apply Sel.there)) (by with_reducible repeat (first | exact Sel.here | apply Sel.there)) (by with_reducible repeat (first | exact Sel.here | apply Sel.there)) hT
          clear hF hA hT
          have hA := hB
          clear hB
          (try simp only [setL, List.set_cons_zero, List.set_cons_succ, List.cons_append, List.nil_append] at hA); (have hF := hA.facts); (try simp only [facts_cons, facts_nil, facts_cells, facts_old, facts_fact, facts_obj, facts_map, facts_iter, and_true, true_and] at hF)
          go_wp2_with fail
          try go_frame
          go_loopg [12, 90] ls.length (KeepRel2 w p b now mk v L ls)
          case atStart => exact ⟨0, .slice none 0 0, rfl, by simp, rfl, (row_nilW hA).only5 (A := Part.old w) (B := clkH p b now) (C := mapC b mk) (D := rowW v L) (E := rowW (.slice none 0 0) []) (by with_reducible repeat (first | exact Sel.here | apply Sel.there)) (by with_reducible repeat (first | exact Sel.here | apply Sel.there)) (by with_reducible repeat (first | exact Sel.here | apply Sel.there)) (by with_reducible repeat (first | exact Sel.here | apply Sel.there)) (by with_reducible repeat (first | exact Sel.here | apply Sel.there))⟩
          case round =>
            obtain ⟨j, vn, rfl, hjk, hu12, hB⟩ := hrel
            have hu12' := hu12.symm
            subst hu12'
            clear hF hA
            have hA := hB
            clear hB
            have hkl := (keepL_mem L now (ls.take j)).2.2
            rw [List.length_take] at hkl
            by_cases hj : j < ls.length
            · obtain ⟨g2, off2, rfl, d0, d1⟩ := hR.out.at (hA.get (A := Part.old w) (by with_reducible repeat (first | exact Sel.here | apply Sel.there))) j hj
              have hsn : ls.take (j + 1) = ls.take j ++ [ls[j]] := List.take_succ_eq_append_getElem hj
              have hks := Lib.hid ((congrArg (keepL L now) hsn).trans (keepL_snoc L now (ls.take j) ls[j]))
              clear hsn
              (try simp only [setL, List.set_cons_zero, List.set_cons_succ, List.cons_append, List.nil_append] at hA); (have hF := hA.facts); (try simp only [facts_cons, facts_nil, facts_cells, facts_old, facts_fact, facts_obj, facts_map, facts_iter, and_true, true_and] at hF)
              go_wp2_with (first | (refine wpList_store_at rfl rfl rfl (by (try simp only [Act.eval, Array.getD_eq_getD_getElem?, List.getElem?_toArray, List.getElem?_cons_succ, List.getElem?_cons_zero, Option.getD_some]) <;> exact rfl) (by exact rfl) hA (by with_reducible repeat (first | exact Sel.here | apply Sel.there)) (by kernel_rfl) rfl (by first | decide | (simp; done) | omega) ?_; intro w1 hB; clear hF hA; have hA := hB; clear hB; (try simp only [setL, List.set_cons_zero, List.set_cons_succ, List.cons_append, List.nil_append] at hA); (have hF := hA.facts); (try simp only [facts_cons, facts_nil, facts_cells, facts_old, facts_fact, facts_obj, facts_map, facts_iter, and_true, true_and] at hF)) | (refine wpList_box_at rfl rfl (by (try simp only [Act.eval, Array.getD_eq_getD_getElem?, List.getElem?_toArray, List.getElem?_cons_succ, List.getElem?_cons_zero, Option.getD_some]) <;> exact rfl) (by exact rfl) hA ?_; intro b1 w1 hB hb1; clear hF hA; have hA := hB; clear hB; (try simp only [setL, List.set_cons_zero, List.set_cons_succ, List.cons_append, List.nil_append] at hA); (have hF := hA.facts); (try simp only [facts_cons, facts_nil, facts_cells, facts_old, facts_fact, facts_obj, facts_map, facts_iter, and_true, true_and] at hF)) | (refine wpList_alloc_at (E := 50) (z := .agg #[.int .i64 0, .int .i64 0]) (vs := [.int .i64 0, .int .i64 0]) rfl rfl (by kernel_rfl) rfl hA ?_; intro b1 w1 hB hb1; clear hF hA; have hA := hB; clear hB; (try simp only [setL, List.set_cons_zero, List.set_cons_succ, List.cons_append, List.nil_append] at hA); (have hF := hA.facts); (try simp only [facts_cons, facts_nil, facts_cells, facts_old, facts_fact, facts_obj, facts_map, facts_iter, and_true, true_and] at hF)) | (refine wpList_alloc_at (E := 54) (z := .agg #[.int .i64 0, .int .i64 0]) (vs := [.int .i64 0, .int .i64 0]) rfl rfl (by kernel_rfl) rfl hA ?_; intro b1 w1 hB hb1; clear hF hA; have hA := hB; clear hB; (try simp only [setL, List.set_cons_zero, List.set_cons_succ, List.cons_append, List.nil_append] at hA); (have hF := hA.facts); (try simp only [facts_cons, facts_nil, facts_cells, facts_old, facts_fact, facts_obj, facts_map, facts_iter, and_true, true_and] at hF)))
              refine (since_any (v := v) (l := L) (hA.sep1 (A := rowW v L) (by with_reducible repeat (first | exact Sel.here | apply Sel.there))) ls[j] (by omega)).mono ?_
              rintro e w5 ⟨rfl, hT⟩
              have hB := hA.call1 (A := rowW v L) (by with_reducible repeat (first | exact Sel.here | apply Sel.there)) hT
              clear hF hA hT
              have hA := hB
              clear hB
              (try simp only [setL, List.set_cons_zero, List.set_cons_succ, List.cons_append, List.nil_append] at hA); (have hF := hA.facts); (try simp only [facts_cons, facts_nil, facts_cells, facts_old, facts_fact, facts_obj, facts_map, facts_iter, and_true, true_and] at hF)
              by_cases hs : sinceL L ls[j] < 0
              · have hso : sinceOr L ls[j] now = now := by unfold sinceOr; rw [if_pos hs]
                have hso' := Lib.hid hso
                clear hso
                go_wp2_with fail
                refine (again_any (v := vn) (l := keepL L now (ls.take j)) (hA.sep1 (A := rowW vn (keepL L now (ls.take j))) (by with_reducible repeat (first | exact Sel.here | apply Sel.there))) ls[j] now (by omega)).mono ?_
                rintro e w6 ⟨vm, rfl, hT⟩
                have hB := hA.call1 (A := rowW vn (keepL L now (ls.take j))) (by with_reducible repeat (first | exact Sel.here | apply Sel.there)) hT
                clear hF hA hT
                have hA := hB
                clear hB
                (try simp only [setL, List.set_cons_zero, List.set_cons_succ, List.cons_append, List.nil_append] at hA); (have hF := hA.facts); (try simp only [facts_cons, facts_nil, facts_cells, facts_old, facts_fact, facts_obj, facts_map, facts_iter, and_true, true_and] at hF)
                go_wp2_with fail
                go_roundg (gk - 1)
                case measure => omega
                case rel => exact ⟨j + 1, vm, by simp, by omega, rfl, by
                  rw [hks.out, hso'.out]
                  exact hA.only5 (A := Part.old w) (B := clkH p b now) (C := mapC b mk) (D := rowW v L) (E := rowW vm (againL (keepL L now (ls.take j)) ls[j] now)) (by with_reducible repeat (first | exact Sel.here | apply Sel.there)) (by with_reducible repeat (first | exact Sel.here | apply Sel.there)) (by with_reducible repeat (first | exact Sel.here | apply Sel.there)) (by with_reducible repeat (first | exact Sel.here | apply Sel.there)) (by repeat (first | exact Sel.here | apply Sel.there))⟩
              · have hso : sinceOr L ls[j] now = sinceL L ls[j] := by unfold sinceOr; rw [if_neg hs]
                have hso' := Lib.hid hso
                clear hso
                go_wp2_with fail
                refine (again_any (v := vn) (l := keepL L now (ls.take j)) (hA.sep1 (A := rowW vn (keepL L now (ls.take j))) (by with_reducible repeat (first | exact Sel.here | apply Sel.there))) ls[j] (sinceL L ls[j]) (by omega)).mono ?_
                rintro e w6 ⟨vm, rfl, hT⟩
                have hB := hA.call1 (A := rowW vn (keepL L now (ls.take j))) (by with_reducible repeat (first | exact Sel.here | apply Sel.there)) hT
                clear hF hA hT
                have hA := hB
                clear hB
                (try simp only [setL, List.set_cons_zero, List.set_cons_succ, List.cons_append, List.nil_append] at hA); (have hF := hA.facts); (try simp only [facts_cons, facts_nil, facts_cells, facts_old, facts_fact, facts_obj, facts_map, facts_iter, and_true, true_and] at hF)
                go_wp2_with fail
                go_roundg (gk - 1)
                case measure => omega
                case rel => exact ⟨j + 1, vm, by simp, by omega, rfl, by
                  rw [hks.out, hso'.out]
                  exact hA.only5 (A := Part.old w) (B := clkH p b now) (C := mapC b mk) (D := rowW v L) (E := rowW vm (againL (keepL L now (ls.take j)) ls[j] (sinceL L ls[j]))) (by with_reducible repeat (first | exact Sel.here | apply Sel.there)) (by with_reducible repeat (first | exact Sel.here | apply Sel.there)) (by with_reducible repeat (first | exact Sel.here | apply Sel.there)) (by with_reducible repeat (first | exact Sel.here | apply Sel.there)) (by repeat (first | exact Sel.here | apply Sel.there))⟩
            · have e : ls.take j = ls := List.take_of_length_le (by omega)
              rw [e] at hA hkl
              have hkl2 : (keepL L now ls).length ≤ 40 := by omega
              (try simp only [setL, List.set_cons_zero, List.set_cons_succ, List.cons_append, List.nil_append] at hA); (have hF := hA.facts); (try simp only [facts_cons, facts_nil, facts_cells, facts_old, facts_fact, facts_obj, facts_map, facts_iter, and_true, true_and] at hF)
              have hG := Lib.hid (hgood.out.keep hn0 hol.out hkt.out)
              have hnd : (mk).Pairwise (fun x y => x.1 ≠ y.1) := nd_of (hA.get (A := mapC b (mk)) (by with_reducible repeat (first | exact Sel.here | apply Sel.there)))
              have hag := Lib.hid (hG.out.agree hnd)
              clear hnd
              go_wp2_with fail
              refine (same_any (mp := mk) (L := keepL L now ls) (now := now) (v := vn) (hA.sep3 (A := clkH p b (now)) (B := mapC b (mk)) (C := rowW vn (keepL L now ls)) (by with_reducible repeat (first | exact Sel.here | apply Sel.there)) (by with_reducible repeat (first | exact Sel.here | apply Sel.there)) (by with_reducible repeat (first | exact Sel.here | apply Sel.there))) hag.out (by omega) (by omega)).mono ?_
              rintro e w9 ⟨rfl, hT⟩
              have hB := hA.call3 (A := clkH p b (now)) (B := mapC b (mk)) (C := rowW vn (keepL L now ls)) (by with_reducible repeat (first | exact Sel.here | apply Sel.there)) (by with_reducible repeat (first | exact Sel.here | apply Sel.there)) (by with_reducible repeat (first | exact Sel.here | apply Sel.there)) hT
              clear hF hA hT
              have hA := hB
              clear hB
              (try simp only [setL, List.set_cons_zero, List.set_cons_succ, List.cons_append, List.nil_append] at hA); (have hF := hA.facts); (try simp only [facts_cons, facts_nil, facts_cells, facts_old, facts_fact, facts_obj, facts_map, facts_iter, and_true, true_and] at hF)
              go_wp2_with fail
              go_roundg (os.length - (i + 1))
              case measure => omega
              case rel => exact ⟨i + 1, mk, keepL L now ls, now, vn, by simp, by omega, rfl, rfl, hG.out, hn0, by omega, by omega, hA.only4 (A := Part.old w) (B := clkH p b (now)) (C := mapC b (mk)) (D := rowW vn (keepL L now ls)) (by with_reducible repeat (first | exact Sel.here | apply Sel.there)) (by with_reducible repeat (first | exact Sel.here | apply Sel.there)) (by with_reducible repeat (first | exact Sel.here | apply Sel.there)) (by with_reducible repeat (first | exact Sel.here | apply Sel.there))⟩
      have hk5 := hk
      clear hk
      have hk1' : (kd == 1) = false := by simpa using hk1
      have hk2' : (kd == 2) = false := by simpa using hk2
      have hk3' : (kd == 3) = false := by simpa using hk3
      have hk4' : (kd == 4) = false := by simpa using hk4
      have hk5' : (kd == 5) = false := by simpa using hk5
      have hG := Lib.hid (hgood.out)
      have hnd : (mp).Pairwise (fun x y => x.1 ≠ y.1) := nd_of (hA.get (A := mapC b (mp)) (by with_reducible repeat (first | exact Sel.here | apply Sel.there)))
      have hag := Lib.hid (hG.out.agree hnd)
      clear hnd
      go_wp2_with fail
      refine (same_any (mp := mp) (L := L) (now := now) (v := v) (hA.sep3 (A := clkH p b (now)) (B := mapC b (mp)) (C := rowW v (L)) (by with_reducible repeat (first | exact Sel.here | apply Sel.there)) (by with_reducible repeat (first | exact Sel.here | apply Sel.there)) (by with_reducible repeat (first | exact Sel.here | apply Sel.there))) hag.out (by omega) (by omega)).mono ?_
      rintro e w9 ⟨rfl, hT⟩
      have hB := hA.call3 (A := clkH p b (now)) (B := mapC b (mp)) (C := rowW v (L)) (by with_reducible repeat (first | exact Sel.here | apply Sel.there)) (by with_reducible repeat (first | exact Sel.here | apply Sel.there)) (by with_reducible repeat (first | exact Sel.here | apply Sel.there)) hT
      clear hF hA hT
      have hA := hB
      clear hB
      (try simp only [setL, List.set_cons_zero, List.set_cons_succ, List.cons_append, List.nil_append] at hA); (have hF := hA.facts); (try simp only [facts_cons, facts_nil, facts_cells, facts_old, facts_fact, facts_obj, facts_map, facts_iter, and_true, true_and] at hF)
      go_wp2_with fail
      go_roundg (os.length - (i + 1))
      case measure => omega
      case rel => exact ⟨i + 1, mp, L, now, v, by simp, by omega, rfl, rfl, hG.out, hn0, by omega, by omega, hA.only4 (A := Part.old w) (B := clkH p b (now)) (C := mapC b (mp)) (D := rowW v (L)) (by with_reducible repeat (first | exact Sel.here | apply Sel.there)) (by with_reducible repeat (first | exact Sel.here | apply Sel.there)) (by with_reducible repeat (first | exact Sel.here | apply Sel.there)) (by with_reducible repeat (first | exact Sel.here | apply Sel.there))⟩
    · go_wp2_with fail
      go_ret
      exact ⟨rfl, below_old hA (by with_reducible repeat (first | exact Sel.here | apply Sel.there))⟩
end Go.Proofs.Yticmopnbfpgaiaa.Clk
