/- LockPu, joined. -/
import Derived.Test.YtalfoiodejoicaaGreatDoorJ22
import Derived.Test.YtalfoiodejoicaaGreatDoorJ25
section
namespace Go.Proofs.YtalfoiodejoicaaGreatDoor.Lock
open Go.RowKit Go.Shelf
open _root_.Go.Proofs.YtalfoiodejoicaaGreatDoor.Wire
open _root_.Go.Proofs.YtalfoiodejoicaaGreatDoor.Txt (ltP)
open Path (bl rightB)
set_option linter.unusedSimpArgs false
set_option linter.unusedVariables false
attribute [-go_sem] run_eql_struct run_neq_struct run_eqGuard_agg

theorem OutPost.r {w w' : World} {b : Nat} {u : Value} {l m : List Int} {e : Ending} (h : OutPost w b u l m e w') : ∃ x, e = .returned x ∧ (x = .pointer (some ⟨b, 0, none⟩) ∧ ∃ u', At [outC b u, rowY u l] w [outC b u', rowY u' (l ++ m)] w') := by
  obtain ⟨u', rfl, hT⟩ := h
  exact ⟨_, rfl, rfl, u', hT⟩
/-- a counter and its path -/
def withC (cs : List (ByteArray × Int)) (p : ByteArray) : ByteArray × Int := (p, (ctr cs p).getD 0)
theorem ctr_of_mem : ∀ {cs : List (ByteArray × Int)}, cs.Pairwise (fun a b => a.1 ≠ b.1) → ∀ {c : ByteArray × Int}, c ∈ cs → ctr cs c.1 = some c.2
  | d :: cs, hk, c, hc => by
    have h1 := List.pairwise_cons.1 hk
    unfold ctr
    rw [List.find?_cons]
    rcases List.mem_cons.1 hc with rfl | hc
    · simp
    · have hne : d.1 ≠ c.1 := h1.1 c hc
      have := ctr_of_mem h1.2 hc
      unfold ctr at this
      simpa [hne] using this
theorem withC_perm {cs : List (ByteArray × Int)} (hk : cs.Pairwise (fun a b => a.1 ≠ b.1)) {l : List ByteArray} (h : l.Perm (cs.map (·.1))) : (l.map (withC cs)).Perm cs := by
  have h1 := h.map (withC cs)
  have e : (cs.map (·.1)).map (withC cs) = cs := by
    rw [List.map_map]
    conv => rhs; rw [← List.map_id cs]
    refine List.map_congr_left fun c hc => ?_
    show (c.1, (ctr cs c.1).getD 0) = c
    rw [ctr_of_mem hk hc]
    rfl
  rw [e] at h1
  exact h1
def ltC (x y : ByteArray × Int) : Prop := ltP x.1 y.1
def PutPost (w : World) (a : Pl) (s : S3) (b : Nat) (u00 : Value) (l00 : List Int) (e : Ending) (w' : World) : Prop :=
  ∃ (l : List Ent) (m : List (ByteArray × Int)) (u : Value), e = .returned (.tuple #[]) ∧ l.Perm s.es ∧ l.Pairwise ltE ∧ m.Perm s.cs ∧ m.Pairwise ltC ∧ At [bookS a s, outC b u00, rowY u00 l00] w [bookS a s, outC b u, rowY u (l00 ++ encB l m)] w'
def PuRel (w : World) (a : Pl) (s : S3) (b : Nat) (u0 : Value) (l0 : List Int) (vl : Value) (L : List Ent) (k : Nat) (x : Value) (wr : World) : Prop :=
  ∃ (i : Nat) (u : Value) (l : List Int), x = .int .i64 i ∧ i + k = L.length ∧ l = l0 ++ shortN L.length ++ (L.take i).flatMap encE ∧ l.length ≤ l0.length + 10 + i * 2100000 ∧ At [bookS a s, outC b u0, rowY u0 l0] w [rowL vl L, bookS a s, outC b u, rowY u l] wr
def PvRel (w : World) (a : Pl) (s : S3) (b N : Nat) (u0 : Value) (l0 : List Int) (l7 : List Int) (vm : Value) (M : List ByteArray) (k : Nat) (x : Value) (wr : World) : Prop :=
  ∃ (i : Nat) (u : Value) (l : List Int), x = .int .i64 i ∧ i + k = M.length ∧ l = l7 ++ shortN M.length ++ ((M.map (withC s.cs)).take i).flatMap encC ∧ l.length ≤ l7.length + 10 + i * 200 ∧ At [bookS a s, outC b u0, rowY u0 l0] w [Part.row 9 1 vm M.length (M.flatMap Txt.seL), headC a.p a.m a.c s.first, mapC a.m (ents s.es), ctrC a.c (ctrs s.cs), outC b u, rowY u l] wr
theorem seL_len (x : ByteArray) : (Txt.seL x).length = 1 := rfl
set_option maxRecDepth 100000 in
set_option maxHeartbeats 4000000 in
theorem put_any {w : World} {a : Pl} {s : S3} {kI b : Nat} {u00 : Value} {l00 : List Int} (h : Sep [bookS a s, outC b u00, rowY u00 l00] w) (hI : Inv s kI) (hFt : Feet s) (hkI : kI ≤ 1000) (hl0 : l00.length ≤ 100000000000) :
    Calls Tryz.prog 21 #[.pointer (some ⟨a.p, 0, none⟩), .pointer (some ⟨b, 0, none⟩)] w (PutPost w a s b u00 l00) := by
  have hm : Tryz.prog.follows .mixedOrders = true := by kernel_rfl
  have hA := At.start h
  have hF := hA.facts
  clear h
  have hI' := Lib.hid hI
  have hok := Lib.hid (hI.okW hFt hkI)
  have hokC := Lib.hid hI.okV
  have hel : s.es.length ≤ 1000 := by have := hI.len; omega
  have hcl0 : s.cs.length ≤ 1000 := by have := hI.clen; omega
  clear hI hFt
  (try simp only [setL, List.set_cons_zero, List.set_cons_succ, List.cons_append, List.nil_append] at hA); (have hF := hA.facts); (try simp only [facts_cons, facts_nil, facts_cells, facts_old, facts_fact, facts_obj, facts_map, facts_iter, facts_row, and_true, true_and] at hF)
  go_enter Tryz.func21, Tryz.ntmps21
  go_wp2_with fail
  refine (list_at (hA.sep1 (A := bookS a s) (by with_reducible repeat (first | exact Sel.here | apply Sel.there))) hI'.out hkI).mono ?_
  rintro e w1 ⟨vl, L, rfl, hperm, hpw, hT⟩
  have hB := hA.call1 (A := bookS a s) (by with_reducible repeat (first | exact Sel.here | apply Sel.there)) hT
  have hLl : L.length ≤ 1000 := by rw [hperm.length_eq]; exact hel
  have hLm := Lib.hid (fun x => (hperm.mem_iff (a := x)).1)
  have hperm' := Lib.hid hperm
  have hpw' := Lib.hid hpw
  clear hF hA hT hperm hpw
  have hA := hB
  clear hB
  simp only [List.cons_append, List.nil_append] at hA
  obtain ⟨lx, lcap, rfl, hlx, hlcap, _⟩ := hA.row_form (v := vl) (n := L.length) (xs := L.flatMap Ent.cells) (by with_reducible repeat (first | exact Sel.here | apply Sel.there))
  have hwL : IntKind.u64.wrap (L.length : Int) = (L.length : Int) := by rw [IntKind.wrap_u64]; omega
  have hF := hA.facts
  (try simp only [setL, List.set_cons_zero, List.set_cons_succ, List.cons_append, List.nil_append] at hA); (have hF := hA.facts); (try simp only [facts_cons, facts_nil, facts_cells, facts_old, facts_fact, facts_obj, facts_map, facts_iter, facts_row, and_true, true_and] at hF)
  go_wp2_with fail
  refine (outShort (hA.sep2 (A := outC b u00) (B := rowY u00 l00) (by with_reducible repeat (first | exact Sel.here | apply Sel.there)) (by with_reducible repeat (first | exact Sel.here | apply Sel.there))) L.length (by omega) (by omega)).mono ?_
  rintro e w2 ⟨u1, rfl, hT⟩
  have hB := hA.call2 (A := outC b u00) (B := rowY u00 l00) (by with_reducible repeat (first | exact Sel.here | apply Sel.there)) (by with_reducible repeat (first | exact Sel.here | apply Sel.there)) hT
  have hsl := short_len 9 L.length (by omega)
  clear hF hA hT
  have hA := hB
  clear hB
  simp only [List.cons_append, List.nil_append] at hA
  have hF := hA.facts
  (try simp only [setL, List.set_cons_zero, List.set_cons_succ, List.cons_append, List.nil_append] at hA); (have hF := hA.facts); (try simp only [facts_cons, facts_nil, facts_cells, facts_old, facts_fact, facts_obj, facts_map, facts_iter, facts_row, and_true, true_and] at hF)
  go_wp2_with fail
  try go_frame
  go_loopg [19] L.length (PuRel w a s b u00 l00 (.slice lx L.length lcap) L)
  case atStart => exact ⟨0, u1, l00 ++ shortN L.length, rfl, by simp, by simp, by rw [List.length_append]; omega, hA.pick (by repeat (first | exact Picks.nil | refine Picks.cons (by repeat (first | exact Sel.here | apply Sel.there)) ?_))⟩
  case round =>
    obtain ⟨i, u0, l0, rfl, hik, hle, hll, hB⟩ := hrel
    have hle' := Lib.hid hle
    clear hF hA hle hsl
    have hA := hB
    clear hB
    by_cases hi : i < L.length
    · have hmem := hLm.out _ (List.getElem_mem hi)
      obtain ⟨⟨n0, n1, k0, k1, s0⟩, hpb, hfz, hsb, hmo, hnb⟩ := hok.out _ hmem
      have htk := Lib.hid (List.take_succ_eq_append_getElem hi)
      obtain ⟨g, c, rfl, cp1, cm, cl, ct, hB⟩ := hA.row_open (ax := lx) (cap := lcap) (n := L.length) (xs := L.flatMap Ent.cells) (by with_reducible repeat (first | exact Sel.here | apply Sel.there)) (by omega)
      have hx : L[i]? = some L[i] := List.getElem?_eq_getElem hi
      have hct := ct
      (have c0 : c[i * 6]? = some (.string L[i].path) := cells_at Ent.cells_len hct hx 0 (by omega)); (have c1 : c[i * 6 + 1]? = some (.int .u64 L[i].num) := cells_at Ent.cells_len hct hx 1 (by omega)); (have c2 : c[i * 6 + 2]? = some (.string L[i].foot) := cells_at Ent.cells_len hct hx 2 (by omega)); (have c3 : c[i * 6 + 3]? = some (.int .i64 L[i].mode) := cells_at Ent.cells_len hct hx 3 (by omega)); (have c4 : c[i * 6 + 4]? = some (.int .u64 L[i].n) := cells_at Ent.cells_len hct hx 4 (by omega)); (have c5 : c[i * 6 + 5]? = some (.int .i64 L[i].stamp) := cells_at Ent.cells_len hct hx 5 (by omega))
      obtain ⟨x, hs⟩ : ∃ x, L[i] = x := ⟨_, rfl⟩
      rw [hs] at htk c0 c1 c2 c3 c4 c5 n0 n1 k0 k1 s0 hpb hfz hsb hmo hnb
      clear hA hx hs hmem hct
      have hA := hB
      clear hB
      obtain ⟨path, num, foot, mode, n, stamp⟩ := x
      simp only at c0 c1 c2 c3 c4 c5 n0 n1 k0 k1 s0 hpb hfz hsb hmo hnb
      obtain ⟨num, rfl⟩ : ∃ k : Nat, num = k := ⟨num.toNat, by omega⟩
      obtain ⟨n, rfl⟩ : ∃ k : Nat, n = k := ⟨n.toNat, by omega⟩
      obtain ⟨stamp, rfl⟩ : ∃ k : Nat, stamp = k := ⟨stamp.toNat, by omega⟩
      have hn64 : num < 18446744073709551616 := by omega
      have hk64 : n < 18446744073709551616 := by omega
      have hwm : IntKind.u8.wrap mode = mode := by rcases hmo with rfl | rfl <;> rfl
      have hws : IntKind.u64.wrap (stamp : Int) = (stamp : Int) := by rw [IntKind.wrap_u64]; omega
      have hft := textB_le foot (by omega)
      have hpt := textB_le path (by omega)
      have hib : i * 2100000 ≤ 1000 * 2100000 := Nat.mul_le_mul_right _ (by omega)
      clear hmo
      have hF := hA.facts
      (try simp only [setL, List.set_cons_zero, List.set_cons_succ, List.cons_append, List.nil_append] at hA); (have hF := hA.facts); (try simp only [facts_cons, facts_nil, facts_cells, facts_old, facts_fact, facts_obj, facts_map, facts_iter, facts_row, and_true, true_and] at hF)
      go_wp2_with (first | ((with_reducible show wpList _ _ _ ({ dst := _, op := Op.alloc _, type := _, pos := _, after := _, guard := _ } :: _) _ _); refine wpList_alloc_at (E := 115) (z := .agg #[.string .empty, .int .u64 0, .string .empty, .int .i64 0, .int .u64 0, .int .i64 0]) (vs := [.string .empty, .int .u64 0, .string .empty, .int .i64 0, .int .u64 0, .int .i64 0]) rfl rfl (by kernel_rfl) rfl hA ?_; intro bE w1 hB hbE; clear hF hA; have hA := hB; clear hB; (try simp only [setL, List.set_cons_zero, List.set_cons_succ, List.cons_append, List.nil_append] at hA); (have hF := hA.facts); (try simp only [facts_cons, facts_nil, facts_cells, facts_old, facts_fact, facts_obj, facts_map, facts_iter, facts_row, and_true, true_and] at hF)) | ((with_reducible show wpList _ _ _ ({ dst := _, op := Op.store _ _ _, type := _, pos := _, after := _, guard := _ } :: _) _ _); refine wpList_store_at rfl rfl rfl (by (try simp only [Act.eval, Array.getD_eq_getD_getElem?, List.getElem?_toArray, List.getElem?_cons_succ, List.getElem?_cons_zero, Option.getD_some]) <;> exact rfl) (by exact rfl) hA (by with_reducible repeat (first | exact Sel.here | apply Sel.there)) (by kernel_rfl) rfl (by first | decide | (simp; done) | omega) ?_; intro w1 hB; clear hF hA; have hA := hB; clear hB; (try simp only [setL, List.set_cons_zero, List.set_cons_succ, List.cons_append, List.nil_append] at hA); (have hF := hA.facts); (try simp only [facts_cons, facts_nil, facts_cells, facts_old, facts_fact, facts_obj, facts_map, facts_iter, facts_row, and_true, true_and] at hF)) | ((with_reducible show wpList _ _ _ ({ dst := _, op := Op.box _ _, type := _, pos := _, after := _, guard := _ } :: _) _ _); refine wpList_box_at rfl rfl (by (try simp only [Act.eval, Array.getD_eq_getD_getElem?, List.getElem?_toArray, List.getElem?_cons_succ, List.getElem?_cons_zero, Option.getD_some]) <;> exact rfl) (by exact rfl) hA ?_; intro b1 w1 hB hb1; clear hF hA; have hA := hB; clear hB; (try simp only [setL, List.set_cons_zero, List.set_cons_succ, List.cons_append, List.nil_append] at hA); (have hF := hA.facts); (try simp only [facts_cons, facts_nil, facts_cells, facts_old, facts_fact, facts_obj, facts_map, facts_iter, facts_row, and_true, true_and] at hF)))
      try go_frame
      have hAd := hA.drew
      clear hF hA
      have hA := hAd
      clear hAd
      refine wp_region_held (S := fun w' => BlockIs w' bE [.string path, .int .u64 (num : Int), .string foot, .int .i64 mode, .int .u64 (n : Int), .int .i64 (stamp : Int)] 115) hm ?_
      change wpAnyH _ _ _ _ _ 23 _ _ (World.drew _)
      generalize World.drew _ = w2 at *
      have hS0 := (show BlockIs _ bE [.string path, .int .u64 (num : Int), .string foot, .int .i64 mode, .int .u64 (n : Int), .int .i64 (stamp : Int)] 115 from hA.get (A := .cells bE [.string path, .int .u64 (num : Int), .string foot, .int .i64 mode, .int .u64 (n : Int), .int .i64 (stamp : Int)] 115) (by with_reducible repeat (first | exact Sel.here | apply Sel.there)))
      refine wpAnyH_takeD (i := 0) (d := some 23) (v := (.pointer (some ⟨b, 0, none⟩))) rfl rfl (by kernel_rfl) (by kernel_rfl) (by kernel_rfl) (fun _ _ _ h => h) rfl (fun w' hS => by simp [execOp, go_sem, Act.eval, Act.put]) hS0 ?_
      go_frame
      refine wpAnyH_takeD (i := 1) (d := some 24) (v := (.pointer (some ⟨bE, 0, none⟩))) rfl rfl (by kernel_rfl) (by kernel_rfl) (by kernel_rfl) (fun _ _ _ h => h) rfl (fun w' hS => by kernel_rfl) hS0 ?_
      go_frame
      refine wpAnyH_takeD (i := 2) (d := some 25) (v := (.string path)) rfl rfl (by kernel_rfl) (by kernel_rfl) (by kernel_rfl) (fun _ _ _ h => h) rfl (fun w' hS => run_load_one (b := bE) (j := 0) rfl (by exact rfl) hS (by kernel_rfl) rfl) hS0 ?_
      go_frame
      refine wpAnyH_takeD (i := 4) (d := some 27) (v := (.pointer (some ⟨bE, 1, none⟩))) rfl rfl (by kernel_rfl) (by kernel_rfl) (by kernel_rfl) (fun _ _ _ h => h) rfl (fun w' hS => by kernel_rfl) hS0 ?_
      go_frame
      refine wpAnyH_takeD (i := 5) (d := some 28) (v := (.pointer (some ⟨bE, 1, none⟩))) rfl rfl (by kernel_rfl) (by kernel_rfl) (by kernel_rfl) (fun _ _ _ h => h) rfl (fun w' hS => by kernel_rfl) hS0 ?_
      go_frame
      refine wpAnyH_takeD (i := 6) (d := some 29) (v := (.int .u64 (num : Int))) rfl rfl (by kernel_rfl) (by kernel_rfl) (by kernel_rfl) (fun _ _ _ h => h) rfl (fun w' hS => run_load_one (b := bE) (j := 1) rfl (by exact rfl) hS (by kernel_rfl) rfl) hS0 ?_
      go_frame
      refine wpAnyH_takeD (i := 8) (d := some 31) (v := (.pointer (some ⟨bE, 1, none⟩))) rfl rfl (by kernel_rfl) (by kernel_rfl) (by kernel_rfl) (fun _ _ _ h => h) rfl (fun w' hS => by kernel_rfl) hS0 ?_
      go_frame
      refine wpAnyH_takeD (i := 9) (d := some 32) (v := (.pointer (some ⟨bE, 2, none⟩))) rfl rfl (by kernel_rfl) (by kernel_rfl) (by kernel_rfl) (fun _ _ _ h => h) rfl (fun w' hS => by kernel_rfl) hS0 ?_
      go_frame
      refine wpAnyH_takeD (i := 10) (d := some 33) (v := (.string foot)) rfl rfl (by kernel_rfl) (by kernel_rfl) (by kernel_rfl) (fun _ _ _ h => h) rfl (fun w' hS => run_load_one (b := bE) (j := 2) rfl (by exact rfl) hS (by kernel_rfl) rfl) hS0 ?_
      go_frame
      refine wpAnyH_takeD (i := 12) (d := some 35) (v := (.pointer (some ⟨bE, 3, none⟩))) rfl rfl (by kernel_rfl) (by kernel_rfl) (by kernel_rfl) (fun _ _ _ h => h) rfl (fun w' hS => by kernel_rfl) hS0 ?_
      go_frame
      refine wpAnyH_takeD (i := 13) (d := some 36) (v := (.int .i64 mode)) rfl rfl (by kernel_rfl) (by kernel_rfl) (by kernel_rfl) (fun _ _ _ h => h) rfl (fun w' hS => run_load_one (b := bE) (j := 3) rfl (by exact rfl) hS (by kernel_rfl) rfl) hS0 ?_
      go_frame
      refine wpAnyH_takeD (i := 14) (d := some 37) (v := (.int .u8 mode)) rfl rfl (by kernel_rfl) (by kernel_rfl) (by kernel_rfl) (fun _ _ _ h => h) rfl (fun w' hS => by simp [execOp, go_sem, Act.eval, Act.put, hwm]) hS0 ?_
      go_frame
      refine wpAnyH_takeD (i := 16) (d := some 39) (v := (.pointer (some ⟨bE, 4, none⟩))) rfl rfl (by kernel_rfl) (by kernel_rfl) (by kernel_rfl) (fun _ _ _ h => h) rfl (fun w' hS => by kernel_rfl) hS0 ?_
      go_frame
      refine wpAnyH_takeD (i := 17) (d := some 40) (v := (.int .u64 (n : Int))) rfl rfl (by kernel_rfl) (by kernel_rfl) (by kernel_rfl) (fun _ _ _ h => h) rfl (fun w' hS => run_load_one (b := bE) (j := 4) rfl (by exact rfl) hS (by kernel_rfl) rfl) hS0 ?_
      go_frame
      refine wpAnyH_takeD (i := 19) (d := some 42) (v := (.pointer (some ⟨bE, 5, none⟩))) rfl rfl (by kernel_rfl) (by kernel_rfl) (by kernel_rfl) (fun _ _ _ h => h) rfl (fun w' hS => by kernel_rfl) hS0 ?_
      go_frame
      refine wpAnyH_takeD (i := 20) (d := some 43) (v := (.int .i64 (stamp : Int))) rfl rfl (by kernel_rfl) (by kernel_rfl) (by kernel_rfl) (fun _ _ _ h => h) rfl (fun w' hS => run_load_one (b := bE) (j := 5) rfl (by exact rfl) hS (by kernel_rfl) rfl) hS0 ?_
      go_frame
      refine wpAnyH_takeD (i := 21) (d := some 44) (v := (.int .u64 (stamp : Int))) rfl rfl (by kernel_rfl) (by kernel_rfl) (by kernel_rfl) (fun _ _ _ h => h) rfl (fun w' hS => by simp [execOp, go_sem, Act.eval, Act.put, hws]) hS0 ?_
      go_frame
      clear hS0
      refine wpAnyH_one (i := 3) (by kernel_rfl) ?_
      refine opCall_at (i := 3) (d := some 26) rfl rfl rfl (fn := 60) (args := #[(.pointer (some ⟨b, 0, none⟩)), .string path]) (by simp [execOp, go_sem, Act.eval, Act.put]) ((outText (hA.sep2 (A := outC b u0) (B := rowY u0 l0) (by with_reducible repeat (first | exact Sel.here | apply Sel.there)) (by with_reducible repeat (first | exact Sel.here | apply Sel.there))) path (by omega) (by omega)).mono (fun e w' h => OutPost.r h)) ?_
      rintro xq zq ⟨rfl, u1, hT⟩
      have hB := hA.call2 (A := outC b u0) (B := rowY u0 l0) (by with_reducible repeat (first | exact Sel.here | apply Sel.there)) (by with_reducible repeat (first | exact Sel.here | apply Sel.there)) hT
      obtain ⟨l1, he1⟩ : ∃ z, l0 ++ textB path = z := ⟨_, rfl⟩
      have hl1 : l1.length ≤ l0.length + (10 + path.size) := by have := hpt; rw [← he1, List.length_append]; omega
      rw [he1] at hB
      have he1' := Lib.hid he1
      clear hA hT he1
      have hA := hB
      clear hB
      simp only [List.cons_append, List.nil_append] at hA
      refine ⟨(show BlockIs _ bE [.string path, .int .u64 (num : Int), .string foot, .int .i64 mode, .int .u64 (n : Int), .int .i64 (stamp : Int)] 115 from hA.get (A := .cells bE [.string path, .int .u64 (num : Int), .string foot, .int .i64 mode, .int .u64 (n : Int), .int .i64 (stamp : Int)] 115) (by with_reducible repeat (first | exact Sel.here | apply Sel.there))), ?_⟩
      go_frame
      refine wpAnyH_one (i := 7) (by kernel_rfl) ?_
      refine opCall_at (i := 7) (d := some 30) rfl rfl rfl (fn := 61) (args := #[(.pointer (some ⟨b, 0, none⟩)), .int .u64 (num : Int)]) (by simp [execOp, go_sem, Act.eval, Act.put]) ((outFixed (hA.sep2 (A := outC b u1) (B := rowY u1 l1) (by with_reducible repeat (first | exact Sel.here | apply Sel.there)) (by with_reducible repeat (first | exact Sel.here | apply Sel.there))) num hn64 (by omega)).mono (fun e w' h => OutPost.r h)) ?_
      rintro xq zq ⟨rfl, u2, hT⟩
      have hB := hA.call2 (A := outC b u1) (B := rowY u1 l1) (by with_reducible repeat (first | exact Sel.here | apply Sel.there)) (by with_reducible repeat (first | exact Sel.here | apply Sel.there)) hT
      obtain ⟨l2, he2⟩ : ∃ z, l1 ++ fixL num = z := ⟨_, rfl⟩
      have hl2 : l2.length ≤ l1.length + 8 := by have := (show (fixL num).length ≤ 8 from by simp [fixL]); rw [← he2, List.length_append]; omega
      rw [he2] at hB
      have he2' := Lib.hid he2
      clear hA hT he2
      have hA := hB
      clear hB
      simp only [List.cons_append, List.nil_append] at hA
      refine ⟨(show BlockIs _ bE [.string path, .int .u64 (num : Int), .string foot, .int .i64 mode, .int .u64 (n : Int), .int .i64 (stamp : Int)] 115 from hA.get (A := .cells bE [.string path, .int .u64 (num : Int), .string foot, .int .i64 mode, .int .u64 (n : Int), .int .i64 (stamp : Int)] 115) (by with_reducible repeat (first | exact Sel.here | apply Sel.there))), ?_⟩
      go_frame
      refine wpAnyH_one (i := 11) (by kernel_rfl) ?_
      refine opCall_at (i := 11) (d := some 34) rfl rfl rfl (fn := 60) (args := #[(.pointer (some ⟨b, 0, none⟩)), .string foot]) (by simp [execOp, go_sem, Act.eval, Act.put]) ((outText (hA.sep2 (A := outC b u2) (B := rowY u2 l2) (by with_reducible repeat (first | exact Sel.here | apply Sel.there)) (by with_reducible repeat (first | exact Sel.here | apply Sel.there))) foot (by omega) (by omega)).mono (fun e w' h => OutPost.r h)) ?_
      rintro xq zq ⟨rfl, u3, hT⟩
      have hB := hA.call2 (A := outC b u2) (B := rowY u2 l2) (by with_reducible repeat (first | exact Sel.here | apply Sel.there)) (by with_reducible repeat (first | exact Sel.here | apply Sel.there)) hT
      obtain ⟨l3, he3⟩ : ∃ z, l2 ++ textB foot = z := ⟨_, rfl⟩
      have hl3 : l3.length ≤ l2.length + (10 + foot.size) := by have := hft; rw [← he3, List.length_append]; omega
      rw [he3] at hB
      have he3' := Lib.hid he3
      clear hA hT he3
      have hA := hB
      clear hB
      simp only [List.cons_append, List.nil_append] at hA
      refine ⟨(show BlockIs _ bE [.string path, .int .u64 (num : Int), .string foot, .int .i64 mode, .int .u64 (n : Int), .int .i64 (stamp : Int)] 115 from hA.get (A := .cells bE [.string path, .int .u64 (num : Int), .string foot, .int .i64 mode, .int .u64 (n : Int), .int .i64 (stamp : Int)] 115) (by with_reducible repeat (first | exact Sel.here | apply Sel.there))), ?_⟩
      go_frame
      refine wpAnyH_one (i := 15) (by kernel_rfl) ?_
      refine opCall_at (i := 15) (d := some 38) rfl rfl rfl (fn := 62) (args := #[(.pointer (some ⟨b, 0, none⟩)), .int .u8 mode]) (by simp [execOp, go_sem, Act.eval, Act.put]) ((outByte (hA.sep2 (A := outC b u3) (B := rowY u3 l3) (by with_reducible repeat (first | exact Sel.here | apply Sel.there)) (by with_reducible repeat (first | exact Sel.here | apply Sel.there))) mode (by omega)).mono (fun e w' h => OutPost.r h)) ?_
      rintro xq zq ⟨rfl, u4, hT⟩
      have hB := hA.call2 (A := outC b u3) (B := rowY u3 l3) (by with_reducible repeat (first | exact Sel.here | apply Sel.there)) (by with_reducible repeat (first | exact Sel.here | apply Sel.there)) hT
      obtain ⟨l4, he4⟩ : ∃ z, l3 ++ [mode] = z := ⟨_, rfl⟩
      have hl4 : l4.length ≤ l3.length + 1 := by have := (show ([mode] : List Int).length ≤ 1 from Nat.le_refl _); rw [← he4, List.length_append]; omega
      rw [he4] at hB
      have he4' := Lib.hid he4
      clear hA hT he4
      have hA := hB
      clear hB
      simp only [List.cons_append, List.nil_append] at hA
      refine ⟨(show BlockIs _ bE [.string path, .int .u64 (num : Int), .string foot, .int .i64 mode, .int .u64 (n : Int), .int .i64 (stamp : Int)] 115 from hA.get (A := .cells bE [.string path, .int .u64 (num : Int), .string foot, .int .i64 mode, .int .u64 (n : Int), .int .i64 (stamp : Int)] 115) (by with_reducible repeat (first | exact Sel.here | apply Sel.there))), ?_⟩
      go_frame
      refine wpAnyH_one (i := 18) (by kernel_rfl) ?_
      refine opCall_at (i := 18) (d := some 41) rfl rfl rfl (fn := 61) (args := #[(.pointer (some ⟨b, 0, none⟩)), .int .u64 (n : Int)]) (by simp [execOp, go_sem, Act.eval, Act.put]) ((outFixed (hA.sep2 (A := outC b u4) (B := rowY u4 l4) (by with_reducible repeat (first | exact Sel.here | apply Sel.there)) (by with_reducible repeat (first | exact Sel.here | apply Sel.there))) n hk64 (by omega)).mono (fun e w' h => OutPost.r h)) ?_
      rintro xq zq ⟨rfl, u5, hT⟩
      have hB := hA.call2 (A := outC b u4) (B := rowY u4 l4) (by with_reducible repeat (first | exact Sel.here | apply Sel.there)) (by with_reducible repeat (first | exact Sel.here | apply Sel.there)) hT
      obtain ⟨l5, he5⟩ : ∃ z, l4 ++ fixL n = z := ⟨_, rfl⟩
      have hl5 : l5.length ≤ l4.length + 8 := by have := (show (fixL n).length ≤ 8 from by simp [fixL]); rw [← he5, List.length_append]; omega
      rw [he5] at hB
      have he5' := Lib.hid he5
      clear hA hT he5
      have hA := hB
      clear hB
      simp only [List.cons_append, List.nil_append] at hA
      refine ⟨(show BlockIs _ bE [.string path, .int .u64 (num : Int), .string foot, .int .i64 mode, .int .u64 (n : Int), .int .i64 (stamp : Int)] 115 from hA.get (A := .cells bE [.string path, .int .u64 (num : Int), .string foot, .int .i64 mode, .int .u64 (n : Int), .int .i64 (stamp : Int)] 115) (by with_reducible repeat (first | exact Sel.here | apply Sel.there))), ?_⟩
      go_frame
      refine wpAnyH_one (i := 22) (by kernel_rfl) ?_
      refine opCall_at (i := 22) (d := some 45) rfl rfl rfl (fn := 59) (args := #[(.pointer (some ⟨b, 0, none⟩)), .int .u64 (stamp : Int)]) (by simp [execOp, go_sem, Act.eval, Act.put]) ((outShort (hA.sep2 (A := outC b u5) (B := rowY u5 l5) (by with_reducible repeat (first | exact Sel.here | apply Sel.there)) (by with_reducible repeat (first | exact Sel.here | apply Sel.there))) stamp (by omega) (by omega)).mono (fun e w' h => OutPost.r h)) ?_
      rintro xq zq ⟨rfl, u6, hT⟩
      have hB := hA.call2 (A := outC b u5) (B := rowY u5 l5) (by with_reducible repeat (first | exact Sel.here | apply Sel.there)) (by with_reducible repeat (first | exact Sel.here | apply Sel.there)) hT
      obtain ⟨l6, he6⟩ : ∃ z, l5 ++ shortN stamp = z := ⟨_, rfl⟩
      have hl6 : l6.length ≤ l5.length + 10 := by have := short_len 9 stamp (by omega); rw [← he6, List.length_append]; omega
      rw [he6] at hB
      have he6' := Lib.hid he6
      clear hA hT he6
      have hA := hB
      clear hB
      simp only [List.cons_append, List.nil_append] at hA
      refine ⟨(show BlockIs _ bE [.string path, .int .u64 (num : Int), .string foot, .int .i64 mode, .int .u64 (n : Int), .int .i64 (stamp : Int)] 115 from hA.get (A := .cells bE [.string path, .int .u64 (num : Int), .string foot, .int .i64 mode, .int .u64 (n : Int), .int .i64 (stamp : Int)] 115) (by with_reducible repeat (first | exact Sel.here | apply Sel.there))), ?_⟩
      go_frame
      refine wpAnyH_done (by kernel_rfl) ?_ _
      try go_frame
      have hF := hA.facts
      (try simp only [setL, List.set_cons_zero, List.set_cons_succ, List.cons_append, List.nil_append] at hA); (have hF := hA.facts); (try simp only [facts_cons, facts_nil, facts_cells, facts_old, facts_fact, facts_obj, facts_map, facts_iter, facts_row, and_true, true_and] at hF)
      go_wp2_with (first | ((with_reducible show wpList _ _ _ ({ dst := _, op := Op.store _ _ _, type := _, pos := _, after := _, guard := _ } :: _) _ _); refine wpList_store_at rfl rfl rfl (by (try simp only [Act.eval, Array.getD_eq_getD_getElem?, List.getElem?_toArray, List.getElem?_cons_succ, List.getElem?_cons_zero, Option.getD_some]) <;> exact rfl) (by exact rfl) hA (by with_reducible repeat (first | exact Sel.here | apply Sel.there)) (by kernel_rfl) rfl (by first | decide | (simp; done) | omega) ?_; intro w1 hB; clear hF hA; have hA := hB; clear hB; (try simp only [setL, List.set_cons_zero, List.set_cons_succ, List.cons_append, List.nil_append] at hA); (have hF := hA.facts); (try simp only [facts_cons, facts_nil, facts_cells, facts_old, facts_fact, facts_obj, facts_map, facts_iter, facts_row, and_true, true_and] at hF)) | ((with_reducible show wpList _ _ _ ({ dst := _, op := Op.box _ _, type := _, pos := _, after := _, guard := _ } :: _) _ _); refine wpList_box_at rfl rfl (by (try simp only [Act.eval, Array.getD_eq_getD_getElem?, List.getElem?_toArray, List.getElem?_cons_succ, List.getElem?_cons_zero, Option.getD_some]) <;> exact rfl) (by exact rfl) hA ?_; intro b1 w1 hB hb1; clear hF hA; have hA := hB; clear hB; (try simp only [setL, List.set_cons_zero, List.set_cons_succ, List.cons_append, List.nil_append] at hA); (have hF := hA.facts); (try simp only [facts_cons, facts_nil, facts_cells, facts_old, facts_fact, facts_obj, facts_map, facts_iter, facts_row, and_true, true_and] at hF)))
      go_roundg (gk - 1)
      case measure => omega
      case rel =>
        have hS := hA.row_shut (e := 115) (size := 6) (n := L.length) (cap := lcap) (xs := L.flatMap Ent.cells) (g := g) (c := c) (by with_reducible repeat (first | exact Sel.here | apply Sel.there)) cl cp1 cm ct
        refine ⟨i + 1, u6, l6, by simp, by omega, ?_, by omega, hS.pick (by repeat (first | exact Picks.nil | refine Picks.cons (by repeat (first | exact Sel.here | apply Sel.there)) ?_))⟩
        rw [htk.out, ← he6'.out, ← he5'.out, ← he4'.out, ← he3'.out, ← he2'.out, ← he1'.out, hle'.out]
        simp only [List.flatMap_append, List.flatMap_cons, List.flatMap_nil, List.append_nil, encE, Int.toNat_natCast, List.append_assoc]
    · have hle2 := hle'.out
      rw [List.take_of_length_le (by omega)] at hle2
      have hle3 := Lib.hid hle2
      have hl7 : l0.length ≤ l00.length + 3000000000 := by
        have : i * 2100000 ≤ 1000 * 2100000 := Nat.mul_le_mul_right _ (by omega)
        omega
      clear hle2 hle' hll hik
      have hB := open0 hA (b := a.at s) (by with_reducible repeat (first | exact Sel.here | apply Sel.there))
      simp only [Pl.at] at hB
      clear hA
      have hA := hB
      clear hB
      have hF := hA.facts
      (try simp only [setL, List.set_cons_zero, List.set_cons_succ, List.cons_append, List.nil_append] at hA); (have hF := hA.facts); (try simp only [facts_cons, facts_nil, facts_cells, facts_old, facts_fact, facts_obj, facts_map, facts_iter, facts_row, and_true, true_and] at hF)
      go_wp2_with fail
      refine (callsIn_wide.1 (Txt.keys_in Fence.wide 1 trivial rfl (some a.c) wr)).mono ?_
      rintro e _ ⟨rfl, rfl⟩
      have hB := hA.alloc [.map (some a.c)] 121
      have hnd : (s.cs.map (·.1)).Nodup := List.pairwise_map.2 hI'.out.ckeys
      have hkm := Lib.hid (show (ctrs s.cs).map (·.1) = (s.cs.map (·.1)).map Txt.seV from by simp [ctrs, ctrE, Txt.seV])
      go_wp2_with fail
      refine (Txt.sorted_any wr.heap.size a.c (ctrs s.cs) (s.cs.map (·.1)) hkm.out hnd _ (by simp) ((BlockIs.alloc wr [.map (some a.c)] 121).cell 0) (hB.get (A := ctrC a.c (ctrs s.cs)) (by with_reducible repeat (first | exact Sel.here | apply Sel.there))) (by simp; omega)
        (fun k hk => by obtain ⟨c, hc, rfl⟩ := List.mem_map.1 hk; exact hI'.out.cright c hc) (fun k hk => by obtain ⟨c, hc, rfl⟩ := List.mem_map.1 hk; have := hI'.out.cpath c hc; omega)).mono ?_
      clear hkm
      rintro e w4 ⟨vm, M, rfl, hMp, hMw, hown, hbw⟩
      have hC := hB.row_new hbw hown
      clear hB hown hbw hA hF
      have hA := hC
      clear hC
      have hMl : M.length ≤ 1000 := by rw [hMp.length_eq, List.length_map]; exact hcl0
      have hMp' := Lib.hid hMp
      have hMw' := Lib.hid hMw
      clear hMp hMw hnd
      obtain ⟨mx, mcap, rfl, hmx, hmcap, _⟩ := hA.row_form (v := vm) (n := M.length) (xs := M.flatMap Txt.seL) (by with_reducible repeat (first | exact Sel.here | apply Sel.there))
      have hwM : IntKind.u64.wrap (M.length : Int) = (M.length : Int) := by rw [IntKind.wrap_u64]; omega
      have hF := hA.facts
      (try simp only [setL, List.set_cons_zero, List.set_cons_succ, List.cons_append, List.nil_append] at hA); (have hF := hA.facts); (try simp only [facts_cons, facts_nil, facts_cells, facts_old, facts_fact, facts_obj, facts_map, facts_iter, facts_row, and_true, true_and] at hF)
      go_wp2_with fail
      refine (outShort (hA.sep2 (A := outC b u0) (B := rowY u0 l0) (by with_reducible repeat (first | exact Sel.here | apply Sel.there)) (by with_reducible repeat (first | exact Sel.here | apply Sel.there))) M.length (by omega) (by omega)).mono ?_
      rintro e w5 ⟨u9, rfl, hT⟩
      have hB := hA.call2 (A := outC b u0) (B := rowY u0 l0) (by with_reducible repeat (first | exact Sel.here | apply Sel.there)) (by with_reducible repeat (first | exact Sel.here | apply Sel.there)) hT
      have hsl := short_len 9 M.length (by omega)
      clear hF hA hT
      have hA := hB
      clear hB
      simp only [List.cons_append, List.nil_append] at hA
      have hF := hA.facts
      (try simp only [setL, List.set_cons_zero, List.set_cons_succ, List.cons_append, List.nil_append] at hA); (have hF := hA.facts); (try simp only [facts_cons, facts_nil, facts_cells, facts_old, facts_fact, facts_obj, facts_map, facts_iter, facts_row, and_true, true_and] at hF)
      go_wp2_with fail
      try go_frame
      go_loopg [60] M.length (PvRel w a s b 0 u00 l00 l0 (.slice mx M.length mcap) M)
      case atStart => exact ⟨0, u9, l0 ++ shortN M.length, rfl, by simp, by simp, by rw [List.length_append]; omega, hA.pick (by repeat (first | exact Picks.nil | refine Picks.cons (by repeat (first | exact Sel.here | apply Sel.there)) ?_))⟩
      case round =>
        obtain ⟨j, u20, l20, rfl, hjk, hje, hjl, hB⟩ := hrel
        have hje' := Lib.hid hje
        clear hF hA hje hsl
        have hA := hB
        clear hB
        by_cases hj : j < M.length
        · have hjm : j < (M.map (withC s.cs)).length := by rw [List.length_map]; exact hj
          have hpm : M[j] ∈ s.cs.map (·.1) := hMp'.out.mem_iff.1 (List.getElem_mem hj)
          obtain ⟨q, hq, hqp⟩ := List.mem_map.1 hpm
          have hcq := ctr_of_mem hI'.out.ckeys hq
          have hoq := hokC.out q hq
          obtain ⟨⟨q0, q1⟩, qp⟩ := hoq
          have hgj : (M.map (withC s.cs))[j] = (M[j], q.2) := by rw [List.getElem_map]; unfold withC; rw [← hqp, hcq]; rfl
          obtain ⟨p, n⟩ := q
          simp only at hqp hcq q0 q1 qp hgj
          obtain ⟨g, c, rfl, cp1, cm, cl, ct, hB⟩ := hA.row_open (ax := mx) (cap := mcap) (n := M.length) (xs := M.flatMap Txt.seL) (by with_reducible repeat (first | exact Sel.here | apply Sel.there)) (by omega)
          have c0 : c[j]? = some (.string M[j]) := by have := cells_at seL_len ct (List.getElem?_eq_getElem hj) 0 (by omega); simpa [Txt.seL] using this
          rw [← hqp] at c0 hgj
          obtain ⟨n, rfl⟩ : ∃ k : Nat, n = k := ⟨n.toNat, by omega⟩
          have hn64 : n < 18446744073709551616 := by omega
          have hmem' := Lib.hid (ctr_mem hcq)
          have htj := Lib.hid (show (M.map (withC s.cs)).take (j + 1) = (M.map (withC s.cs)).take j ++ [(p, (n : Int))] from by rw [List.take_succ_eq_append_getElem hjm, hgj])
          obtain ⟨kl, hkl⟩ := keyT (p := p) (by unfold maxLen; omega)
          have hpt := textB_le p (by omega)
          have hjb : j * 200 ≤ 1000 * 200 := Nat.mul_le_mul_right _ (by omega)
          clear hA hq hqp hcq hgj hpm q0 q1 hjm
          have hA := hB
          clear hB
          have hF := hA.facts
          (try simp only [setL, List.set_cons_zero, List.set_cons_succ, List.cons_append, List.nil_append] at hA); (have hF := hA.facts); (try simp only [facts_cons, facts_nil, facts_cells, facts_old, facts_fact, facts_obj, facts_map, facts_iter, facts_row, and_true, true_and] at hF)
          go_wp2_with (first | ((with_reducible show wpList _ _ _ ({ dst := _, op := Op.store _ _ _, type := _, pos := _, after := _, guard := _ } :: _) _ _); refine wpList_store_at rfl rfl rfl (by (try simp only [Act.eval, Array.getD_eq_getD_getElem?, List.getElem?_toArray, List.getElem?_cons_succ, List.getElem?_cons_zero, Option.getD_some]) <;> exact rfl) (by exact rfl) hA (by with_reducible repeat (first | exact Sel.here | apply Sel.there)) (by kernel_rfl) rfl (by first | decide | (simp; done) | omega) ?_; intro w1 hB; clear hF hA; have hA := hB; clear hB; (try simp only [setL, List.set_cons_zero, List.set_cons_succ, List.cons_append, List.nil_append] at hA); (have hF := hA.facts); (try simp only [facts_cons, facts_nil, facts_cells, facts_old, facts_fact, facts_obj, facts_map, facts_iter, facts_row, and_true, true_and] at hF)) | ((with_reducible show wpList _ _ _ ({ dst := _, op := Op.box _ _, type := _, pos := _, after := _, guard := _ } :: _) _ _); refine wpList_box_at rfl rfl (by (try simp only [Act.eval, Array.getD_eq_getD_getElem?, List.getElem?_toArray, List.getElem?_cons_succ, List.getElem?_cons_zero, Option.getD_some]) <;> exact rfl) (by exact rfl) hA ?_; intro b1 w1 hB hb1; clear hF hA; have hA := hB; clear hB; (try simp only [setL, List.set_cons_zero, List.set_cons_succ, List.cons_append, List.nil_append] at hA); (have hF := hA.facts); (try simp only [facts_cons, facts_nil, facts_cells, facts_old, facts_fact, facts_obj, facts_map, facts_iter, facts_row, and_true, true_and] at hF)))
          try go_frame
          have hAd := hA.drew
          clear hF hA
          have hA := hAd
          clear hAd
          refine wp_region_held (S := fun w' => BlockIs w' a.p [.int .u64 s.first, .map (some a.m), .map (some a.c)] 123 ∧ MapAt Tryz.prog 9 w' a.c (ctrs s.cs)) hm ?_
          change wpAnyH _ _ _ _ _ 10 _ _ (World.drew _)
          generalize World.drew _ = w2 at *
          have hS0 := (show BlockIs _ a.p [.int .u64 s.first, .map (some a.m), .map (some a.c)] 123 ∧ MapAt Tryz.prog 9 _ a.c (ctrs s.cs) from ⟨hA.get (A := headC a.p a.m a.c s.first) (by with_reducible repeat (first | exact Sel.here | apply Sel.there)), hA.get (A := ctrC a.c (ctrs s.cs)) (by with_reducible repeat (first | exact Sel.here | apply Sel.there))⟩)
          refine wpAnyH_takeD (i := 0) (d := some 64) (v := (.pointer (some ⟨b, 0, none⟩))) rfl rfl (by kernel_rfl) (by kernel_rfl) (by kernel_rfl) (fun _ _ _ h => h) rfl (fun w' hS => by simp [execOp, go_sem, Act.eval, Act.put]) hS0 ?_
          go_frame
          refine wpAnyH_takeD (i := 1) (d := some 65) (v := (.string p)) rfl rfl (by kernel_rfl) (by kernel_rfl) (by kernel_rfl) (fun _ _ _ h => h) rfl (fun w' hS => by simp [execOp, go_sem, Act.eval, Act.put]) hS0 ?_
          go_frame
          refine wpAnyH_takeD (i := 3) (d := some 67) (v := (.pointer (some ⟨a.p, 0, none⟩))) rfl rfl (by kernel_rfl) (by kernel_rfl) (by kernel_rfl) (fun _ _ _ h => h) rfl (fun w' hS => by simp [execOp, go_sem, Act.eval, Act.put]) hS0 ?_
          go_frame
          refine wpAnyH_takeD (i := 4) (d := some 68) (v := (.pointer (some ⟨a.p, 0, none⟩))) rfl rfl (by kernel_rfl) (by kernel_rfl) (by kernel_rfl) (fun _ _ _ h => h) rfl (fun w' hS => by kernel_rfl) hS0 ?_
          go_frame
          refine wpAnyH_takeD (i := 5) (d := some 69) (v := (.pointer (some ⟨a.p, 2, none⟩))) rfl rfl (by kernel_rfl) (by kernel_rfl) (by kernel_rfl) (fun _ _ _ h => h) rfl (fun w' hS => by kernel_rfl) hS0 ?_
          go_frame
          refine wpAnyH_takeD (i := 6) (d := some 70) (v := (.map (some a.c))) rfl rfl (by kernel_rfl) (by kernel_rfl) (by kernel_rfl) (fun _ _ _ h => h) rfl (fun w' hS => run_load_one (b := a.p) (j := 2) rfl (by exact rfl) hS.1 (by kernel_rfl) rfl) hS0 ?_
          go_frame
          refine wpAnyH_takeD (i := 7) (d := some 71) (v := (.string p)) rfl rfl (by kernel_rfl) (by kernel_rfl) (by kernel_rfl) (fun _ _ _ h => h) rfl (fun w' hS => by simp [execOp, go_sem, Act.eval, Act.put]) hS0 ?_
          go_frame
          refine wpAnyH_takeD (i := 8) (d := some 72) (v := (.int .u64 (n : Int))) rfl rfl (by kernel_rfl) (by kernel_rfl) (by kernel_rfl) (fun _ _ _ h => h) rfl (fun w' hS => by have q := MapAt.look_some hS.2 lawT Tryz.underlying121 hkl hmem'.out false; simp only [Bool.false_eq_true, if_false] at q; simp [execOp, go_sem, Act.eval, Act.put, q, Result.andThen]) hS0 ?_
          go_frame
          clear hS0
          refine wpAnyH_one (i := 2) (by kernel_rfl) ?_
          refine opCall_at (i := 2) (d := some 66) rfl rfl rfl (fn := 60) (args := #[(.pointer (some ⟨b, 0, none⟩)), .string p]) (by simp [execOp, go_sem, Act.eval, Act.put]) ((outText (hA.sep2 (A := outC b u20) (B := rowY u20 l20) (by with_reducible repeat (first | exact Sel.here | apply Sel.there)) (by with_reducible repeat (first | exact Sel.here | apply Sel.there))) p (by omega) (by omega)).mono (fun e w' h => OutPost.r h)) ?_
          rintro xq zq ⟨rfl, u21, hT⟩
          have hB := hA.call2 (A := outC b u20) (B := rowY u20 l20) (by with_reducible repeat (first | exact Sel.here | apply Sel.there)) (by with_reducible repeat (first | exact Sel.here | apply Sel.there)) hT
          obtain ⟨l21, he21⟩ : ∃ z, l20 ++ textB p = z := ⟨_, rfl⟩
          have hl21 : l21.length ≤ l20.length + (10 + p.size) := by have := hpt; rw [← he21, List.length_append]; omega
          rw [he21] at hB
          have he21' := Lib.hid he21
          clear hA hT he21
          have hA := hB
          clear hB
          simp only [List.cons_append, List.nil_append] at hA
          refine ⟨(show BlockIs _ a.p [.int .u64 s.first, .map (some a.m), .map (some a.c)] 123 ∧ MapAt Tryz.prog 9 _ a.c (ctrs s.cs) from ⟨hA.get (A := headC a.p a.m a.c s.first) (by with_reducible repeat (first | exact Sel.here | apply Sel.there)), hA.get (A := ctrC a.c (ctrs s.cs)) (by with_reducible repeat (first | exact Sel.here | apply Sel.there))⟩), ?_⟩
          go_frame
          refine wpAnyH_one (i := 9) (by kernel_rfl) ?_
          refine opCall_at (i := 9) (d := some 73) rfl rfl rfl (fn := 61) (args := #[(.pointer (some ⟨b, 0, none⟩)), .int .u64 (n : Int)]) (by simp [execOp, go_sem, Act.eval, Act.put]) ((outFixed (hA.sep2 (A := outC b u21) (B := rowY u21 l21) (by with_reducible repeat (first | exact Sel.here | apply Sel.there)) (by with_reducible repeat (first | exact Sel.here | apply Sel.there))) n hn64 (by omega)).mono (fun e w' h => OutPost.r h)) ?_
          rintro xq zq ⟨rfl, u22, hT⟩
          have hB := hA.call2 (A := outC b u21) (B := rowY u21 l21) (by with_reducible repeat (first | exact Sel.here | apply Sel.there)) (by with_reducible repeat (first | exact Sel.here | apply Sel.there)) hT
          obtain ⟨l22, he22⟩ : ∃ z, l21 ++ fixL n = z := ⟨_, rfl⟩
          have hl22 : l22.length ≤ l21.length + 8 := by have := (show (fixL n).length ≤ 8 from by simp [fixL]); rw [← he22, List.length_append]; omega
          rw [he22] at hB
          have he22' := Lib.hid he22
          clear hA hT he22
          have hA := hB
          clear hB
          simp only [List.cons_append, List.nil_append] at hA
          refine ⟨(show BlockIs _ a.p [.int .u64 s.first, .map (some a.m), .map (some a.c)] 123 ∧ MapAt Tryz.prog 9 _ a.c (ctrs s.cs) from ⟨hA.get (A := headC a.p a.m a.c s.first) (by with_reducible repeat (first | exact Sel.here | apply Sel.there)), hA.get (A := ctrC a.c (ctrs s.cs)) (by with_reducible repeat (first | exact Sel.here | apply Sel.there))⟩), ?_⟩
          go_frame
          refine wpAnyH_done (by kernel_rfl) ?_ _
          try go_frame
          have hF := hA.facts
          (try simp only [setL, List.set_cons_zero, List.set_cons_succ, List.cons_append, List.nil_append] at hA); (have hF := hA.facts); (try simp only [facts_cons, facts_nil, facts_cells, facts_old, facts_fact, facts_obj, facts_map, facts_iter, facts_row, and_true, true_and] at hF)
          go_wp2_with (first | ((with_reducible show wpList _ _ _ ({ dst := _, op := Op.store _ _ _, type := _, pos := _, after := _, guard := _ } :: _) _ _); refine wpList_store_at rfl rfl rfl (by (try simp only [Act.eval, Array.getD_eq_getD_getElem?, List.getElem?_toArray, List.getElem?_cons_succ, List.getElem?_cons_zero, Option.getD_some]) <;> exact rfl) (by exact rfl) hA (by with_reducible repeat (first | exact Sel.here | apply Sel.there)) (by kernel_rfl) rfl (by first | decide | (simp; done) | omega) ?_; intro w1 hB; clear hF hA; have hA := hB; clear hB; (try simp only [setL, List.set_cons_zero, List.set_cons_succ, List.cons_append, List.nil_append] at hA); (have hF := hA.facts); (try simp only [facts_cons, facts_nil, facts_cells, facts_old, facts_fact, facts_obj, facts_map, facts_iter, facts_row, and_true, true_and] at hF)) | ((with_reducible show wpList _ _ _ ({ dst := _, op := Op.box _ _, type := _, pos := _, after := _, guard := _ } :: _) _ _); refine wpList_box_at rfl rfl (by (try simp only [Act.eval, Array.getD_eq_getD_getElem?, List.getElem?_toArray, List.getElem?_cons_succ, List.getElem?_cons_zero, Option.getD_some]) <;> exact rfl) (by exact rfl) hA ?_; intro b1 w1 hB hb1; clear hF hA; have hA := hB; clear hB; (try simp only [setL, List.set_cons_zero, List.set_cons_succ, List.cons_append, List.nil_append] at hA); (have hF := hA.facts); (try simp only [facts_cons, facts_nil, facts_cells, facts_old, facts_fact, facts_obj, facts_map, facts_iter, facts_row, and_true, true_and] at hF)))
          go_roundg (gk - 1)
          case measure => omega
          case rel =>
            have hS := hA.row_shut (e := 9) (size := 1) (n := M.length) (cap := mcap) (xs := M.flatMap Txt.seL) (g := g) (c := c) (by with_reducible repeat (first | exact Sel.here | apply Sel.there)) cl cp1 cm ct
            refine ⟨j + 1, u22, l22, by simp, by omega, ?_, by omega, hS.pick (by repeat (first | exact Picks.nil | refine Picks.cons (by repeat (first | exact Sel.here | apply Sel.there)) ?_))⟩
            rw [htj.out, ← he22'.out, ← he21'.out, hje'.out]
            simp only [List.flatMap_append, List.flatMap_cons, List.flatMap_nil, List.append_nil, encC, Int.toNat_natCast, List.append_assoc]
        · have hje2 := hje'.out
          rw [List.take_of_length_le (by rw [List.length_map]; omega)] at hje2
          have hF := hA.facts
          (try simp only [setL, List.set_cons_zero, List.set_cons_succ, List.cons_append, List.nil_append] at hA); (have hF := hA.facts); (try simp only [facts_cons, facts_nil, facts_cells, facts_old, facts_fact, facts_obj, facts_map, facts_iter, facts_row, and_true, true_and] at hF)
          go_wp2_with fail
          first | go_ret | go_end0
          refine ⟨L, M.map (withC s.cs), u20, rfl, hperm'.out, hpw'.out, withC_perm hI'.out.ckeys hMp'.out, List.pairwise_map.2 hMw'.out, ?_⟩
          have hE := fold0 (a.at s) hA (by repeat (first | exact Sel.here | apply Sel.there)) (by repeat (first | exact Sel.here | apply Sel.there)) (by repeat (first | exact Sel.here | apply Sel.there))
          have hE2 := hE.pick (K := [bookS a s, outC b u20, rowY u20 l20]) (by repeat (first | exact Picks.nil | refine Picks.cons (by repeat (first | exact Sel.here | apply Sel.there)) ?_))
          rw [hje2, hle3.out] at hE2
          have e : l00 ++ shortN L.length ++ L.flatMap encE ++ shortN M.length ++ (M.map (withC s.cs)).flatMap encC = l00 ++ encB L (M.map (withC s.cs)) := by
            unfold encB
            rw [List.length_map]
            simp only [List.append_assoc]
          rw [e] at hE2
          exact hE2
end Go.Proofs.YtalfoiodejoicaaGreatDoor.Lock
end
