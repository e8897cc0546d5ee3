/- PutL, PutB, PutE, LeaseW8, PutV, PutW, PutO, joined. -/
import Derived.Test.YtnkddjomanaadaaT0
import Derived.Test.YtnkddjomanaadaaLeaseS
import Derived.Test.YtnkddjomanaadaaT1
import Derived.Deep.QuietTactic
import Derived.BigQuiet
import Derived.Test.YtnkddjomanaadaaLeaseW7
import Derived.Deep.Slices
import Derived.DataReads
import Derived.Lib.SmallJoins
import Derived.Test.YtnkddjomanaadaaRows
section
namespace Go.Proofs.Ytnkddjomanaadaa.Lease
open Go.RowKit
open _root_.Go.Proofs.Ytnkddjomanaadaa.Wire
open _root_.Go.Proofs.Ytnkddjomanaadaa.Sess (seL sortS)

set_option linter.unusedSimpArgs false
set_option linter.unusedVariables false
attribute [-go_sem] run_eql_struct run_neq_struct run_eqGuard_agg

/-! ### The bytes -/
def wrN (e : Int) : Nat := (e % 18446744073709551616).toNat
def bB (t : Bool) : List Int := [if t then (1 : Int) else 0]
def encA (a : AR) : List Int := shortN a.r.toNat ++ shortN (wrN a.e) ++ fixL a.n.toNat ++ bB a.g
def encS (s : SR) : List Int := fixL s.num.toNat ++ textB s.foot ++ bB s.op ++ bB s.dead ++ shortN s.dl.toNat ++ shortN s.ttl.toNat ++ shortN s.told.length ++ s.told.flatMap encA
def encL (L : List SR) : List Int := shortN L.length ++ L.flatMap encS
theorem OutPost.r {w w' : World} {b : Nat} {u : Value} {l m : List Int} {e : Ending} (h : OutPost w b u l m e w') : ∃ x, e = .returned x ∧ (x = .pointer (some ⟨b, 0, none⟩) ∧ ∃ u', At [outC b u, rowY u l] w [outC b u', rowY u' (l ++ m)] w') := by
  obtain ⟨u', rfl, hT⟩ := h
  exact ⟨_, rfl, rfl, u', hT⟩
theorem textB_len (s : ByteArray) (h : s.size ≤ 20000000000000) : (textB s).length ≤ 10 + s.size := by
  have h1 := short_len 9 s.size (by omega)
  unfold textB
  rw [List.length_append, textL_len]
  omega
def PvRel (w : World) (p m b g bI bK : Nat) (ss : List Ses) (c cI cK : List Value) (u00 : Value) (l00 : List Int) (l7 : List Int) (told : List AR) (vq : Value) (k : Nat) (x : Value) (wr : World) : Prop :=
  ∃ (j : Nat) (u : Value) (l : List Int), x = .int .i64 j ∧ j + k = told.length ∧ l = l7 ++ (told.take j).flatMap encA ∧ l.length ≤ l7.length + j * 29 ∧ At [BookP p m ss, outC b u00, rowY u00 l00] w [Part.row 29 1 vq told.length ((told.map (·.r)).flatMap Unt.seL), outC b u, rowY u l, .cells bI cI 54, BookP p m ss, .cells bK cK 31, .cells g c 31] wr
def PuRel (w : World) (p m b : Nat) (ss : List Ses) (L : List SR) (u0 : Value) (l0 : List Int) (vl : Value) (k : Nat) (x : Value) (wr : World) : Prop :=
  ∃ (i : Nat) (u : Value) (l : List Int), x = .int .i64 i ∧ i + k = L.length ∧ l = l0 ++ shortN L.length ++ (L.take i).flatMap encS ∧ l.length ≤ l0.length + 10 + i * 2100000 ∧ At [BookP p m ss, outC b u0, rowY u0 l0] w [Part.row 31 2 vl L.length ((L.map keyR).flatMap seL), BookP p m ss, outC b u, rowY u l] wr
set_option maxRecDepth 100000 in
set_option maxHeartbeats 4000000 in
theorem put_any {w : World} {p m b : Nat} {ss : List Ses} {L : List SR} {u00 : Value} {l00 : List Int} (h : Sep [BookP p m ss, outC b u00, rowY u00 l00] w) (hR : Rel ss L) (hk : ∀ s ∈ L, 0 ≤ s.num ∧ s.num < big64 ∧ s.foot.size ≤ 2000000) (hl : L.length ≤ 100000) (hl0 : l00.length ≤ 1000000000000) :
    Calls Try.prog 7 #[.pointer (some ⟨p, 0, none⟩), .pointer (some ⟨b, 0, none⟩)] w fun e w' => e = .returned (.tuple #[]) ∧ ∃ u, At [BookP p m ss, outC b u00, rowY u00 l00] w [BookP p m ss, outC b u, rowY u (l00 ++ encL L)] w' := by
  have hm : Try.prog.follows .mixedOrders = true := by kernel_rfl
  have hA := At.start h
  have hF := hA.facts
  clear h
  have hR' := Lib.hid hR
  have hk' := Lib.hid hk
  have hss : ss.length ≤ 1000000 := by rw [hR.len]; omega
  clear hR hk
  (try simp only [setL, List.set_cons_zero, List.set_cons_succ, List.cons_append, List.nil_append] at hA); (have hF := hA.facts); (try simp only [facts_cons, facts_nil, facts_cells, facts_old, facts_fact, facts_obj, facts_map, facts_iter, facts_row, and_true, true_and] at hF)
  go_enter Try.func7, Try.ntmps7
  go_wp2_with fail
  refine (sessions_all (hA.sep1 (A := BookP p m ss) (by with_reducible repeat (first | exact Sel.here | apply Sel.there))) hss).mono ?_
  rintro e w1 ⟨vl, rfl, hT⟩
  have hB := hA.call1 (A := BookP p m ss) (by with_reducible repeat (first | exact Sel.here | apply Sel.there)) hT
  rw [hR'.out.sessions] at hB
  simp only [List.cons_append, List.nil_append] at hB
  clear hF hA hT
  have hA : At _ w (Part.row 31 2 vl (L.map keyR).length ((L.map keyR).flatMap seL) :: _) _ := hB
  clear hB
  rw [List.length_map] at hA
  obtain ⟨lx, lcap, rfl, hlx, hlcap, _⟩ := hA.row_form (v := vl) (n := L.length) (xs := (L.map keyR).flatMap seL) (by with_reducible repeat (first | exact Sel.here | apply Sel.there))
  have hwL : IntKind.u64.wrap (L.length : Int) = (L.length : Int) := by rw [IntKind.wrap_u64]; omega
  have hF := hA.facts
  (try simp only [setL, List.set_cons_zero, List.set_cons_succ, List.cons_append, List.nil_append] at hA); (have hF := hA.facts); (try simp only [facts_cons, facts_nil, facts_cells, facts_old, facts_fact, facts_obj, facts_map, facts_iter, facts_row, and_true, true_and] at hF)
  go_wp2_with fail
  refine (outShort (hA.sep2 (A := outC b u00) (B := rowY u00 l00) (by with_reducible repeat (first | exact Sel.here | apply Sel.there)) (by with_reducible repeat (first | exact Sel.here | apply Sel.there))) L.length (by omega) (by omega)).mono ?_
  rintro e w2 ⟨u1, rfl, hT⟩
  have hB := hA.call2 (A := outC b u00) (B := rowY u00 l00) (by with_reducible repeat (first | exact Sel.here | apply Sel.there)) (by with_reducible repeat (first | exact Sel.here | apply Sel.there)) hT
  have hsl := short_len 9 L.length (by omega)
  clear hF hA hT
  have hA := hB
  clear hB
  simp only [List.cons_append, List.nil_append] at hA
  have hF := hA.facts
  (try simp only [setL, List.set_cons_zero, List.set_cons_succ, List.cons_append, List.nil_append] at hA); (have hF := hA.facts); (try simp only [facts_cons, facts_nil, facts_cells, facts_old, facts_fact, facts_obj, facts_map, facts_iter, facts_row, and_true, true_and] at hF)
  go_wp2_with fail
  try go_frame
  go_loopg [21] L.length (PuRel w p m b ss L u00 l00 (.slice lx L.length lcap))
  case atStart => exact ⟨0, u1, l00 ++ shortN L.length, rfl, by simp, by simp, by rw [List.length_append]; omega, hA.pick (by repeat (first | exact Picks.nil | refine Picks.cons (by repeat (first | exact Sel.here | apply Sel.there)) ?_))⟩
  case round =>
    obtain ⟨i, u0, l0, rfl, hik, hle, hll, hB⟩ := hrel
    have hle' := Lib.hid hle
    clear hF hA hle hsl
    have hA := hB
    clear hB
    by_cases hi : i < L.length
    · have hmem := List.getElem_mem hi
      obtain ⟨n0, n1, hfz⟩ := hk'.out _ hmem
      have hrs := hR'.out.mine hmem
      have htk := Lib.hid (List.take_succ_eq_append_getElem hi)
      obtain ⟨g, c, rfl, cp1, cm, cl, ct, hB⟩ := hA.row_open (ax := lx) (cap := lcap) (n := L.length) (xs := (L.map keyR).flatMap seL) (by with_reducible repeat (first | exact Sel.here | apply Sel.there)) (by omega)
      have hx : (L.map keyR)[i]? = some (keyR L[i]) := by rw [List.getElem?_map, List.getElem?_eq_getElem hi]; rfl
      have ct2 : c.take ((L.map keyR).length * 2) = (L.map keyR).flatMap seL := by rw [List.length_map]; exact ct
      have c0 : c[i * 2]? = some (.int .u64 L[i].num) := cells_at Sess.seL_len ct2 hx 0 (by omega)
      have c1 : c[i * 2 + 1]? = some (.string L[i].foot) := cells_at Sess.seL_len ct2 hx 1 (by omega)
      obtain ⟨s, hs⟩ : ∃ s, L[i] = s := ⟨_, rfl⟩
      rw [hs] at hrs htk c0 c1 n0 n1 hfz
      clear hA hx hs hmem
      have hA := hB
      clear hB
      obtain ⟨num, foot, op, dead, dl, ttl, sax, scap, told⟩ := s
      simp only at hrs c0 c1 n0 n1 hfz
      have htb := hrs.tb
      have hdb := hrs.db
      have htl := hrs.told.len
      simp only at htb hdb htl
      obtain ⟨num, rfl⟩ : ∃ k : Nat, num = k := ⟨num.toNat, by omega⟩
      obtain ⟨dl, rfl⟩ : ∃ k : Nat, dl = k := ⟨dl.toNat, by omega⟩
      obtain ⟨ttl, rfl⟩ : ∃ k : Nat, ttl = k := ⟨ttl.toNat, by omega⟩
      have hn64 : num < 18446744073709551616 := by unfold big64 at n1; omega
      have hwd : IntKind.u64.wrap (dl : Int) = (dl : Int) := by rw [IntKind.wrap_u64]; omega
      have hwt : IntKind.u64.wrap (ttl : Int) = (ttl : Int) := by rw [IntKind.wrap_u64]; omega
      have hws : IntKind.u64.wrap (told.length : Int) = (told.length : Int) := by rw [IntKind.wrap_u64]; omega
      have hft := textB_len foot (by omega)
      have hmx : foot.size ≤ maxLen := by unfold maxLen; omega
      have hrs' := Lib.hid hrs
      have hib : i * 2100000 ≤ 100000 * 2100000 := Nat.mul_le_mul_right _ (by omega)
      clear hrs
      have hF := hA.facts
      (try simp only [setL, List.set_cons_zero, List.set_cons_succ, List.cons_append, List.nil_append] at hA); (have hF := hA.facts); (try simp only [facts_cons, facts_nil, facts_cells, facts_old, facts_fact, facts_obj, facts_map, facts_iter, facts_row, and_true, true_and] at hF)
      go_wp2_with (first | ((with_reducible show wpList _ _ _ ({ dst := _, op := Op.alloc _, type := _, pos := _, after := _, guard := _ } :: _) _ _); refine wpList_alloc_at (E := 31) (z := .agg #[.int .u64 0, .string .empty]) (vs := [.int .u64 0, .string .empty]) rfl rfl (by kernel_rfl) rfl hA ?_; intro bK w1 hB hbK; clear hF hA; have hA := hB; clear hB; (try simp only [setL, List.set_cons_zero, List.set_cons_succ, List.cons_append, List.nil_append] at hA); (have hF := hA.facts); (try simp only [facts_cons, facts_nil, facts_cells, facts_old, facts_fact, facts_obj, facts_map, facts_iter, facts_row, and_true, true_and] at hF)) | ((with_reducible show wpList _ _ _ ({ dst := _, op := Op.store _ _ _, type := _, pos := _, after := _, guard := _ } :: _) _ _); refine wpList_store_at rfl rfl rfl (by (try simp only [Act.eval, Array.getD_eq_getD_getElem?, List.getElem?_toArray, List.getElem?_cons_succ, List.getElem?_cons_zero, Option.getD_some]) <;> exact rfl) (by exact rfl) hA (by with_reducible repeat (first | exact Sel.here | apply Sel.there)) (by kernel_rfl) rfl (by first | decide | (simp; done) | omega) ?_; intro w1 hB; clear hF hA; have hA := hB; clear hB; (try simp only [setL, List.set_cons_zero, List.set_cons_succ, List.cons_append, List.nil_append] at hA); (have hF := hA.facts); (try simp only [facts_cons, facts_nil, facts_cells, facts_old, facts_fact, facts_obj, facts_map, facts_iter, facts_row, and_true, true_and] at hF)) | ((with_reducible show wpList _ _ _ ({ dst := _, op := Op.box _ _, type := _, pos := _, after := _, guard := _ } :: _) _ _); refine wpList_box_at rfl rfl (by (try simp only [Act.eval, Array.getD_eq_getD_getElem?, List.getElem?_toArray, List.getElem?_cons_succ, List.getElem?_cons_zero, Option.getD_some]) <;> exact rfl) (by exact rfl) hA ?_; intro b1 w1 hB hb1; clear hF hA; have hA := hB; clear hB; (try simp only [setL, List.set_cons_zero, List.set_cons_succ, List.cons_append, List.nil_append] at hA); (have hF := hA.facts); (try simp only [facts_cons, facts_nil, facts_cells, facts_old, facts_fact, facts_obj, facts_map, facts_iter, facts_row, and_true, true_and] at hF)))
      refine (info_look (hA.sep1 (A := BookP p m ss) (by with_reducible repeat (first | exact Sel.here | apply Sel.there))) n0 n1 hmx hrs'.out).mono ?_
      rintro e w3 ⟨rfl, hT⟩
      have hB := hA.call1 (A := BookP p m ss) (by with_reducible repeat (first | exact Sel.here | apply Sel.there)) hT
      clear hF hA hT
      have hA := hB
      clear hB
      simp only [List.cons_append, List.nil_append] at hA
      have hF := hA.facts
      (try simp only [setL, List.set_cons_zero, List.set_cons_succ, List.cons_append, List.nil_append] at hA); (have hF := hA.facts); (try simp only [facts_cons, facts_nil, facts_cells, facts_old, facts_fact, facts_obj, facts_map, facts_iter, facts_row, and_true, true_and] at hF)
      go_wp2_with (first | ((with_reducible show wpList _ _ _ ({ dst := _, op := Op.alloc _, type := _, pos := _, after := _, guard := _ } :: _) _ _); refine wpList_alloc_at (E := 54) (z := .agg #[.bool false, .bool false, .int .i64 0, .int .i64 0, .int .i64 0]) (vs := [.bool false, .bool false, .int .i64 0, .int .i64 0, .int .i64 0]) rfl rfl (by kernel_rfl) rfl hA ?_; intro bI w1 hB hbI; clear hF hA; have hA := hB; clear hB; (try simp only [setL, List.set_cons_zero, List.set_cons_succ, List.cons_append, List.nil_append] at hA); (have hF := hA.facts); (try simp only [facts_cons, facts_nil, facts_cells, facts_old, facts_fact, facts_obj, facts_map, facts_iter, facts_row, and_true, true_and] at hF)) | ((with_reducible show wpList _ _ _ ({ dst := _, op := Op.store _ _ _, type := _, pos := _, after := _, guard := _ } :: _) _ _); refine wpList_store_at rfl rfl rfl (by (try simp only [Act.eval, Array.getD_eq_getD_getElem?, List.getElem?_toArray, List.getElem?_cons_succ, List.getElem?_cons_zero, Option.getD_some]) <;> exact rfl) (by exact rfl) hA (by with_reducible repeat (first | exact Sel.here | apply Sel.there)) (by kernel_rfl) rfl (by first | decide | (simp; done) | omega) ?_; intro w1 hB; clear hF hA; have hA := hB; clear hB; (try simp only [setL, List.set_cons_zero, List.set_cons_succ, List.cons_append, List.nil_append] at hA); (have hF := hA.facts); (try simp only [facts_cons, facts_nil, facts_cells, facts_old, facts_fact, facts_obj, facts_map, facts_iter, facts_row, and_true, true_and] at hF)) | ((with_reducible show wpList _ _ _ ({ dst := _, op := Op.box _ _, type := _, pos := _, after := _, guard := _ } :: _) _ _); refine wpList_box_at rfl rfl (by (try simp only [Act.eval, Array.getD_eq_getD_getElem?, List.getElem?_toArray, List.getElem?_cons_succ, List.getElem?_cons_zero, Option.getD_some]) <;> exact rfl) (by exact rfl) hA ?_; intro b1 w1 hB hb1; clear hF hA; have hA := hB; clear hB; (try simp only [setL, List.set_cons_zero, List.set_cons_succ, List.cons_append, List.nil_append] at hA); (have hF := hA.facts); (try simp only [facts_cons, facts_nil, facts_cells, facts_old, facts_fact, facts_obj, facts_map, facts_iter, facts_row, and_true, true_and] at hF)))
      try go_frame
      have hAd := hA.drew
      clear hF hA
      have hA := hAd
      clear hAd
      refine wp_region_held (S := fun w' => BlockIs w' bK [.int .u64 (num : Int), .string foot] 31 ∧ BlockIs w' bI [.bool op, .bool dead, .int .i64 (dl : Int), .int .i64 (ttl : Int), .int .i64 (told.length : Int)] 54) hm ?_
      change wpAnyH _ _ _ _ _ 25 _ _ (World.drew _)
      generalize World.drew _ = w2 at *
      have hS0 := (show BlockIs _ bK [.int .u64 (num : Int), .string foot] 31 ∧ BlockIs _ bI [.bool op, .bool dead, .int .i64 (dl : Int), .int .i64 (ttl : Int), .int .i64 (told.length : Int)] 54 from ⟨hA.get (A := .cells bK [.int .u64 (num : Int), .string foot] 31) (by with_reducible repeat (first | exact Sel.here | apply Sel.there)), hA.get (A := .cells bI [.bool op, .bool dead, .int .i64 (dl : Int), .int .i64 (ttl : Int), .int .i64 (told.length : Int)] 54) (by with_reducible repeat (first | exact Sel.here | apply Sel.there))⟩)
      refine wpAnyH_takeD (i := 0) (d := some 28) (v := (.pointer (some ⟨b, 0, none⟩))) rfl rfl (by kernel_rfl) (by kernel_rfl) (by kernel_rfl) (fun _ _ _ h => h) rfl (fun w' hS => by simp [execOp, go_sem, Act.eval, Act.put]) hS0 ?_
      go_frame
      refine wpAnyH_takeD (i := 1) (d := some 29) (v := (.pointer (some ⟨bK, 0, none⟩))) rfl rfl (by kernel_rfl) (by kernel_rfl) (by kernel_rfl) (fun _ _ _ h => h) rfl (fun w' hS => by kernel_rfl) hS0 ?_
      go_frame
      refine wpAnyH_takeD (i := 2) (d := some 30) (v := (.int .u64 (num : Int))) rfl rfl (by kernel_rfl) (by kernel_rfl) (by kernel_rfl) (fun _ _ _ h => h) rfl (fun w' hS => run_load_one (b := bK) (j := 0) rfl (by exact rfl) hS.1 (by kernel_rfl) rfl) hS0 ?_
      go_frame
      refine wpAnyH_takeD (i := 4) (d := some 32) (v := (.pointer (some ⟨bK, 1, none⟩))) rfl rfl (by kernel_rfl) (by kernel_rfl) (by kernel_rfl) (fun _ _ _ h => h) rfl (fun w' hS => by kernel_rfl) hS0 ?_
      go_frame
      refine wpAnyH_takeD (i := 5) (d := some 33) (v := (.string foot)) rfl rfl (by kernel_rfl) (by kernel_rfl) (by kernel_rfl) (fun _ _ _ h => h) rfl (fun w' hS => run_load_one (b := bK) (j := 1) rfl (by exact rfl) hS.1 (by kernel_rfl) rfl) hS0 ?_
      go_frame
      refine wpAnyH_takeD (i := 7) (d := some 35) (v := (.pointer (some ⟨bI, 0, none⟩))) rfl rfl (by kernel_rfl) (by kernel_rfl) (by kernel_rfl) (fun _ _ _ h => h) rfl (fun w' hS => by kernel_rfl) hS0 ?_
      go_frame
      refine wpAnyH_takeD (i := 8) (d := some 36) (v := (.bool op)) rfl rfl (by kernel_rfl) (by kernel_rfl) (by kernel_rfl) (fun _ _ _ h => h) rfl (fun w' hS => run_load_one (b := bI) (j := 0) rfl (by exact rfl) hS.2 (by kernel_rfl) rfl) hS0 ?_
      go_frame
      refine wpAnyH_takeD (i := 10) (d := some 38) (v := (.pointer (some ⟨bI, 1, none⟩))) rfl rfl (by kernel_rfl) (by kernel_rfl) (by kernel_rfl) (fun _ _ _ h => h) rfl (fun w' hS => by kernel_rfl) hS0 ?_
      go_frame
      refine wpAnyH_takeD (i := 11) (d := some 39) (v := (.bool dead)) rfl rfl (by kernel_rfl) (by kernel_rfl) (by kernel_rfl) (fun _ _ _ h => h) rfl (fun w' hS => run_load_one (b := bI) (j := 1) rfl (by exact rfl) hS.2 (by kernel_rfl) rfl) hS0 ?_
      go_frame
      refine wpAnyH_takeD (i := 13) (d := some 41) (v := (.pointer (some ⟨bI, 2, none⟩))) rfl rfl (by kernel_rfl) (by kernel_rfl) (by kernel_rfl) (fun _ _ _ h => h) rfl (fun w' hS => by kernel_rfl) hS0 ?_
      go_frame
      refine wpAnyH_takeD (i := 14) (d := some 42) (v := (.int .i64 (dl : Int))) rfl rfl (by kernel_rfl) (by kernel_rfl) (by kernel_rfl) (fun _ _ _ h => h) rfl (fun w' hS => run_load_one (b := bI) (j := 2) rfl (by exact rfl) hS.2 (by kernel_rfl) rfl) hS0 ?_
      go_frame
      refine wpAnyH_takeD (i := 15) (d := some 43) (v := (.int .u64 (dl : Int))) rfl rfl (by kernel_rfl) (by kernel_rfl) (by kernel_rfl) (fun _ _ _ h => h) rfl (fun w' hS => by simp [execOp, go_sem, Act.eval, Act.put, hwd]) hS0 ?_
      go_frame
      refine wpAnyH_takeD (i := 17) (d := some 45) (v := (.pointer (some ⟨bI, 3, none⟩))) rfl rfl (by kernel_rfl) (by kernel_rfl) (by kernel_rfl) (fun _ _ _ h => h) rfl (fun w' hS => by kernel_rfl) hS0 ?_
      go_frame
      refine wpAnyH_takeD (i := 18) (d := some 46) (v := (.int .i64 (ttl : Int))) rfl rfl (by kernel_rfl) (by kernel_rfl) (by kernel_rfl) (fun _ _ _ h => h) rfl (fun w' hS => run_load_one (b := bI) (j := 3) rfl (by exact rfl) hS.2 (by kernel_rfl) rfl) hS0 ?_
      go_frame
      refine wpAnyH_takeD (i := 19) (d := some 47) (v := (.int .u64 (ttl : Int))) rfl rfl (by kernel_rfl) (by kernel_rfl) (by kernel_rfl) (fun _ _ _ h => h) rfl (fun w' hS => by simp [execOp, go_sem, Act.eval, Act.put, hwt]) hS0 ?_
      go_frame
      refine wpAnyH_takeD (i := 21) (d := some 49) (v := (.pointer (some ⟨bI, 4, none⟩))) rfl rfl (by kernel_rfl) (by kernel_rfl) (by kernel_rfl) (fun _ _ _ h => h) rfl (fun w' hS => by kernel_rfl) hS0 ?_
      go_frame
      refine wpAnyH_takeD (i := 22) (d := some 50) (v := (.int .i64 (told.length : Int))) rfl rfl (by kernel_rfl) (by kernel_rfl) (by kernel_rfl) (fun _ _ _ h => h) rfl (fun w' hS => run_load_one (b := bI) (j := 4) rfl (by exact rfl) hS.2 (by kernel_rfl) rfl) hS0 ?_
      go_frame
      refine wpAnyH_takeD (i := 23) (d := some 51) (v := (.int .u64 (told.length : Int))) rfl rfl (by kernel_rfl) (by kernel_rfl) (by kernel_rfl) (fun _ _ _ h => h) rfl (fun w' hS => by simp [execOp, go_sem, Act.eval, Act.put, hws]) hS0 ?_
      go_frame
      clear hS0
      refine wpAnyH_one (i := 3) (by kernel_rfl) ?_
      refine opCall_at (i := 3) (d := some 31) rfl rfl rfl (fn := 25) (args := #[(.pointer (some ⟨b, 0, none⟩)), .int .u64 (num : Int)]) (by simp [execOp, go_sem, Act.eval, Act.put]) ((outFixed (hA.sep2 (A := outC b u0) (B := rowY u0 l0) (by with_reducible repeat (first | exact Sel.here | apply Sel.there)) (by with_reducible repeat (first | exact Sel.here | apply Sel.there))) num hn64 (by omega)).mono (fun e w' h => OutPost.r h)) ?_
      rintro xq zq ⟨rfl, u1, hT⟩
      have hB := hA.call2 (A := outC b u0) (B := rowY u0 l0) (by with_reducible repeat (first | exact Sel.here | apply Sel.there)) (by with_reducible repeat (first | exact Sel.here | apply Sel.there)) hT
      obtain ⟨l1, he1⟩ : ∃ z, l0 ++ fixL num = z := ⟨_, rfl⟩
      have hl1 : l1.length ≤ l0.length + 8 := by have := (show (fixL num).length ≤ 8 from by simp [fixL]); rw [← he1, List.length_append]; omega
      rw [he1] at hB
      have he1' := Lib.hid he1
      clear hA hT he1
      have hA := hB
      clear hB
      simp only [List.cons_append, List.nil_append] at hA
      refine ⟨(show BlockIs _ bK [.int .u64 (num : Int), .string foot] 31 ∧ BlockIs _ bI [.bool op, .bool dead, .int .i64 (dl : Int), .int .i64 (ttl : Int), .int .i64 (told.length : Int)] 54 from ⟨hA.get (A := .cells bK [.int .u64 (num : Int), .string foot] 31) (by with_reducible repeat (first | exact Sel.here | apply Sel.there)), hA.get (A := .cells bI [.bool op, .bool dead, .int .i64 (dl : Int), .int .i64 (ttl : Int), .int .i64 (told.length : Int)] 54) (by with_reducible repeat (first | exact Sel.here | apply Sel.there))⟩), ?_⟩
      go_frame
      refine wpAnyH_one (i := 6) (by kernel_rfl) ?_
      refine opCall_at (i := 6) (d := some 34) rfl rfl rfl (fn := 26) (args := #[(.pointer (some ⟨b, 0, none⟩)), .string foot]) (by simp [execOp, go_sem, Act.eval, Act.put]) ((outText (hA.sep2 (A := outC b u1) (B := rowY u1 l1) (by with_reducible repeat (first | exact Sel.here | apply Sel.there)) (by with_reducible repeat (first | exact Sel.here | apply Sel.there))) foot (by omega) (by omega)).mono (fun e w' h => OutPost.r h)) ?_
      rintro xq zq ⟨rfl, u2, hT⟩
      have hB := hA.call2 (A := outC b u1) (B := rowY u1 l1) (by with_reducible repeat (first | exact Sel.here | apply Sel.there)) (by with_reducible repeat (first | exact Sel.here | apply Sel.there)) hT
      obtain ⟨l2, he2⟩ : ∃ z, l1 ++ textB foot = z := ⟨_, rfl⟩
      have hl2 : l2.length ≤ l1.length + (10 + foot.size) := by have := hft; rw [← he2, List.length_append]; omega
      rw [he2] at hB
      have he2' := Lib.hid he2
      clear hA hT he2
      have hA := hB
      clear hB
      simp only [List.cons_append, List.nil_append] at hA
      refine ⟨(show BlockIs _ bK [.int .u64 (num : Int), .string foot] 31 ∧ BlockIs _ bI [.bool op, .bool dead, .int .i64 (dl : Int), .int .i64 (ttl : Int), .int .i64 (told.length : Int)] 54 from ⟨hA.get (A := .cells bK [.int .u64 (num : Int), .string foot] 31) (by with_reducible repeat (first | exact Sel.here | apply Sel.there)), hA.get (A := .cells bI [.bool op, .bool dead, .int .i64 (dl : Int), .int .i64 (ttl : Int), .int .i64 (told.length : Int)] 54) (by with_reducible repeat (first | exact Sel.here | apply Sel.there))⟩), ?_⟩
      go_frame
      refine wpAnyH_one (i := 9) (by kernel_rfl) ?_
      refine opCall_at (i := 9) (d := some 37) rfl rfl rfl (fn := 27) (args := #[(.pointer (some ⟨b, 0, none⟩)), .bool op]) (by simp [execOp, go_sem, Act.eval, Act.put]) ((outTruth (hA.sep2 (A := outC b u2) (B := rowY u2 l2) (by with_reducible repeat (first | exact Sel.here | apply Sel.there)) (by with_reducible repeat (first | exact Sel.here | apply Sel.there))) op (by omega)).mono (fun e w' h => OutPost.r h)) ?_
      rintro xq zq ⟨rfl, u3, hT⟩
      have hB := hA.call2 (A := outC b u2) (B := rowY u2 l2) (by with_reducible repeat (first | exact Sel.here | apply Sel.there)) (by with_reducible repeat (first | exact Sel.here | apply Sel.there)) hT
      obtain ⟨l3, he3⟩ : ∃ z, l2 ++ [if op then (1 : Int) else 0] = z := ⟨_, rfl⟩
      have hl3 : l3.length ≤ l2.length + 1 := by have := (show ([if op then (1 : Int) else 0] : List Int).length ≤ 1 from Nat.le_refl _); rw [← he3, List.length_append]; omega
      rw [he3] at hB
      have he3' := Lib.hid he3
      clear hA hT he3
      have hA := hB
      clear hB
      simp only [List.cons_append, List.nil_append] at hA
      refine ⟨(show BlockIs _ bK [.int .u64 (num : Int), .string foot] 31 ∧ BlockIs _ bI [.bool op, .bool dead, .int .i64 (dl : Int), .int .i64 (ttl : Int), .int .i64 (told.length : Int)] 54 from ⟨hA.get (A := .cells bK [.int .u64 (num : Int), .string foot] 31) (by with_reducible repeat (first | exact Sel.here | apply Sel.there)), hA.get (A := .cells bI [.bool op, .bool dead, .int .i64 (dl : Int), .int .i64 (ttl : Int), .int .i64 (told.length : Int)] 54) (by with_reducible repeat (first | exact Sel.here | apply Sel.there))⟩), ?_⟩
      go_frame
      refine wpAnyH_one (i := 12) (by kernel_rfl) ?_
      refine opCall_at (i := 12) (d := some 40) rfl rfl rfl (fn := 27) (args := #[(.pointer (some ⟨b, 0, none⟩)), .bool dead]) (by simp [execOp, go_sem, Act.eval, Act.put]) ((outTruth (hA.sep2 (A := outC b u3) (B := rowY u3 l3) (by with_reducible repeat (first | exact Sel.here | apply Sel.there)) (by with_reducible repeat (first | exact Sel.here | apply Sel.there))) dead (by omega)).mono (fun e w' h => OutPost.r h)) ?_
      rintro xq zq ⟨rfl, u4, hT⟩
      have hB := hA.call2 (A := outC b u3) (B := rowY u3 l3) (by with_reducible repeat (first | exact Sel.here | apply Sel.there)) (by with_reducible repeat (first | exact Sel.here | apply Sel.there)) hT
      obtain ⟨l4, he4⟩ : ∃ z, l3 ++ [if dead then (1 : Int) else 0] = z := ⟨_, rfl⟩
      have hl4 : l4.length ≤ l3.length + 1 := by have := (show ([if dead then (1 : Int) else 0] : List Int).length ≤ 1 from Nat.le_refl _); rw [← he4, List.length_append]; omega
      rw [he4] at hB
      have he4' := Lib.hid he4
      clear hA hT he4
      have hA := hB
      clear hB
      simp only [List.cons_append, List.nil_append] at hA
      refine ⟨(show BlockIs _ bK [.int .u64 (num : Int), .string foot] 31 ∧ BlockIs _ bI [.bool op, .bool dead, .int .i64 (dl : Int), .int .i64 (ttl : Int), .int .i64 (told.length : Int)] 54 from ⟨hA.get (A := .cells bK [.int .u64 (num : Int), .string foot] 31) (by with_reducible repeat (first | exact Sel.here | apply Sel.there)), hA.get (A := .cells bI [.bool op, .bool dead, .int .i64 (dl : Int), .int .i64 (ttl : Int), .int .i64 (told.length : Int)] 54) (by with_reducible repeat (first | exact Sel.here | apply Sel.there))⟩), ?_⟩
      go_frame
      refine wpAnyH_one (i := 16) (by kernel_rfl) ?_
      refine opCall_at (i := 16) (d := some 44) rfl rfl rfl (fn := 24) (args := #[(.pointer (some ⟨b, 0, none⟩)), .int .u64 (dl : Int)]) (by simp [execOp, go_sem, Act.eval, Act.put]) ((outShort (hA.sep2 (A := outC b u4) (B := rowY u4 l4) (by with_reducible repeat (first | exact Sel.here | apply Sel.there)) (by with_reducible repeat (first | exact Sel.here | apply Sel.there))) (dl) (by omega) (by omega)).mono (fun e w' h => OutPost.r h)) ?_
      rintro xq zq ⟨rfl, u5, hT⟩
      have hB := hA.call2 (A := outC b u4) (B := rowY u4 l4) (by with_reducible repeat (first | exact Sel.here | apply Sel.there)) (by with_reducible repeat (first | exact Sel.here | apply Sel.there)) hT
      obtain ⟨l5, he5⟩ : ∃ z, l4 ++ shortN (dl) = z := ⟨_, rfl⟩
      have hl5 : l5.length ≤ l4.length + 10 := by have := short_len 9 (dl) (by omega); rw [← he5, List.length_append]; omega
      rw [he5] at hB
      have he5' := Lib.hid he5
      clear hA hT he5
      have hA := hB
      clear hB
      simp only [List.cons_append, List.nil_append] at hA
      refine ⟨(show BlockIs _ bK [.int .u64 (num : Int), .string foot] 31 ∧ BlockIs _ bI [.bool op, .bool dead, .int .i64 (dl : Int), .int .i64 (ttl : Int), .int .i64 (told.length : Int)] 54 from ⟨hA.get (A := .cells bK [.int .u64 (num : Int), .string foot] 31) (by with_reducible repeat (first | exact Sel.here | apply Sel.there)), hA.get (A := .cells bI [.bool op, .bool dead, .int .i64 (dl : Int), .int .i64 (ttl : Int), .int .i64 (told.length : Int)] 54) (by with_reducible repeat (first | exact Sel.here | apply Sel.there))⟩), ?_⟩
      go_frame
      refine wpAnyH_one (i := 20) (by kernel_rfl) ?_
      refine opCall_at (i := 20) (d := some 48) rfl rfl rfl (fn := 24) (args := #[(.pointer (some ⟨b, 0, none⟩)), .int .u64 (ttl : Int)]) (by simp [execOp, go_sem, Act.eval, Act.put]) ((outShort (hA.sep2 (A := outC b u5) (B := rowY u5 l5) (by with_reducible repeat (first | exact Sel.here | apply Sel.there)) (by with_reducible repeat (first | exact Sel.here | apply Sel.there))) (ttl) (by omega) (by omega)).mono (fun e w' h => OutPost.r h)) ?_
      rintro xq zq ⟨rfl, u6, hT⟩
      have hB := hA.call2 (A := outC b u5) (B := rowY u5 l5) (by with_reducible repeat (first | exact Sel.here | apply Sel.there)) (by with_reducible repeat (first | exact Sel.here | apply Sel.there)) hT
      obtain ⟨l6, he6⟩ : ∃ z, l5 ++ shortN (ttl) = z := ⟨_, rfl⟩
      have hl6 : l6.length ≤ l5.length + 10 := by have := short_len 9 (ttl) (by omega); rw [← he6, List.length_append]; omega
      rw [he6] at hB
      have he6' := Lib.hid he6
      clear hA hT he6
      have hA := hB
      clear hB
      simp only [List.cons_append, List.nil_append] at hA
      refine ⟨(show BlockIs _ bK [.int .u64 (num : Int), .string foot] 31 ∧ BlockIs _ bI [.bool op, .bool dead, .int .i64 (dl : Int), .int .i64 (ttl : Int), .int .i64 (told.length : Int)] 54 from ⟨hA.get (A := .cells bK [.int .u64 (num : Int), .string foot] 31) (by with_reducible repeat (first | exact Sel.here | apply Sel.there)), hA.get (A := .cells bI [.bool op, .bool dead, .int .i64 (dl : Int), .int .i64 (ttl : Int), .int .i64 (told.length : Int)] 54) (by with_reducible repeat (first | exact Sel.here | apply Sel.there))⟩), ?_⟩
      go_frame
      refine wpAnyH_one (i := 24) (by kernel_rfl) ?_
      refine opCall_at (i := 24) (d := some 52) rfl rfl rfl (fn := 24) (args := #[(.pointer (some ⟨b, 0, none⟩)), .int .u64 (told.length : Int)]) (by simp [execOp, go_sem, Act.eval, Act.put]) ((outShort (hA.sep2 (A := outC b u6) (B := rowY u6 l6) (by with_reducible repeat (first | exact Sel.here | apply Sel.there)) (by with_reducible repeat (first | exact Sel.here | apply Sel.there))) (told.length) (by omega) (by omega)).mono (fun e w' h => OutPost.r h)) ?_
      rintro xq zq ⟨rfl, u7, hT⟩
      have hB := hA.call2 (A := outC b u6) (B := rowY u6 l6) (by with_reducible repeat (first | exact Sel.here | apply Sel.there)) (by with_reducible repeat (first | exact Sel.here | apply Sel.there)) hT
      obtain ⟨l7, he7⟩ : ∃ z, l6 ++ shortN (told.length) = z := ⟨_, rfl⟩
      have hl7 : l7.length ≤ l6.length + 10 := by have := short_len 9 (told.length) (by omega); rw [← he7, List.length_append]; omega
      rw [he7] at hB
      have he7' := Lib.hid he7
      clear hA hT he7
      have hA := hB
      clear hB
      simp only [List.cons_append, List.nil_append] at hA
      refine ⟨(show BlockIs _ bK [.int .u64 (num : Int), .string foot] 31 ∧ BlockIs _ bI [.bool op, .bool dead, .int .i64 (dl : Int), .int .i64 (ttl : Int), .int .i64 (told.length : Int)] 54 from ⟨hA.get (A := .cells bK [.int .u64 (num : Int), .string foot] 31) (by with_reducible repeat (first | exact Sel.here | apply Sel.there)), hA.get (A := .cells bI [.bool op, .bool dead, .int .i64 (dl : Int), .int .i64 (ttl : Int), .int .i64 (told.length : Int)] 54) (by with_reducible repeat (first | exact Sel.here | apply Sel.there))⟩), ?_⟩
      go_frame
      refine wpAnyH_done (by kernel_rfl) ?_ _
      try go_frame
      have hF := hA.facts
      (try simp only [setL, List.set_cons_zero, List.set_cons_succ, List.cons_append, List.nil_append] at hA); (have hF := hA.facts); (try simp only [facts_cons, facts_nil, facts_cells, facts_old, facts_fact, facts_obj, facts_map, facts_iter, facts_row, and_true, true_and] at hF)
      go_wp2_with (first | ((with_reducible show wpList _ _ _ ({ dst := _, op := Op.store _ _ _, type := _, pos := _, after := _, guard := _ } :: _) _ _); refine wpList_store_at rfl rfl rfl (by (try simp only [Act.eval, Array.getD_eq_getD_getElem?, List.getElem?_toArray, List.getElem?_cons_succ, List.getElem?_cons_zero, Option.getD_some]) <;> exact rfl) (by exact rfl) hA (by with_reducible repeat (first | exact Sel.here | apply Sel.there)) (by kernel_rfl) rfl (by first | decide | (simp; done) | omega) ?_; intro w1 hB; clear hF hA; have hA := hB; clear hB; (try simp only [setL, List.set_cons_zero, List.set_cons_succ, List.cons_append, List.nil_append] at hA); (have hF := hA.facts); (try simp only [facts_cons, facts_nil, facts_cells, facts_old, facts_fact, facts_obj, facts_map, facts_iter, facts_row, and_true, true_and] at hF)) | ((with_reducible show wpList _ _ _ ({ dst := _, op := Op.box _ _, type := _, pos := _, after := _, guard := _ } :: _) _ _); refine wpList_box_at rfl rfl (by (try simp only [Act.eval, Array.getD_eq_getD_getElem?, List.getElem?_toArray, List.getElem?_cons_succ, List.getElem?_cons_zero, Option.getD_some]) <;> exact rfl) (by exact rfl) hA ?_; intro b1 w1 hB hb1; clear hF hA; have hA := hB; clear hB; (try simp only [setL, List.set_cons_zero, List.set_cons_succ, List.cons_append, List.nil_append] at hA); (have hF := hA.facts); (try simp only [facts_cons, facts_nil, facts_cells, facts_old, facts_fact, facts_obj, facts_map, facts_iter, facts_row, and_true, true_and] at hF)))
      refine (requests_look (hA.sep1 (A := BookP p m ss) (by with_reducible repeat (first | exact Sel.here | apply Sel.there))) n0 n1 hmx hrs'.out).mono ?_
      rintro e w4 ⟨vq, rfl, hT⟩
      have hB := hA.call1 (A := BookP p m ss) (by with_reducible repeat (first | exact Sel.here | apply Sel.there)) hT
      clear hF hA hT
      have hA := hB
      clear hB
      simp only [List.cons_append, List.nil_append] at hA
      have hB : At _ w (Part.row 29 1 vq (told.map (·.r)).length ((told.map (·.r)).flatMap Unt.seL) :: _) _ := hA
      rw [List.length_map] at hB
      clear hA
      have hA := hB
      clear hB
      obtain ⟨qx, qcap, rfl, hqx, hqcap, _⟩ := hA.row_form (v := vq) (n := told.length) (xs := (told.map (·.r)).flatMap Unt.seL) (by with_reducible repeat (first | exact Sel.here | apply Sel.there))
      have hF := hA.facts
      (try simp only [setL, List.set_cons_zero, List.set_cons_succ, List.cons_append, List.nil_append] at hA); (have hF := hA.facts); (try simp only [facts_cons, facts_nil, facts_cells, facts_old, facts_fact, facts_obj, facts_map, facts_iter, facts_row, and_true, true_and] at hF)
      go_wp2_with fail
      try go_frame
      go_loopg [57] told.length (PvRel w p m b g bI bK ss c [.bool op, .bool dead, .int .i64 (dl : Int), .int .i64 (ttl : Int), .int .i64 (told.length : Int)] [.int .u64 (num : Int), .string foot] u00 l00 l7 told (.slice qx told.length qcap))
      case atStart => exact ⟨0, u7, l7, rfl, by simp, by simp, by omega, hA.pick (by repeat (first | exact Picks.nil | refine Picks.cons (by repeat (first | exact Sel.here | apply Sel.there)) ?_))⟩
      case round =>
        obtain ⟨j, u20, l20, rfl, hjk, hje, hjl, hB⟩ := hrel
        have hje' := Lib.hid hje
        clear hF hA hje
        have hA := hB
        clear hB
        by_cases hj : j < told.length
        · have hxm := List.getElem_mem hj
          have hxb := hrs'.out.told.bd _ hxm
          have hxa := hrs'.out.told.an _ hxm
          have htj := Lib.hid (List.take_succ_eq_append_getElem hj)
          obtain ⟨gq, cq, rfl, qp1, qm, ql, qt, hB⟩ := hA.row_open (ax := qx) (cap := qcap) (n := told.length) (xs := (told.map (·.r)).flatMap Unt.seL) (by with_reducible repeat (first | exact Sel.here | apply Sel.there)) (by omega)
          have hx : (told.map (·.r))[j]? = some told[j].r := by rw [List.getElem?_map, List.getElem?_eq_getElem hj]; rfl
          have qt2 : cq.take ((told.map (·.r)).length * 1) = (told.map (·.r)).flatMap Unt.seL := by rw [List.length_map]; exact qt
          have d0 : cq[j * 1]? = some (.int .u64 told[j].r) := cells_at (enc := Unt.seL) (size := 1) (fun _ => rfl) qt2 hx 0 (by omega)
          rw [Nat.mul_one] at d0
          obtain ⟨y, hy⟩ : ∃ y, told[j] = y := ⟨_, rfl⟩
          rw [hy] at hxm hxb hxa htj d0
          clear hA hx hy
          have hA := hB
          clear hB
          obtain ⟨r, e, n, gg⟩ := y
          unfold okA at hxa
          simp only at hxb hxa d0
          obtain ⟨⟨xe0, xe1⟩, xn0, xn1⟩ := hxa
          obtain ⟨xr0, xr1⟩ := hxb
          obtain ⟨r, rfl⟩ : ∃ k : Nat, r = k := ⟨r.toNat, by omega⟩
          obtain ⟨n, rfl⟩ : ∃ k : Nat, n = k := ⟨n.toNat, by omega⟩
          have hr64 : r < 18446744073709551616 := by unfold big64 at xr1; omega
          have hn64a : n < 18446744073709551616 := by unfold big64 at xn1; omega
          obtain ⟨eN, heNe⟩ : ∃ k : Nat, wrN e = k := ⟨_, rfl⟩
          have heN : eN < 18446744073709551616 := by rw [← heNe]; unfold wrN; omega
          have hwe : IntKind.u64.wrap e = (eN : Int) := by rw [← heNe, IntKind.wrap_u64]; unfold wrN; omega
          have heNe' := Lib.hid heNe
          have hjb : j * 29 ≤ 256 * 29 := Nat.mul_le_mul_right _ (by omega)
          have htold := told_look (n := (num : Int)) (f := foot) (hA.sep1 (A := BookP p m ss) (by with_reducible repeat (first | exact Sel.here | apply Sel.there))) n0 n1 hmx hrs'.out hxm
          simp only at htold
          clear heNe xe0 xe1 hxm
          have hF := hA.facts
          (try simp only [setL, List.set_cons_zero, List.set_cons_succ, List.cons_append, List.nil_append] at hA); (have hF := hA.facts); (try simp only [facts_cons, facts_nil, facts_cells, facts_old, facts_fact, facts_obj, facts_map, facts_iter, facts_row, and_true, true_and] at hF)
          go_wp2_with (first | ((with_reducible show wpList _ _ _ ({ dst := _, op := Op.store _ _ _, type := _, pos := _, after := _, guard := _ } :: _) _ _); refine wpList_store_at rfl rfl rfl (by (try simp only [Act.eval, Array.getD_eq_getD_getElem?, List.getElem?_toArray, List.getElem?_cons_succ, List.getElem?_cons_zero, Option.getD_some]) <;> exact rfl) (by exact rfl) hA (by with_reducible repeat (first | exact Sel.here | apply Sel.there)) (by kernel_rfl) rfl (by first | decide | (simp; done) | omega) ?_; intro w1 hB; clear hF hA; have hA := hB; clear hB; (try simp only [setL, List.set_cons_zero, List.set_cons_succ, List.cons_append, List.nil_append] at hA); (have hF := hA.facts); (try simp only [facts_cons, facts_nil, facts_cells, facts_old, facts_fact, facts_obj, facts_map, facts_iter, facts_row, and_true, true_and] at hF)) | ((with_reducible show wpList _ _ _ ({ dst := _, op := Op.box _ _, type := _, pos := _, after := _, guard := _ } :: _) _ _); refine wpList_box_at rfl rfl (by (try simp only [Act.eval, Array.getD_eq_getD_getElem?, List.getElem?_toArray, List.getElem?_cons_succ, List.getElem?_cons_zero, Option.getD_some]) <;> exact rfl) (by exact rfl) hA ?_; intro b1 w1 hB hb1; clear hF hA; have hA := hB; clear hB; (try simp only [setL, List.set_cons_zero, List.set_cons_succ, List.cons_append, List.nil_append] at hA); (have hF := hA.facts); (try simp only [facts_cons, facts_nil, facts_cells, facts_old, facts_fact, facts_obj, facts_map, facts_iter, facts_row, and_true, true_and] at hF)))
          refine htold.mono ?_
          clear htold
          rintro e' w5 ⟨rfl, hT⟩
          have hB := hA.call1 (A := BookP p m ss) (by with_reducible repeat (first | exact Sel.here | apply Sel.there)) hT
          clear hF hA hT
          have hA := hB
          clear hB
          simp only [List.cons_append, List.nil_append] at hA
          have hF := hA.facts
          (try simp only [setL, List.set_cons_zero, List.set_cons_succ, List.cons_append, List.nil_append] at hA); (have hF := hA.facts); (try simp only [facts_cons, facts_nil, facts_cells, facts_old, facts_fact, facts_obj, facts_map, facts_iter, facts_row, and_true, true_and] at hF)
          go_wp2_with (first | ((with_reducible show wpList _ _ _ ({ dst := _, op := Op.alloc _, type := _, pos := _, after := _, guard := _ } :: _) _ _); refine wpList_alloc_at (E := 34) (z := .agg #[.int .i64 0, .int .u64 0, .bool false]) (vs := [.int .i64 0, .int .u64 0, .bool false]) rfl rfl (by kernel_rfl) rfl hA ?_; intro bA w1 hB hbA; clear hF hA; have hA := hB; clear hB; (try simp only [setL, List.set_cons_zero, List.set_cons_succ, List.cons_append, List.nil_append] at hA); (have hF := hA.facts); (try simp only [facts_cons, facts_nil, facts_cells, facts_old, facts_fact, facts_obj, facts_map, facts_iter, facts_row, and_true, true_and] at hF)) | ((with_reducible show wpList _ _ _ ({ dst := _, op := Op.store _ _ _, type := _, pos := _, after := _, guard := _ } :: _) _ _); refine wpList_store_at rfl rfl rfl (by (try simp only [Act.eval, Array.getD_eq_getD_getElem?, List.getElem?_toArray, List.getElem?_cons_succ, List.getElem?_cons_zero, Option.getD_some]) <;> exact rfl) (by exact rfl) hA (by with_reducible repeat (first | exact Sel.here | apply Sel.there)) (by kernel_rfl) rfl (by first | decide | (simp; done) | omega) ?_; intro w1 hB; clear hF hA; have hA := hB; clear hB; (try simp only [setL, List.set_cons_zero, List.set_cons_succ, List.cons_append, List.nil_append] at hA); (have hF := hA.facts); (try simp only [facts_cons, facts_nil, facts_cells, facts_old, facts_fact, facts_obj, facts_map, facts_iter, facts_row, and_true, true_and] at hF)) | ((with_reducible show wpList _ _ _ ({ dst := _, op := Op.box _ _, type := _, pos := _, after := _, guard := _ } :: _) _ _); refine wpList_box_at rfl rfl (by (try simp only [Act.eval, Array.getD_eq_getD_getElem?, List.getElem?_toArray, List.getElem?_cons_succ, List.getElem?_cons_zero, Option.getD_some]) <;> exact rfl) (by exact rfl) hA ?_; intro b1 w1 hB hb1; clear hF hA; have hA := hB; clear hB; (try simp only [setL, List.set_cons_zero, List.set_cons_succ, List.cons_append, List.nil_append] at hA); (have hF := hA.facts); (try simp only [facts_cons, facts_nil, facts_cells, facts_old, facts_fact, facts_obj, facts_map, facts_iter, facts_row, and_true, true_and] at hF)))
          try go_frame
          have hAd := hA.drew
          clear hF hA
          have hA := hAd
          clear hAd
          refine wp_region_held (S := fun w' => BlockIs w' bA [.int .i64 e, .int .u64 (n : Int), .bool gg] 34) hm ?_
          change wpAnyH _ _ _ _ _ 13 _ _ (World.drew _)
          generalize World.drew _ = w2 at *
          have hS0 := (show BlockIs _ bA [.int .i64 e, .int .u64 (n : Int), .bool gg] 34 from hA.get (A := .cells bA [.int .i64 e, .int .u64 (n : Int), .bool gg] 34) (by with_reducible repeat (first | exact Sel.here | apply Sel.there)))
          refine wpAnyH_takeD (i := 0) (d := some 68) (v := (.pointer (some ⟨b, 0, none⟩))) rfl rfl (by kernel_rfl) (by kernel_rfl) (by kernel_rfl) (fun _ _ _ h => h) rfl (fun w' hS => by simp [execOp, go_sem, Act.eval, Act.put]) hS0 ?_
          go_frame
          refine wpAnyH_takeD (i := 1) (d := some 69) (v := (.int .u64 (r : Int))) rfl rfl (by kernel_rfl) (by kernel_rfl) (by kernel_rfl) (fun _ _ _ h => h) rfl (fun w' hS => by simp [execOp, go_sem, Act.eval, Act.put]) hS0 ?_
          go_frame
          refine wpAnyH_takeD (i := 3) (d := some 71) (v := (.pointer (some ⟨bA, 0, none⟩))) rfl rfl (by kernel_rfl) (by kernel_rfl) (by kernel_rfl) (fun _ _ _ h => h) rfl (fun w' hS => by kernel_rfl) hS0 ?_
          go_frame
          refine wpAnyH_takeD (i := 4) (d := some 72) (v := (.int .i64 e)) rfl rfl (by kernel_rfl) (by kernel_rfl) (by kernel_rfl) (fun _ _ _ h => h) rfl (fun w' hS => run_load_one (b := bA) (j := 0) rfl (by exact rfl) hS (by kernel_rfl) rfl) hS0 ?_
          go_frame
          refine wpAnyH_takeD (i := 5) (d := some 73) (v := (.int .u64 (eN : Int))) rfl rfl (by kernel_rfl) (by kernel_rfl) (by kernel_rfl) (fun _ _ _ h => h) rfl (fun w' hS => by simp [execOp, go_sem, Act.eval, Act.put, hwe]) hS0 ?_
          go_frame
          refine wpAnyH_takeD (i := 7) (d := some 75) (v := (.pointer (some ⟨bA, 1, none⟩))) rfl rfl (by kernel_rfl) (by kernel_rfl) (by kernel_rfl) (fun _ _ _ h => h) rfl (fun w' hS => by kernel_rfl) hS0 ?_
          go_frame
          refine wpAnyH_takeD (i := 8) (d := some 76) (v := (.int .u64 (n : Int))) rfl rfl (by kernel_rfl) (by kernel_rfl) (by kernel_rfl) (fun _ _ _ h => h) rfl (fun w' hS => run_load_one (b := bA) (j := 1) rfl (by exact rfl) hS (by kernel_rfl) rfl) hS0 ?_
          go_frame
          refine wpAnyH_takeD (i := 10) (d := some 78) (v := (.pointer (some ⟨bA, 2, none⟩))) rfl rfl (by kernel_rfl) (by kernel_rfl) (by kernel_rfl) (fun _ _ _ h => h) rfl (fun w' hS => by kernel_rfl) hS0 ?_
          go_frame
          refine wpAnyH_takeD (i := 11) (d := some 79) (v := (.bool gg)) rfl rfl (by kernel_rfl) (by kernel_rfl) (by kernel_rfl) (fun _ _ _ h => h) rfl (fun w' hS => run_load_one (b := bA) (j := 2) rfl (by exact rfl) hS (by kernel_rfl) rfl) hS0 ?_
          go_frame
          clear hS0
          refine wpAnyH_one (i := 2) (by kernel_rfl) ?_
          refine opCall_at (i := 2) (d := some 70) rfl rfl rfl (fn := 24) (args := #[(.pointer (some ⟨b, 0, none⟩)), .int .u64 (r : Int)]) (by simp [execOp, go_sem, Act.eval, Act.put]) ((outShort (hA.sep2 (A := outC b u20) (B := rowY u20 l20) (by with_reducible repeat (first | exact Sel.here | apply Sel.there)) (by with_reducible repeat (first | exact Sel.here | apply Sel.there))) r hr64 (by omega)).mono (fun e w' h => OutPost.r h)) ?_
          rintro xq zq ⟨rfl, u21, hT⟩
          have hB := hA.call2 (A := outC b u20) (B := rowY u20 l20) (by with_reducible repeat (first | exact Sel.here | apply Sel.there)) (by with_reducible repeat (first | exact Sel.here | apply Sel.there)) hT
          obtain ⟨l21, he21⟩ : ∃ z, l20 ++ shortN r = z := ⟨_, rfl⟩
          have hl21 : l21.length ≤ l20.length + 10 := by have := short_len 9 r (by omega); rw [← he21, List.length_append]; omega
          rw [he21] at hB
          have he21' := Lib.hid he21
          clear hA hT he21
          have hA := hB
          clear hB
          simp only [List.cons_append, List.nil_append] at hA
          refine ⟨(show BlockIs _ bA [.int .i64 e, .int .u64 (n : Int), .bool gg] 34 from hA.get (A := .cells bA [.int .i64 e, .int .u64 (n : Int), .bool gg] 34) (by with_reducible repeat (first | exact Sel.here | apply Sel.there))), ?_⟩
          go_frame
          refine wpAnyH_one (i := 6) (by kernel_rfl) ?_
          refine opCall_at (i := 6) (d := some 74) rfl rfl rfl (fn := 24) (args := #[(.pointer (some ⟨b, 0, none⟩)), .int .u64 (eN : Int)]) (by simp [execOp, go_sem, Act.eval, Act.put]) ((outShort (hA.sep2 (A := outC b u21) (B := rowY u21 l21) (by with_reducible repeat (first | exact Sel.here | apply Sel.there)) (by with_reducible repeat (first | exact Sel.here | apply Sel.there))) eN heN (by omega)).mono (fun e w' h => OutPost.r h)) ?_
          rintro xq zq ⟨rfl, u22, hT⟩
          have hB := hA.call2 (A := outC b u21) (B := rowY u21 l21) (by with_reducible repeat (first | exact Sel.here | apply Sel.there)) (by with_reducible repeat (first | exact Sel.here | apply Sel.there)) hT
          obtain ⟨l22, he22⟩ : ∃ z, l21 ++ shortN eN = z := ⟨_, rfl⟩
          have hl22 : l22.length ≤ l21.length + 10 := by have := short_len 9 eN (by omega); rw [← he22, List.length_append]; omega
          rw [he22] at hB
          have he22' := Lib.hid he22
          clear hA hT he22
          have hA := hB
          clear hB
          simp only [List.cons_append, List.nil_append] at hA
          refine ⟨(show BlockIs _ bA [.int .i64 e, .int .u64 (n : Int), .bool gg] 34 from hA.get (A := .cells bA [.int .i64 e, .int .u64 (n : Int), .bool gg] 34) (by with_reducible repeat (first | exact Sel.here | apply Sel.there))), ?_⟩
          go_frame
          refine wpAnyH_one (i := 9) (by kernel_rfl) ?_
          refine opCall_at (i := 9) (d := some 77) rfl rfl rfl (fn := 25) (args := #[(.pointer (some ⟨b, 0, none⟩)), .int .u64 (n : Int)]) (by simp [execOp, go_sem, Act.eval, Act.put]) ((outFixed (hA.sep2 (A := outC b u22) (B := rowY u22 l22) (by with_reducible repeat (first | exact Sel.here | apply Sel.there)) (by with_reducible repeat (first | exact Sel.here | apply Sel.there))) n hn64a (by omega)).mono (fun e w' h => OutPost.r h)) ?_
          rintro xq zq ⟨rfl, u23, hT⟩
          have hB := hA.call2 (A := outC b u22) (B := rowY u22 l22) (by with_reducible repeat (first | exact Sel.here | apply Sel.there)) (by with_reducible repeat (first | exact Sel.here | apply Sel.there)) hT
          obtain ⟨l23, he23⟩ : ∃ z, l22 ++ fixL n = z := ⟨_, rfl⟩
          have hl23 : l23.length ≤ l22.length + 8 := by have := (show (fixL n).length ≤ 8 from by simp [fixL]); rw [← he23, List.length_append]; omega
          rw [he23] at hB
          have he23' := Lib.hid he23
          clear hA hT he23
          have hA := hB
          clear hB
          simp only [List.cons_append, List.nil_append] at hA
          refine ⟨(show BlockIs _ bA [.int .i64 e, .int .u64 (n : Int), .bool gg] 34 from hA.get (A := .cells bA [.int .i64 e, .int .u64 (n : Int), .bool gg] 34) (by with_reducible repeat (first | exact Sel.here | apply Sel.there))), ?_⟩
          go_frame
          refine wpAnyH_one (i := 12) (by kernel_rfl) ?_
          refine opCall_at (i := 12) (d := some 80) rfl rfl rfl (fn := 27) (args := #[(.pointer (some ⟨b, 0, none⟩)), .bool gg]) (by simp [execOp, go_sem, Act.eval, Act.put]) ((outTruth (hA.sep2 (A := outC b u23) (B := rowY u23 l23) (by with_reducible repeat (first | exact Sel.here | apply Sel.there)) (by with_reducible repeat (first | exact Sel.here | apply Sel.there))) gg (by omega)).mono (fun e w' h => OutPost.r h)) ?_
          rintro xq zq ⟨rfl, u24, hT⟩
          have hB := hA.call2 (A := outC b u23) (B := rowY u23 l23) (by with_reducible repeat (first | exact Sel.here | apply Sel.there)) (by with_reducible repeat (first | exact Sel.here | apply Sel.there)) hT
          obtain ⟨l24, he24⟩ : ∃ z, l23 ++ [if gg then (1 : Int) else 0] = z := ⟨_, rfl⟩
          have hl24 : l24.length ≤ l23.length + 1 := by have := (show ([if gg then (1 : Int) else 0] : List Int).length ≤ 1 from Nat.le_refl _); rw [← he24, List.length_append]; omega
          rw [he24] at hB
          have he24' := Lib.hid he24
          clear hA hT he24
          have hA := hB
          clear hB
          simp only [List.cons_append, List.nil_append] at hA
          refine ⟨(show BlockIs _ bA [.int .i64 e, .int .u64 (n : Int), .bool gg] 34 from hA.get (A := .cells bA [.int .i64 e, .int .u64 (n : Int), .bool gg] 34) (by with_reducible repeat (first | exact Sel.here | apply Sel.there))), ?_⟩
          go_frame
          refine wpAnyH_done (by kernel_rfl) ?_ _
          try go_frame
          have hF := hA.facts
          (try simp only [setL, List.set_cons_zero, List.set_cons_succ, List.cons_append, List.nil_append] at hA); (have hF := hA.facts); (try simp only [facts_cons, facts_nil, facts_cells, facts_old, facts_fact, facts_obj, facts_map, facts_iter, facts_row, and_true, true_and] at hF)
          go_wp2_with (first | ((with_reducible show wpList _ _ _ ({ dst := _, op := Op.store _ _ _, type := _, pos := _, after := _, guard := _ } :: _) _ _); refine wpList_store_at rfl rfl rfl (by (try simp only [Act.eval, Array.getD_eq_getD_getElem?, List.getElem?_toArray, List.getElem?_cons_succ, List.getElem?_cons_zero, Option.getD_some]) <;> exact rfl) (by exact rfl) hA (by with_reducible repeat (first | exact Sel.here | apply Sel.there)) (by kernel_rfl) rfl (by first | decide | (simp; done) | omega) ?_; intro w1 hB; clear hF hA; have hA := hB; clear hB; (try simp only [setL, List.set_cons_zero, List.set_cons_succ, List.cons_append, List.nil_append] at hA); (have hF := hA.facts); (try simp only [facts_cons, facts_nil, facts_cells, facts_old, facts_fact, facts_obj, facts_map, facts_iter, facts_row, and_true, true_and] at hF)) | ((with_reducible show wpList _ _ _ ({ dst := _, op := Op.box _ _, type := _, pos := _, after := _, guard := _ } :: _) _ _); refine wpList_box_at rfl rfl (by (try simp only [Act.eval, Array.getD_eq_getD_getElem?, List.getElem?_toArray, List.getElem?_cons_succ, List.getElem?_cons_zero, Option.getD_some]) <;> exact rfl) (by exact rfl) hA ?_; intro b1 w1 hB hb1; clear hF hA; have hA := hB; clear hB; (try simp only [setL, List.set_cons_zero, List.set_cons_succ, List.cons_append, List.nil_append] at hA); (have hF := hA.facts); (try simp only [facts_cons, facts_nil, facts_cells, facts_old, facts_fact, facts_obj, facts_map, facts_iter, facts_row, and_true, true_and] at hF)))
          go_roundg (gk - 1)
          case measure => omega
          case rel =>
            have hS := hA.row_shut (e := 29) (size := 1) (n := told.length) (cap := qcap) (xs := (told.map (·.r)).flatMap Unt.seL) (g := gq) (c := cq) (by with_reducible repeat (first | exact Sel.here | apply Sel.there)) ql qp1 qm qt
            refine ⟨j + 1, u24, l24, by simp, by omega, ?_, by omega, hS.pick (by repeat (first | exact Picks.nil | refine Picks.cons (by repeat (first | exact Sel.here | apply Sel.there)) ?_))⟩
            rw [htj.out, ← he24'.out, ← he23'.out, ← he22'.out, ← he21'.out, hje'.out]
            simp only [List.flatMap_append, List.flatMap_cons, List.flatMap_nil, List.append_nil, encA, bB, heNe'.out, Int.toNat_natCast, List.append_assoc]
        · have hjt : told.take j = told := List.take_of_length_le (by omega)
          have hje2 := hje'.out
          rw [hjt] at hje2
          have hje3 := Lib.hid hje2
          clear hje2 hjt hje'
          have hF := hA.facts
          (try simp only [setL, List.set_cons_zero, List.set_cons_succ, List.cons_append, List.nil_append] at hA); (have hF := hA.facts); (try simp only [facts_cons, facts_nil, facts_cells, facts_old, facts_fact, facts_obj, facts_map, facts_iter, facts_row, and_true, true_and] at hF)
          go_wp2_with fail
          go_roundg (L.length - (i + 1))
          case measure => omega
          case rel =>
            have hS := hA.row_shut (e := 31) (size := 2) (n := L.length) (cap := lcap) (xs := (L.map keyR).flatMap seL) (g := g) (c := c) (by with_reducible repeat (first | exact Sel.here | apply Sel.there)) cl cp1 cm ct
            refine ⟨i + 1, u20, l20, by simp, by omega, ?_, by omega, hS.pick (by repeat (first | exact Picks.nil | refine Picks.cons (by repeat (first | exact Sel.here | apply Sel.there)) ?_))⟩
            rw [hje3.out, htk.out, ← he7'.out, ← he6'.out, ← he5'.out, ← he4'.out, ← he3'.out, ← he2'.out, ← he1'.out, hle'.out]
            simp only [List.flatMap_append, List.flatMap_cons, List.flatMap_nil, List.append_nil, encS, bB, Int.toNat_natCast, List.append_assoc]
    · have hle2 := hle'.out
      rw [List.take_of_length_le (by omega)] at hle2
      have hF := hA.facts
      (try simp only [setL, List.set_cons_zero, List.set_cons_succ, List.cons_append, List.nil_append] at hA); (have hF := hA.facts); (try simp only [facts_cons, facts_nil, facts_cells, facts_old, facts_fact, facts_obj, facts_map, facts_iter, facts_row, and_true, true_and] at hF)
      go_wp2_with fail
      first | go_ret | go_end0
      refine ⟨rfl, u0, ?_⟩
      have hE := hA.pick (K := [BookP p m ss, outC b u0, rowY u0 l0]) (by repeat (first | exact Picks.nil | refine Picks.cons (by repeat (first | exact Sel.here | apply Sel.there)) ?_))
      rw [hle2, List.append_assoc] at hE
      exact hE
end Go.Proofs.Ytnkddjomanaadaa.Lease
end

section
namespace Go.Proofs.Ytnkddjomanaadaa.Lease
open _root_.Go.Proofs.Ytnkddjomanaadaa.Wire
set_option linter.unusedSimpArgs false
set_option linter.unusedVariables false

/-! ### Codes of which none is the beginning of another one -/
theorem short_cut : ∀ (v w : Nat) (r s : List Int), shortN v ++ r = shortN w ++ s → v = w ∧ r = s := by
  intro v
  induction v using Nat.strongRecOn with
  | _ v ih =>
    intro w r s h
    by_cases hv : v < 128
    · by_cases hw : w < 128
      · rw [short_lo hv, short_lo hw] at h
        simp only [List.cons_append, List.nil_append, List.cons.injEq] at h
        exact ⟨by omega, h.2⟩
      · rw [short_lo hv, short_hi (v := w) (by omega)] at h
        simp only [List.cons_append, List.nil_append, List.cons.injEq] at h
        omega
    · by_cases hw : w < 128
      · rw [short_hi (v := v) (by omega), short_lo hw] at h
        simp only [List.cons_append, List.nil_append, List.cons.injEq] at h
        omega
      · rw [short_hi (v := v) (by omega), short_hi (v := w) (by omega)] at h
        simp only [List.cons_append, List.cons.injEq] at h
        obtain ⟨h1, h2⟩ := ih (v / 128) (by omega) (w / 128) r s h.2
        exact ⟨by omega, h2⟩
theorem fix_cut {v w : Nat} (hv : v < 18446744073709551616) (hw : w < 18446744073709551616) {r s : List Int} (h : fixL v ++ r = fixL w ++ s) : v = w ∧ r = s := by
  unfold fixL byteN at h
  simp only [List.cons_append, List.nil_append, List.cons.injEq] at h
  obtain ⟨h0, h1, h2, h3, h4, h5, h6, h7, h8⟩ := h
  refine ⟨?_, h8⟩
  simp only [Nat.reducePow, Int.natCast_inj, Nat.div_one] at h0 h1 h2 h3 h4 h5 h6 h7
  omega
theorem bB_cut {t u : Bool} {r s : List Int} (h : bB t ++ r = bB u ++ s) : t = u ∧ r = s := by
  cases t <;> cases u <;> simp [bB] at h ⊢ <;> exact h
theorem textL_inj {s t : ByteArray} (h : textL s = textL t) : s = t := by
  unfold textL at h
  refine Go.WideShapes.bytes_inj ?_
  have : ∀ (a b : List UInt8), a.map (fun x => (x.toNat : Int)) = b.map (fun x => (x.toNat : Int)) → a = b := by
    intro a
    induction a with
    | nil => intro b hb; cases b with
      | nil => rfl
      | cons x b => simp at hb
    | cons x a ih => intro b hb; cases b with
      | nil => simp at hb
      | cons y b =>
        simp only [List.map_cons, List.cons.injEq] at hb
        rw [ih b hb.2, show x = y from UInt8.toNat_inj.1 (by omega)]
  exact this _ _ h
theorem text_cut {s t : ByteArray} {q r : List Int} (h : textB s ++ q = textB t ++ r) : s = t ∧ q = r := by
  unfold textB at h
  rw [List.append_assoc, List.append_assoc] at h
  obtain ⟨h1, h2⟩ := short_cut _ _ _ _ h
  have h3 := List.append_inj h2 (by rw [textL_len, textL_len, h1])
  exact ⟨textL_inj h3.1, h3.2⟩
theorem wrN_inj {e f : Int} (he : -9223372036854775808 ≤ e ∧ e ≤ 9223372036854775807) (hf : -9223372036854775808 ≤ f ∧ f ≤ 9223372036854775807) (h : wrN e = wrN f) : e = f := by
  unfold wrN at h
  omega
def okR (a : AR) : Prop := (0 ≤ a.r ∧ a.r < big64) ∧ okA a
theorem encA_cut {a b : AR} (ha : okR a) (hb : okR b) {r s : List Int} (h : encA a ++ r = encA b ++ s) : a = b ∧ r = s := by
  obtain ⟨r1, e1, n1, g1⟩ := a
  obtain ⟨r2, e2, n2, g2⟩ := b
  obtain ⟨⟨a1, a2⟩, a3, a4, a5⟩ := ha
  obtain ⟨⟨b1, b2⟩, b3, b4, b5⟩ := hb
  simp only at a1 a2 a3 a4 a5 b1 b2 b3 b4 b5
  unfold encA at h
  simp only [List.append_assoc] at h
  unfold big64 at a2 a5 b2 b5
  obtain ⟨h1, h⟩ := short_cut _ _ _ _ h
  obtain ⟨h2, h⟩ := short_cut _ _ _ _ h
  obtain ⟨h3, h⟩ := fix_cut (by omega) (by omega) h
  obtain ⟨h4, h⟩ := bB_cut h
  have e1' := wrN_inj a3 b3 h2
  refine ⟨?_, h⟩
  rw [show r1 = r2 from by omega, e1', show n1 = n2 from by omega, h4]
theorem list_cut {α : Type} {f : α → List Int} {P : α → Prop} (hf : ∀ a b r s, P a → P b → f a ++ r = f b ++ s → a = b ∧ r = s) : ∀ (l m : List α), (∀ a ∈ l, P a) → (∀ a ∈ m, P a) → l.length = m.length → ∀ r s, l.flatMap f ++ r = m.flatMap f ++ s → l = m ∧ r = s
  | [], [], _, _, _, r, s, h => ⟨rfl, h⟩
  | [], _ :: _, _, _, h, _, _, _ => by simp at h
  | _ :: _, [], _, _, h, _, _, _ => by simp at h
  | a :: l, b :: m, hl, hm, hn, r, s, h => by
    rw [List.flatMap_cons, List.flatMap_cons, List.append_assoc, List.append_assoc] at h
    obtain ⟨h1, h2⟩ := hf a b _ _ (hl a (List.mem_cons_self ..)) (hm b (List.mem_cons_self ..)) h
    obtain ⟨h3, h4⟩ := list_cut hf l m (fun x hx => hl x (List.mem_cons_of_mem _ hx)) (fun x hx => hm x (List.mem_cons_of_mem _ hx)) (by simpa using hn) r s h2
    exact ⟨by rw [h1, h3], h4⟩
/-- all that is known of a session -/
def projS (s : SR) : Int × ByteArray × Bool × Bool × Int × Int × List AR := (s.num, s.foot, s.op, s.dead, s.dl, s.ttl, s.told)
structure okS (s : SR) : Prop where
  n0 : 0 ≤ s.num
  n1 : s.num < big64
  d0 : 0 ≤ s.dl
  t0 : 0 ≤ s.ttl
  told : ∀ a ∈ s.told, okR a
theorem encS_cut {a b : SR} (ha : okS a) (hb : okS b) {r s : List Int} (h : encS a ++ r = encS b ++ s) : projS a = projS b ∧ r = s := by
  obtain ⟨a1, a2, a3, a4, a5⟩ := ha
  obtain ⟨b1, b2, b3, b4, b5⟩ := hb
  unfold encS at h
  simp only [List.append_assoc] at h
  unfold big64 at a2 b2
  obtain ⟨h1, h⟩ := fix_cut (by omega) (by omega) h
  obtain ⟨h2, h⟩ := text_cut h
  obtain ⟨h3, h⟩ := bB_cut h
  obtain ⟨h4, h⟩ := bB_cut h
  obtain ⟨h5, h⟩ := short_cut _ _ _ _ h
  obtain ⟨h6, h⟩ := short_cut _ _ _ _ h
  obtain ⟨h7, h⟩ := short_cut _ _ _ _ h
  obtain ⟨h8, h⟩ := list_cut (P := okR) (fun a b r s pa pb q => encA_cut pa pb q) _ _ a5 b5 h7 _ _ h
  refine ⟨?_, h⟩
  unfold projS
  rw [show a.num = b.num from by omega, h2, h3, h4, show a.dl = b.dl from by omega, show a.ttl = b.ttl from by omega, h8]
theorem encS_proj {a b : SR} (h : projS a = projS b) : encS a = encS b := by
  unfold projS at h
  simp only [Prod.mk.injEq] at h
  obtain ⟨h1, h2, h3, h4, h5, h6, h7⟩ := h
  unfold encS
  rw [h1, h2, h3, h4, h5, h6, h7]
theorem encL_proj : ∀ (L M : List SR), L.map projS = M.map projS → L.flatMap encS = M.flatMap encS
  | [], [], _ => rfl
  | [], _ :: _, h => by simp at h
  | _ :: _, [], h => by simp at h
  | a :: L, b :: M, h => by
    simp only [List.map_cons, List.cons.injEq] at h
    rw [List.flatMap_cons, List.flatMap_cons, encS_proj h.1, encL_proj L M h.2]
theorem encL_cut : ∀ (L M : List SR), (∀ a ∈ L, okS a) → (∀ a ∈ M, okS a) → L.length = M.length → ∀ r s, L.flatMap encS ++ r = M.flatMap encS ++ s → L.map projS = M.map projS
  | [], [], _, _, _, r, s, h => rfl
  | [], _ :: _, _, _, h, _, _, _ => by simp at h
  | _ :: _, [], _, _, h, _, _, _ => by simp at h
  | a :: l, b :: m, hl, hm, hn, r, s, h => by
    rw [List.flatMap_cons, List.flatMap_cons, List.append_assoc, List.append_assoc] at h
    obtain ⟨h1, h2⟩ := encS_cut (hl a (List.mem_cons_self ..)) (hm b (List.mem_cons_self ..)) h
    have h3 := encL_cut l m (fun x hx => hl x (List.mem_cons_of_mem _ hx)) (fun x hx => hm x (List.mem_cons_of_mem _ hx)) (by simpa using hn) r s h2
    rw [List.map_cons, List.map_cons, h1, h3]
theorem enc_iff {L M : List SR} (hL : ∀ a ∈ L, okS a) (hM : ∀ a ∈ M, okS a) : encL L = encL M ↔ L.map projS = M.map projS := by
  constructor
  · intro h
    unfold encL at h
    obtain ⟨h1, h2⟩ := short_cut _ _ _ _ h
    exact encL_cut L M hL hM h1 [] [] (by simpa using h2)
  · intro h
    unfold encL
    rw [encL_proj L M h, show L.length = M.length from by simpa using congrArg List.length h]
end Go.Proofs.Ytnkddjomanaadaa.Lease
end

section
namespace Go.Proofs.Ytnkddjomanaadaa.Lease
open Go.RowKit
set_option linter.unusedSimpArgs false
set_option linter.unusedVariables false
attribute [-go_sem] run_eql_struct run_neq_struct run_eqGuard_agg

def eqA (x y : AR) : Bool := decide (x.r = y.r) && (decide (x.e = y.e) && (decide (x.n = y.n) && decide (x.g = y.g)))
theorem eqA_iff {x y : AR} : eqA x y = true ↔ x = y := by
  unfold eqA
  obtain ⟨r1, e1, n1, g1⟩ := x
  obtain ⟨r2, e2, n2, g2⟩ := y
  simp
theorem sameAR (r1 e1 n1 r2 e2 n2 : Int) (g1 g2 : Bool) (w : World) : (Op.equalIn 10000 61 (.agg #[.int .u64 r1, .int .i64 e1, .int .u64 n1, .bool g1]) (.agg #[.int .u64 r2, .int .i64 e2, .int .u64 n2, .bool g2])).run Try.prog w = .ok (eqA ⟨r1, e1, n1, g1⟩ ⟨r2, e2, n2, g2⟩) w := by
  rw [run_equalIn_agg _ 9999 _ _ _ (by kernel_rfl) (by kernel_rfl)]
  simp [go_sem, Op.eqFields, eqA]
  by_cases h1 : r1 = r2 <;> by_cases h2 : e1 = e2 <;> by_cases h3 : n1 = n2 <;> by_cases h4 : g1 = g2 <;> simp [h1, h2, h3, h4]
@[local go_sem] theorem guardAR (op : BinOp) (x y : Operand) (c1 c2 c3 c4 d1 d2 d3 d4 : Value) (w : World) : (eqGuard op 61 x y (.agg #[c1, c2, c3, c4]) (.agg #[d1, d2, d3, d4])).run Try.prog w = .ok () w := run_eqGuard_agg _ _ _ _ _ _ _ (by kernel_rfl)
@[local go_sem] theorem neqAR (r1 e1 n1 r2 e2 n2 : Int) (g1 g2 : Bool) (w : World) : (binOp .neq 61 (.agg #[.int .u64 r1, .int .i64 e1, .int .u64 n1, .bool g1]) (.agg #[.int .u64 r2, .int .i64 e2, .int .u64 n2, .bool g2])).run Try.prog w = .ok (.bool (!eqA ⟨r1, e1, n1, g1⟩ ⟨r2, e2, n2, g2⟩)) w := by
  rw [run_neq_struct, sameAR]; rfl
theorem take_cells {α : Type} {enc : α → List Value} {size : Nat} (hs : ∀ x, (enc x).length = size) {c : List Value} {l : List α} (ht : c.take (l.length * size) = l.flatMap enc) {k : Nat} {x : α} (hx : l[k]? = some x) : (c.drop (k * size)).take size = enc x := by
  apply List.ext_getElem?
  intro j
  by_cases hj : j < size
  · rw [List.getElem?_take_of_lt hj, List.getElem?_drop]
    exact cells_at hs ht hx j hj
  · rw [List.getElem?_take_eq_none (by omega), List.getElem?_eq_none (by rw [hs]; omega)]
def EqRel (w : World) (bA bB : Nat) (ca cb : List Value) (va vb : Value) (s t : List AR) (k : Nat) (x : Value) (wr : World) : Prop :=
  ∃ i : Nat, x = .int .i64 i ∧ i + k = s.length ∧ s.take i = t.take i ∧ At [rowA va s, rowA vb t] w [.cells bA ca 47, .cells bB cb 47, rowA va s, rowA vb t] wr
set_option maxRecDepth 100000 in
set_option maxHeartbeats 2000000 in
theorem equal_any {w : World} {a b : SR} (h : Sep [rowA a.tv a.told, rowA b.tv b.told] w) (hl : a.told.length ≤ 256) :
    Calls Try.prog 8 #[.agg a.cells.toArray, .agg b.cells.toArray] w fun e w' => ∃ c, e = .returned (.bool c) ∧ (c = true ↔ projS a = projS b) ∧ At [rowA a.tv a.told, rowA b.tv b.told] w [rowA a.tv a.told, rowA b.tv b.told] w' := by
  obtain ⟨n1, f1, o1, d1, l1, t1, ax, acap, s⟩ := a
  obtain ⟨n2, f2, o2, d2, l2, t2, bx, bcap, t⟩ := b
  unfold SR.cells projS
  simp only [SR.tv] at *
  have hA := At.start h
  have hF := hA.facts
  clear h
  (try simp only [setL, List.set_cons_zero, List.set_cons_succ, List.cons_append, List.nil_append] at hA); (have hF := hA.facts); (try simp only [facts_cons, facts_nil, facts_cells, facts_old, facts_fact, facts_obj, facts_map, facts_iter, facts_row, and_true, true_and] at hF)
  by_cases h1 : n1 = n2
  · by_cases h2 : f1 = f2
    · by_cases h3 : o1 = o2
      · by_cases h4 : d1 = d2
        · by_cases h5 : l1 = l2
          · by_cases h6 : t1 = t2
            · by_cases h7 : s.length = t.length
              · subst h1 h2 h3 h4 h5 h6
                have e2 : (f1.toList == f1.toList) = true := by simp
                have e3 : (o1 != o1) = false := by simp
                have e4 : (d1 != d1) = false := by simp
                have e7 : ((s.length : Int) != (t.length : Int)) = false := by simp [h7]
                have hpr := Lib.hid (show ∀ z : AR → AR, True from fun _ => trivial)
                go_enter Try.func8, Try.ntmps8
                go_wp2_with (first | (with_reducible show wpList _ _ _ ({ dst := _, op := Op.box _ (Operand.tmp 0), type := _, pos := _, after := _, guard := _ } :: _) _ _; ((with_reducible show wpList _ _ _ ({ dst := _, op := Op.box _ _, type := _, pos := _, after := _, guard := _ } :: _) _ _); refine wpList_box_at (E := 47) rfl rfl (by (try simp only [Act.eval, Array.getD_eq_getD_getElem?, List.getElem?_toArray, List.getElem?_cons_succ, List.getElem?_cons_zero, Option.getD_some]) <;> exact rfl) (by exact rfl) hA ?_; intro bA w1 hB hbA; clear hF hA; have hA := hB; clear hB; (try simp only [setL, List.set_cons_zero, List.set_cons_succ, List.cons_append, List.nil_append] at hA); (have hF := hA.facts); (try simp only [facts_cons, facts_nil, facts_cells, facts_old, facts_fact, facts_obj, facts_map, facts_iter, facts_row, and_true, true_and] at hF))) | ((with_reducible show wpList _ _ _ ({ dst := _, op := Op.box _ _, type := _, pos := _, after := _, guard := _ } :: _) _ _); refine wpList_box_at (E := 47) rfl rfl (by (try simp only [Act.eval, Array.getD_eq_getD_getElem?, List.getElem?_toArray, List.getElem?_cons_succ, List.getElem?_cons_zero, Option.getD_some]) <;> exact rfl) (by exact rfl) hA ?_; intro bB w1 hB hbB; clear hF hA; have hA := hB; clear hB; (try simp only [setL, List.set_cons_zero, List.set_cons_succ, List.cons_append, List.nil_append] at hA); (have hF := hA.facts); (try simp only [facts_cons, facts_nil, facts_cells, facts_old, facts_fact, facts_obj, facts_map, facts_iter, facts_row, and_true, true_and] at hF)) | ((with_reducible show wpList _ _ _ ({ dst := _, op := Op.store _ _ _, type := _, pos := _, after := _, guard := _ } :: _) _ _); refine wpList_store_at rfl rfl rfl (by (try simp only [Act.eval, Array.getD_eq_getD_getElem?, List.getElem?_toArray, List.getElem?_cons_succ, List.getElem?_cons_zero, Option.getD_some]) <;> exact rfl) (by exact rfl) hA (by with_reducible repeat (first | exact Sel.here | apply Sel.there)) (by kernel_rfl) rfl (by first | decide | (simp; done) | omega) ?_; intro w1 hB; clear hF hA; have hA := hB; clear hB; (try simp only [setL, List.set_cons_zero, List.set_cons_succ, List.cons_append, List.nil_append] at hA); (have hF := hA.facts); (try simp only [facts_cons, facts_nil, facts_cells, facts_old, facts_fact, facts_obj, facts_map, facts_iter, facts_row, and_true, true_and] at hF)) | ((with_reducible show wpList _ _ _ ({ dst := _, op := Op.box _ _, type := _, pos := _, after := _, guard := _ } :: _) _ _); refine wpList_box_at rfl rfl (by (try simp only [Act.eval, Array.getD_eq_getD_getElem?, List.getElem?_toArray, List.getElem?_cons_succ, List.getElem?_cons_zero, Option.getD_some]) <;> exact rfl) (by exact rfl) hA ?_; intro b1 w1 hB hb1; clear hF hA; have hA := hB; clear hB; (try simp only [setL, List.set_cons_zero, List.set_cons_succ, List.cons_append, List.nil_append] at hA); (have hF := hA.facts); (try simp only [facts_cons, facts_nil, facts_cells, facts_old, facts_fact, facts_obj, facts_map, facts_iter, facts_row, and_true, true_and] at hF)))
                try go_frame
                clear e2 e3 e4 e7 hpr
                go_loopg [59] s.length (EqRel w bA bB [.int .u64 n1, .string f1, .bool o1, .bool d1, .int .i64 l1, .int .i64 t1, .slice ax s.length acap] [.int .u64 n1, .string f1, .bool o1, .bool d1, .int .i64 l1, .int .i64 t1, .slice bx t.length bcap] (.slice ax s.length acap) (.slice bx t.length bcap) s t)
                case atStart => exact ⟨0, rfl, by simp, by simp, hA.pick (by repeat (first | exact Picks.nil | refine Picks.cons (by repeat (first | exact Sel.here | apply Sel.there)) ?_))⟩
                case round =>
                  obtain ⟨i, rfl, hik, htk, hB⟩ := hrel
                  have htk' := Lib.hid htk
                  have hnx := Lib.hid h7
                  clear hF hA htk
                  have hA := hB
                  clear hB
                  by_cases hi : i < s.length
                  · have hic : i < t.length := by omega
                    obtain ⟨ga, ca, rfl, ap1, am, al, atk, hB⟩ := hA.row_open (ax := ax) (cap := acap) (n := s.length) (xs := flatA s) (by with_reducible repeat (first | exact Sel.here | apply Sel.there)) (by omega)
                    replace hA := hB
                    clear hB
                    obtain ⟨gc, cc, rfl, cp1, cm, cl, ct, hB⟩ := hA.row_open (ax := bx) (cap := bcap) (n := t.length) (xs := flatA t) (by with_reducible repeat (first | exact Sel.here | apply Sel.there)) (by omega)
                    replace hA := hB
                    clear hB
                    have hxs : s[i]? = some s[i] := List.getElem?_eq_getElem hi
                    have hxt : t[i]? = some t[i] := List.getElem?_eq_getElem hic
                    have a0 : ca[i * 4]? = some (.int .u64 s[i].r) := cells_at AR.cells_len atk hxs 0 (by omega)
                    have a1 : ca[i * 4 + 1]? = some (.int .i64 s[i].e) := cells_at AR.cells_len atk hxs 1 (by omega)
                    have a2 : ca[i * 4 + 2]? = some (.int .u64 s[i].n) := cells_at AR.cells_len atk hxs 2 (by omega)
                    have a3 : ca[i * 4 + 3]? = some (.bool s[i].g) := cells_at AR.cells_len atk hxs 3 (by omega)
                    have hvt : (cc.drop (i * 4)).take 4 = t[i].cells := take_cells AR.cells_len ct hxt
                    have hstep := Lib.hid (show s[i] = t[i] → s.take (i + 1) = t.take (i + 1) from fun q => by
                      rw [List.take_succ_eq_append_getElem hi, List.take_succ_eq_append_getElem hic, htk'.out, q])
                    have hne := Lib.hid (show s[i] ≠ t[i] → s ≠ t from fun q e => q (by subst e; rfl))
                    obtain ⟨y, hyy⟩ : ∃ y, s[i] = y := ⟨_, rfl⟩
                    obtain ⟨z, hzz⟩ : ∃ z, t[i] = z := ⟨_, rfl⟩
                    rw [hyy] at a0 a1 a2 a3 hstep hne
                    rw [hzz] at hvt hstep hne
                    clear hxs hxt hyy hzz h7
                    obtain ⟨r1, x1, m1, g1⟩ := y
                    obtain ⟨r2, x2, m2, g2⟩ := z
                    unfold AR.cells at hvt
                    simp only at a0 a1 a2 a3 hvt
                    obtain ⟨q, hq⟩ : ∃ q, eqA ⟨r1, x1, m1, g1⟩ ⟨r2, x2, m2, g2⟩ = q := ⟨_, rfl⟩
                    have hq' := Lib.hid (hq ▸ eqA_iff (x := ⟨r1, x1, m1, g1⟩) (y := ⟨r2, x2, m2, g2⟩))
                    have hrun := fun w => (neqAR r1 x1 m1 r2 x2 m2 g1 g2 w).trans (by rw [hq])
                    clear hq
                    have hF := hA.facts
                    (try simp only [setL, List.set_cons_zero, List.set_cons_succ, List.cons_append, List.nil_append] at hA); (have hF := hA.facts); (try simp only [facts_cons, facts_nil, facts_cells, facts_old, facts_fact, facts_obj, facts_map, facts_iter, facts_row, and_true, true_and] at hF)
                    go_wp2_with (first | ((with_reducible show wpList _ _ _ ({ dst := _, op := Op.store _ _ _, type := _, pos := _, after := _, guard := _ } :: _) _ _); refine wpList_store_at rfl rfl rfl (by (try simp only [Act.eval, Array.getD_eq_getD_getElem?, List.getElem?_toArray, List.getElem?_cons_succ, List.getElem?_cons_zero, Option.getD_some]) <;> exact rfl) (by exact rfl) hA (by with_reducible repeat (first | exact Sel.here | apply Sel.there)) (by kernel_rfl) rfl (by first | decide | (simp; done) | omega) ?_; intro w1 hB; clear hF hA; have hA := hB; clear hB; (try simp only [setL, List.set_cons_zero, List.set_cons_succ, List.cons_append, List.nil_append] at hA); (have hF := hA.facts); (try simp only [facts_cons, facts_nil, facts_cells, facts_old, facts_fact, facts_obj, facts_map, facts_iter, facts_row, and_true, true_and] at hF)) | ((with_reducible show wpList _ _ _ ({ dst := _, op := Op.box _ _, type := _, pos := _, after := _, guard := _ } :: _) _ _); refine wpList_box_at rfl rfl (by (try simp only [Act.eval, Array.getD_eq_getD_getElem?, List.getElem?_toArray, List.getElem?_cons_succ, List.getElem?_cons_zero, Option.getD_some]) <;> exact rfl) (by exact rfl) hA ?_; intro b1 w1 hB hb1; clear hF hA; have hA := hB; clear hB; (try simp only [setL, List.set_cons_zero, List.set_cons_succ, List.cons_append, List.nil_append] at hA); (have hF := hA.facts); (try simp only [facts_cons, facts_nil, facts_cells, facts_old, facts_fact, facts_obj, facts_map, facts_iter, facts_row, and_true, true_and] at hF)) | ((with_reducible show wpList _ _ _ ({ dst := _, op := Op.alloc _, type := _, pos := _, after := _, guard := _ } :: _) _ _); refine wpList_alloc_at (E := 61) (z := .agg #[.int .u64 0, .int .i64 0, .int .u64 0, .bool false]) (vs := [.int .u64 0, .int .i64 0, .int .u64 0, .bool false]) rfl rfl (by kernel_rfl) rfl hA ?_; intro b1 w1 hB hb1; clear hF hA; have hA := hB; clear hB; (try simp only [setL, List.set_cons_zero, List.set_cons_succ, List.cons_append, List.nil_append] at hA); (have hF := hA.facts); (try simp only [facts_cons, facts_nil, facts_cells, facts_old, facts_fact, facts_obj, facts_map, facts_iter, facts_row, and_true, true_and] at hF)))
                    try go_frame
                    (refine wp_region_all (Cl _ _ _) (by kernel_rfl) (by kernel_rfl) (Cl.drew hA) ?_); (have hn1 := Cl.none hA); (have hn2 := Cl.none2 hA); (repeat (first | go_big_quiet_skip | (go_big_quiet_want; (first | (refine quiet_loads_at (ty := 61) (n := 4) rfl rfl (by with_reducible repeat (first | exact Sel.here | apply Sel.there)) (by kernel_rfl) (by kernel_rfl) (by first | assumption | ((try simp only [List.drop_succ_cons, List.drop_zero, List.take_succ_cons, List.take_zero]) <;> exact rfl)) (by exact rfl) ?_; go_frame; go_big_quiet_on) | (refine quiet_load_at rfl rfl (by with_reducible repeat (first | exact Sel.here | apply Sel.there)) (by kernel_rfl) (by first | assumption | exact rfl) ?_; go_frame; go_big_quiet_on) | (go_big_quiet_op; (first | go_big_quiet_on | ((apply Exists.intro); (refine ⟨fun w1 hw => ?_, ?_⟩); (focus ((have hw := Cl.out hw); (fail))); (go_big_quiet_on))))))))
                    (refine wpQuiet_nil ?_); (intro w1 hB); (clear hF hA hn1 hn2); (have hA := Cl.out hB); (clear hB); (try simp only [setL, List.set_cons_zero, List.set_cons_succ, List.cons_append, List.nil_append] at hA); (have hF := hA.facts); (try simp only [facts_cons, facts_nil, facts_cells, facts_old, facts_fact, facts_obj, facts_map, facts_iter, facts_row, and_true, true_and] at hF)
                    have hS := hA.row_shut (e := 61) (size := 4) (n := s.length) (cap := acap) (xs := flatA s) (g := ga) (c := ca) (by with_reducible repeat (first | exact Sel.here | apply Sel.there)) al ap1 am atk
                    clear hF hA
                    have hA := hS
                    clear hS
                    have hS := hA.row_shut (e := 61) (size := 4) (n := t.length) (cap := bcap) (xs := flatA t) (g := gc) (c := cc) (by with_reducible repeat (first | exact Sel.here | apply Sel.there)) cl cp1 cm ct
                    clear hA
                    have hA := hS
                    clear hS
                    have hF := hA.facts
                    cases q
                    · go_wp2_with (first | ((with_reducible show wpList _ _ _ ({ dst := _, op := Op.store _ _ _, type := _, pos := _, after := _, guard := _ } :: _) _ _); refine wpList_store_at rfl rfl rfl (by (try simp only [Act.eval, Array.getD_eq_getD_getElem?, List.getElem?_toArray, List.getElem?_cons_succ, List.getElem?_cons_zero, Option.getD_some]) <;> exact rfl) (by exact rfl) hA (by with_reducible repeat (first | exact Sel.here | apply Sel.there)) (by kernel_rfl) rfl (by first | decide | (simp; done) | omega) ?_; intro w1 hB; clear hF hA; have hA := hB; clear hB; (try simp only [setL, List.set_cons_zero, List.set_cons_succ, List.cons_append, List.nil_append] at hA); (have hF := hA.facts); (try simp only [facts_cons, facts_nil, facts_cells, facts_old, facts_fact, facts_obj, facts_map, facts_iter, facts_row, and_true, true_and] at hF)) | ((with_reducible show wpList _ _ _ ({ dst := _, op := Op.box _ _, type := _, pos := _, after := _, guard := _ } :: _) _ _); refine wpList_box_at rfl rfl (by (try simp only [Act.eval, Array.getD_eq_getD_getElem?, List.getElem?_toArray, List.getElem?_cons_succ, List.getElem?_cons_zero, Option.getD_some]) <;> exact rfl) (by exact rfl) hA ?_; intro b1 w1 hB hb1; clear hF hA; have hA := hB; clear hB; (try simp only [setL, List.set_cons_zero, List.set_cons_succ, List.cons_append, List.nil_append] at hA); (have hF := hA.facts); (try simp only [facts_cons, facts_nil, facts_cells, facts_old, facts_fact, facts_obj, facts_map, facts_iter, facts_row, and_true, true_and] at hF)))
                      go_ret
                      exact ⟨false, rfl, ⟨nofun, fun q => absurd (Prod.mk.inj (Prod.mk.inj (Prod.mk.inj (Prod.mk.inj (Prod.mk.inj (Prod.mk.inj q).2).2).2).2).2).2 (hne.out (fun h => absurd (hq'.out.2 h) nofun))⟩, hA.pick (by repeat (first | exact Picks.nil | refine Picks.cons (by repeat (first | exact Sel.here | apply Sel.there)) ?_))⟩
                    · go_wp2_with (first | ((with_reducible show wpList _ _ _ ({ dst := _, op := Op.store _ _ _, type := _, pos := _, after := _, guard := _ } :: _) _ _); refine wpList_store_at rfl rfl rfl (by (try simp only [Act.eval, Array.getD_eq_getD_getElem?, List.getElem?_toArray, List.getElem?_cons_succ, List.getElem?_cons_zero, Option.getD_some]) <;> exact rfl) (by exact rfl) hA (by with_reducible repeat (first | exact Sel.here | apply Sel.there)) (by kernel_rfl) rfl (by first | decide | (simp; done) | omega) ?_; intro w1 hB; clear hF hA; have hA := hB; clear hB; (try simp only [setL, List.set_cons_zero, List.set_cons_succ, List.cons_append, List.nil_append] at hA); (have hF := hA.facts); (try simp only [facts_cons, facts_nil, facts_cells, facts_old, facts_fact, facts_obj, facts_map, facts_iter, facts_row, and_true, true_and] at hF)) | ((with_reducible show wpList _ _ _ ({ dst := _, op := Op.box _ _, type := _, pos := _, after := _, guard := _ } :: _) _ _); refine wpList_box_at rfl rfl (by (try simp only [Act.eval, Array.getD_eq_getD_getElem?, List.getElem?_toArray, List.getElem?_cons_succ, List.getElem?_cons_zero, Option.getD_some]) <;> exact rfl) (by exact rfl) hA ?_; intro b1 w1 hB hb1; clear hF hA; have hA := hB; clear hB; (try simp only [setL, List.set_cons_zero, List.set_cons_succ, List.cons_append, List.nil_append] at hA); (have hF := hA.facts); (try simp only [facts_cons, facts_nil, facts_cells, facts_old, facts_fact, facts_obj, facts_map, facts_iter, facts_row, and_true, true_and] at hF)))
                      go_roundg (gk - 1)
                      case measure => omega
                      case rel => exact ⟨i + 1, by simp, by omega, hstep.out (hq'.out.1 (by trivial)), hA.pick (by repeat (first | exact Picks.nil | refine Picks.cons (by repeat (first | exact Sel.here | apply Sel.there)) ?_))⟩
                  · have hst := Lib.hid (show s = t from by
                      have := htk'.out
                      rwa [List.take_of_length_le (by omega), List.take_of_length_le (by omega)] at this)
                    have hF := hA.facts
                    (try simp only [setL, List.set_cons_zero, List.set_cons_succ, List.cons_append, List.nil_append] at hA); (have hF := hA.facts); (try simp only [facts_cons, facts_nil, facts_cells, facts_old, facts_fact, facts_obj, facts_map, facts_iter, facts_row, and_true, true_and] at hF)
                    go_wp2_with (first | ((with_reducible show wpList _ _ _ ({ dst := _, op := Op.store _ _ _, type := _, pos := _, after := _, guard := _ } :: _) _ _); refine wpList_store_at rfl rfl rfl (by (try simp only [Act.eval, Array.getD_eq_getD_getElem?, List.getElem?_toArray, List.getElem?_cons_succ, List.getElem?_cons_zero, Option.getD_some]) <;> exact rfl) (by exact rfl) hA (by with_reducible repeat (first | exact Sel.here | apply Sel.there)) (by kernel_rfl) rfl (by first | decide | (simp; done) | omega) ?_; intro w1 hB; clear hF hA; have hA := hB; clear hB; (try simp only [setL, List.set_cons_zero, List.set_cons_succ, List.cons_append, List.nil_append] at hA); (have hF := hA.facts); (try simp only [facts_cons, facts_nil, facts_cells, facts_old, facts_fact, facts_obj, facts_map, facts_iter, facts_row, and_true, true_and] at hF)) | ((with_reducible show wpList _ _ _ ({ dst := _, op := Op.box _ _, type := _, pos := _, after := _, guard := _ } :: _) _ _); refine wpList_box_at rfl rfl (by (try simp only [Act.eval, Array.getD_eq_getD_getElem?, List.getElem?_toArray, List.getElem?_cons_succ, List.getElem?_cons_zero, Option.getD_some]) <;> exact rfl) (by exact rfl) hA ?_; intro b1 w1 hB hb1; clear hF hA; have hA := hB; clear hB; (try simp only [setL, List.set_cons_zero, List.set_cons_succ, List.cons_append, List.nil_append] at hA); (have hF := hA.facts); (try simp only [facts_cons, facts_nil, facts_cells, facts_old, facts_fact, facts_obj, facts_map, facts_iter, facts_row, and_true, true_and] at hF)))
                    go_ret
                    exact ⟨true, rfl, ⟨fun _ => by rw [hst.out], fun _ => rfl⟩, hA.pick (by repeat (first | exact Picks.nil | refine Picks.cons (by repeat (first | exact Sel.here | apply Sel.there)) ?_))⟩
              · subst h1 h2 h3 h4 h5 h6
                have e2 : (f1.toList == f1.toList) = true := by simp
                have e3 : (o1 != o1) = false := by simp
                have e4 : (d1 != d1) = false := by simp
                have hne : ¬ (projS ⟨n1, f1, o1, d1, l1, t1, ax, acap, s⟩ = projS ⟨n1, f1, o1, d1, l1, t1, bx, bcap, t⟩) := by unfold projS; simp only [Prod.mk.injEq]; rintro ⟨r1, r2, r3, r4, r5, r6, r7⟩; exact h7 (by rw [r7])
                have hne' := Lib.hid hne
                clear hne
                have q7 : ((s.length : Int) != (t.length : Int)) = true := by simp; omega
                go_enter Try.func8, Try.ntmps8
                go_wp2_with (first | (with_reducible show wpList _ _ _ ({ dst := _, op := Op.box _ (Operand.tmp 0), type := _, pos := _, after := _, guard := _ } :: _) _ _; ((with_reducible show wpList _ _ _ ({ dst := _, op := Op.box _ _, type := _, pos := _, after := _, guard := _ } :: _) _ _); refine wpList_box_at (E := 47) rfl rfl (by (try simp only [Act.eval, Array.getD_eq_getD_getElem?, List.getElem?_toArray, List.getElem?_cons_succ, List.getElem?_cons_zero, Option.getD_some]) <;> exact rfl) (by exact rfl) hA ?_; intro bA w1 hB hbA; clear hF hA; have hA := hB; clear hB; (try simp only [setL, List.set_cons_zero, List.set_cons_succ, List.cons_append, List.nil_append] at hA); (have hF := hA.facts); (try simp only [facts_cons, facts_nil, facts_cells, facts_old, facts_fact, facts_obj, facts_map, facts_iter, facts_row, and_true, true_and] at hF))) | ((with_reducible show wpList _ _ _ ({ dst := _, op := Op.box _ _, type := _, pos := _, after := _, guard := _ } :: _) _ _); refine wpList_box_at (E := 47) rfl rfl (by (try simp only [Act.eval, Array.getD_eq_getD_getElem?, List.getElem?_toArray, List.getElem?_cons_succ, List.getElem?_cons_zero, Option.getD_some]) <;> exact rfl) (by exact rfl) hA ?_; intro bB w1 hB hbB; clear hF hA; have hA := hB; clear hB; (try simp only [setL, List.set_cons_zero, List.set_cons_succ, List.cons_append, List.nil_append] at hA); (have hF := hA.facts); (try simp only [facts_cons, facts_nil, facts_cells, facts_old, facts_fact, facts_obj, facts_map, facts_iter, facts_row, and_true, true_and] at hF)) | ((with_reducible show wpList _ _ _ ({ dst := _, op := Op.store _ _ _, type := _, pos := _, after := _, guard := _ } :: _) _ _); refine wpList_store_at rfl rfl rfl (by (try simp only [Act.eval, Array.getD_eq_getD_getElem?, List.getElem?_toArray, List.getElem?_cons_succ, List.getElem?_cons_zero, Option.getD_some]) <;> exact rfl) (by exact rfl) hA (by with_reducible repeat (first | exact Sel.here | apply Sel.there)) (by kernel_rfl) rfl (by first | decide | (simp; done) | omega) ?_; intro w1 hB; clear hF hA; have hA := hB; clear hB; (try simp only [setL, List.set_cons_zero, List.set_cons_succ, List.cons_append, List.nil_append] at hA); (have hF := hA.facts); (try simp only [facts_cons, facts_nil, facts_cells, facts_old, facts_fact, facts_obj, facts_map, facts_iter, facts_row, and_true, true_and] at hF)) | ((with_reducible show wpList _ _ _ ({ dst := _, op := Op.box _ _, type := _, pos := _, after := _, guard := _ } :: _) _ _); refine wpList_box_at rfl rfl (by (try simp only [Act.eval, Array.getD_eq_getD_getElem?, List.getElem?_toArray, List.getElem?_cons_succ, List.getElem?_cons_zero, Option.getD_some]) <;> exact rfl) (by exact rfl) hA ?_; intro b1 w1 hB hb1; clear hF hA; have hA := hB; clear hB; (try simp only [setL, List.set_cons_zero, List.set_cons_succ, List.cons_append, List.nil_append] at hA); (have hF := hA.facts); (try simp only [facts_cons, facts_nil, facts_cells, facts_old, facts_fact, facts_obj, facts_map, facts_iter, facts_row, and_true, true_and] at hF)))
                go_ret
                exact ⟨false, rfl, ⟨nofun, fun q => absurd q hne'.out⟩, hA.pick (by repeat (first | exact Picks.nil | refine Picks.cons (by repeat (first | exact Sel.here | apply Sel.there)) ?_))⟩
            · subst h1 h2 h3 h4 h5
              have e2 : (f1.toList == f1.toList) = true := by simp
              have e3 : (o1 != o1) = false := by simp
              have e4 : (d1 != d1) = false := by simp
              have hne : ¬ (projS ⟨n1, f1, o1, d1, l1, t1, ax, acap, s⟩ = projS ⟨n1, f1, o1, d1, l1, t2, bx, bcap, t⟩) := by unfold projS; simp only [Prod.mk.injEq]; rintro ⟨r1, r2, r3, r4, r5, r6, r7⟩; exact h6 r6
              have hne' := Lib.hid hne
              clear hne
              have q6 : (t1 != t2) = true := by simp [h6]
              go_enter Try.func8, Try.ntmps8
              go_wp2_with (first | (with_reducible show wpList _ _ _ ({ dst := _, op := Op.box _ (Operand.tmp 0), type := _, pos := _, after := _, guard := _ } :: _) _ _; ((with_reducible show wpList _ _ _ ({ dst := _, op := Op.box _ _, type := _, pos := _, after := _, guard := _ } :: _) _ _); refine wpList_box_at (E := 47) rfl rfl (by (try simp only [Act.eval, Array.getD_eq_getD_getElem?, List.getElem?_toArray, List.getElem?_cons_succ, List.getElem?_cons_zero, Option.getD_some]) <;> exact rfl) (by exact rfl) hA ?_; intro bA w1 hB hbA; clear hF hA; have hA := hB; clear hB; (try simp only [setL, List.set_cons_zero, List.set_cons_succ, List.cons_append, List.nil_append] at hA); (have hF := hA.facts); (try simp only [facts_cons, facts_nil, facts_cells, facts_old, facts_fact, facts_obj, facts_map, facts_iter, facts_row, and_true, true_and] at hF))) | ((with_reducible show wpList _ _ _ ({ dst := _, op := Op.box _ _, type := _, pos := _, after := _, guard := _ } :: _) _ _); refine wpList_box_at (E := 47) rfl rfl (by (try simp only [Act.eval, Array.getD_eq_getD_getElem?, List.getElem?_toArray, List.getElem?_cons_succ, List.getElem?_cons_zero, Option.getD_some]) <;> exact rfl) (by exact rfl) hA ?_; intro bB w1 hB hbB; clear hF hA; have hA := hB; clear hB; (try simp only [setL, List.set_cons_zero, List.set_cons_succ, List.cons_append, List.nil_append] at hA); (have hF := hA.facts); (try simp only [facts_cons, facts_nil, facts_cells, facts_old, facts_fact, facts_obj, facts_map, facts_iter, facts_row, and_true, true_and] at hF)) | ((with_reducible show wpList _ _ _ ({ dst := _, op := Op.store _ _ _, type := _, pos := _, after := _, guard := _ } :: _) _ _); refine wpList_store_at rfl rfl rfl (by (try simp only [Act.eval, Array.getD_eq_getD_getElem?, List.getElem?_toArray, List.getElem?_cons_succ, List.getElem?_cons_zero, Option.getD_some]) <;> exact rfl) (by exact rfl) hA (by with_reducible repeat (first | exact Sel.here | apply Sel.there)) (by kernel_rfl) rfl (by first | decide | (simp; done) | omega) ?_; intro w1 hB; clear hF hA; have hA := hB; clear hB; (try simp only [setL, List.set_cons_zero, List.set_cons_succ, List.cons_append, List.nil_append] at hA); (have hF := hA.facts); (try simp only [facts_cons, facts_nil, facts_cells, facts_old, facts_fact, facts_obj, facts_map, facts_iter, facts_row, and_true, true_and] at hF)) | ((with_reducible show wpList _ _ _ ({ dst := _, op := Op.box _ _, type := _, pos := _, after := _, guard := _ } :: _) _ _); refine wpList_box_at rfl rfl (by (try simp only [Act.eval, Array.getD_eq_getD_getElem?, List.getElem?_toArray, List.getElem?_cons_succ, List.getElem?_cons_zero, Option.getD_some]) <;> exact rfl) (by exact rfl) hA ?_; intro b1 w1 hB hb1; clear hF hA; have hA := hB; clear hB; (try simp only [setL, List.set_cons_zero, List.set_cons_succ, List.cons_append, List.nil_append] at hA); (have hF := hA.facts); (try simp only [facts_cons, facts_nil, facts_cells, facts_old, facts_fact, facts_obj, facts_map, facts_iter, facts_row, and_true, true_and] at hF)))
              go_ret
              exact ⟨false, rfl, ⟨nofun, fun q => absurd q hne'.out⟩, hA.pick (by repeat (first | exact Picks.nil | refine Picks.cons (by repeat (first | exact Sel.here | apply Sel.there)) ?_))⟩
          · subst h1 h2 h3 h4
            have e2 : (f1.toList == f1.toList) = true := by simp
            have e3 : (o1 != o1) = false := by simp
            have e4 : (d1 != d1) = false := by simp
            have hne : ¬ (projS ⟨n1, f1, o1, d1, l1, t1, ax, acap, s⟩ = projS ⟨n1, f1, o1, d1, l2, t2, bx, bcap, t⟩) := by unfold projS; simp only [Prod.mk.injEq]; rintro ⟨r1, r2, r3, r4, r5, r6, r7⟩; exact h5 r5
            have hne' := Lib.hid hne
            clear hne
            have q5 : (l1 != l2) = true := by simp [h5]
            go_enter Try.func8, Try.ntmps8
            go_wp2_with (first | (with_reducible show wpList _ _ _ ({ dst := _, op := Op.box _ (Operand.tmp 0), type := _, pos := _, after := _, guard := _ } :: _) _ _; ((with_reducible show wpList _ _ _ ({ dst := _, op := Op.box _ _, type := _, pos := _, after := _, guard := _ } :: _) _ _); refine wpList_box_at (E := 47) rfl rfl (by (try simp only [Act.eval, Array.getD_eq_getD_getElem?, List.getElem?_toArray, List.getElem?_cons_succ, List.getElem?_cons_zero, Option.getD_some]) <;> exact rfl) (by exact rfl) hA ?_; intro bA w1 hB hbA; clear hF hA; have hA := hB; clear hB; (try simp only [setL, List.set_cons_zero, List.set_cons_succ, List.cons_append, List.nil_append] at hA); (have hF := hA.facts); (try simp only [facts_cons, facts_nil, facts_cells, facts_old, facts_fact, facts_obj, facts_map, facts_iter, facts_row, and_true, true_and] at hF))) | ((with_reducible show wpList _ _ _ ({ dst := _, op := Op.box _ _, type := _, pos := _, after := _, guard := _ } :: _) _ _); refine wpList_box_at (E := 47) rfl rfl (by (try simp only [Act.eval, Array.getD_eq_getD_getElem?, List.getElem?_toArray, List.getElem?_cons_succ, List.getElem?_cons_zero, Option.getD_some]) <;> exact rfl) (by exact rfl) hA ?_; intro bB w1 hB hbB; clear hF hA; have hA := hB; clear hB; (try simp only [setL, List.set_cons_zero, List.set_cons_succ, List.cons_append, List.nil_append] at hA); (have hF := hA.facts); (try simp only [facts_cons, facts_nil, facts_cells, facts_old, facts_fact, facts_obj, facts_map, facts_iter, facts_row, and_true, true_and] at hF)) | ((with_reducible show wpList _ _ _ ({ dst := _, op := Op.store _ _ _, type := _, pos := _, after := _, guard := _ } :: _) _ _); refine wpList_store_at rfl rfl rfl (by (try simp only [Act.eval, Array.getD_eq_getD_getElem?, List.getElem?_toArray, List.getElem?_cons_succ, List.getElem?_cons_zero, Option.getD_some]) <;> exact rfl) (by exact rfl) hA (by with_reducible repeat (first | exact Sel.here | apply Sel.there)) (by kernel_rfl) rfl (by first | decide | (simp; done) | omega) ?_; intro w1 hB; clear hF hA; have hA := hB; clear hB; (try simp only [setL, List.set_cons_zero, List.set_cons_succ, List.cons_append, List.nil_append] at hA); (have hF := hA.facts); (try simp only [facts_cons, facts_nil, facts_cells, facts_old, facts_fact, facts_obj, facts_map, facts_iter, facts_row, and_true, true_and] at hF)) | ((with_reducible show wpList _ _ _ ({ dst := _, op := Op.box _ _, type := _, pos := _, after := _, guard := _ } :: _) _ _); refine wpList_box_at rfl rfl (by (try simp only [Act.eval, Array.getD_eq_getD_getElem?, List.getElem?_toArray, List.getElem?_cons_succ, List.getElem?_cons_zero, Option.getD_some]) <;> exact rfl) (by exact rfl) hA ?_; intro b1 w1 hB hb1; clear hF hA; have hA := hB; clear hB; (try simp only [setL, List.set_cons_zero, List.set_cons_succ, List.cons_append, List.nil_append] at hA); (have hF := hA.facts); (try simp only [facts_cons, facts_nil, facts_cells, facts_old, facts_fact, facts_obj, facts_map, facts_iter, facts_row, and_true, true_and] at hF)))
            go_ret
            exact ⟨false, rfl, ⟨nofun, fun q => absurd q hne'.out⟩, hA.pick (by repeat (first | exact Picks.nil | refine Picks.cons (by repeat (first | exact Sel.here | apply Sel.there)) ?_))⟩
        · subst h1 h2 h3
          have e2 : (f1.toList == f1.toList) = true := by simp
          have e3 : (o1 != o1) = false := by simp
          have hne : ¬ (projS ⟨n1, f1, o1, d1, l1, t1, ax, acap, s⟩ = projS ⟨n1, f1, o1, d2, l2, t2, bx, bcap, t⟩) := by unfold projS; simp only [Prod.mk.injEq]; rintro ⟨r1, r2, r3, r4, r5, r6, r7⟩; exact h4 r4
          have hne' := Lib.hid hne
          clear hne
          have q4 : (d1 != d2) = true := by simp [h4]
          go_enter Try.func8, Try.ntmps8
          go_wp2_with (first | (with_reducible show wpList _ _ _ ({ dst := _, op := Op.box _ (Operand.tmp 0), type := _, pos := _, after := _, guard := _ } :: _) _ _; ((with_reducible show wpList _ _ _ ({ dst := _, op := Op.box _ _, type := _, pos := _, after := _, guard := _ } :: _) _ _); refine wpList_box_at (E := 47) rfl rfl (by (try simp only [Act.eval, Array.getD_eq_getD_getElem?, List.getElem?_toArray, List.getElem?_cons_succ, List.getElem?_cons_zero, Option.getD_some]) <;> exact rfl) (by exact rfl) hA ?_; intro bA w1 hB hbA; clear hF hA; have hA := hB; clear hB; (try simp only [setL, List.set_cons_zero, List.set_cons_succ, List.cons_append, List.nil_append] at hA); (have hF := hA.facts); (try simp only [facts_cons, facts_nil, facts_cells, facts_old, facts_fact, facts_obj, facts_map, facts_iter, facts_row, and_true, true_and] at hF))) | ((with_reducible show wpList _ _ _ ({ dst := _, op := Op.box _ _, type := _, pos := _, after := _, guard := _ } :: _) _ _); refine wpList_box_at (E := 47) rfl rfl (by (try simp only [Act.eval, Array.getD_eq_getD_getElem?, List.getElem?_toArray, List.getElem?_cons_succ, List.getElem?_cons_zero, Option.getD_some]) <;> exact rfl) (by exact rfl) hA ?_; intro bB w1 hB hbB; clear hF hA; have hA := hB; clear hB; (try simp only [setL, List.set_cons_zero, List.set_cons_succ, List.cons_append, List.nil_append] at hA); (have hF := hA.facts); (try simp only [facts_cons, facts_nil, facts_cells, facts_old, facts_fact, facts_obj, facts_map, facts_iter, facts_row, and_true, true_and] at hF)) | ((with_reducible show wpList _ _ _ ({ dst := _, op := Op.store _ _ _, type := _, pos := _, after := _, guard := _ } :: _) _ _); refine wpList_store_at rfl rfl rfl (by (try simp only [Act.eval, Array.getD_eq_getD_getElem?, List.getElem?_toArray, List.getElem?_cons_succ, List.getElem?_cons_zero, Option.getD_some]) <;> exact rfl) (by exact rfl) hA (by with_reducible repeat (first | exact Sel.here | apply Sel.there)) (by kernel_rfl) rfl (by first | decide | (simp; done) | omega) ?_; intro w1 hB; clear hF hA; have hA := hB; clear hB; (try simp only [setL, List.set_cons_zero, List.set_cons_succ, List.cons_append, List.nil_append] at hA); (have hF := hA.facts); (try simp only [facts_cons, facts_nil, facts_cells, facts_old, facts_fact, facts_obj, facts_map, facts_iter, facts_row, and_true, true_and] at hF)) | ((with_reducible show wpList _ _ _ ({ dst := _, op := Op.box _ _, type := _, pos := _, after := _, guard := _ } :: _) _ _); refine wpList_box_at rfl rfl (by (try simp only [Act.eval, Array.getD_eq_getD_getElem?, List.getElem?_toArray, List.getElem?_cons_succ, List.getElem?_cons_zero, Option.getD_some]) <;> exact rfl) (by exact rfl) hA ?_; intro b1 w1 hB hb1; clear hF hA; have hA := hB; clear hB; (try simp only [setL, List.set_cons_zero, List.set_cons_succ, List.cons_append, List.nil_append] at hA); (have hF := hA.facts); (try simp only [facts_cons, facts_nil, facts_cells, facts_old, facts_fact, facts_obj, facts_map, facts_iter, facts_row, and_true, true_and] at hF)))
          go_ret
          exact ⟨false, rfl, ⟨nofun, fun q => absurd q hne'.out⟩, hA.pick (by repeat (first | exact Picks.nil | refine Picks.cons (by repeat (first | exact Sel.here | apply Sel.there)) ?_))⟩
      · subst h1 h2
        have e2 : (f1.toList == f1.toList) = true := by simp
        have hne : ¬ (projS ⟨n1, f1, o1, d1, l1, t1, ax, acap, s⟩ = projS ⟨n1, f1, o2, d2, l2, t2, bx, bcap, t⟩) := by unfold projS; simp only [Prod.mk.injEq]; rintro ⟨r1, r2, r3, r4, r5, r6, r7⟩; exact h3 r3
        have hne' := Lib.hid hne
        clear hne
        have q3 : (o1 != o2) = true := by simp [h3]
        go_enter Try.func8, Try.ntmps8
        go_wp2_with (first | (with_reducible show wpList _ _ _ ({ dst := _, op := Op.box _ (Operand.tmp 0), type := _, pos := _, after := _, guard := _ } :: _) _ _; ((with_reducible show wpList _ _ _ ({ dst := _, op := Op.box _ _, type := _, pos := _, after := _, guard := _ } :: _) _ _); refine wpList_box_at (E := 47) rfl rfl (by (try simp only [Act.eval, Array.getD_eq_getD_getElem?, List.getElem?_toArray, List.getElem?_cons_succ, List.getElem?_cons_zero, Option.getD_some]) <;> exact rfl) (by exact rfl) hA ?_; intro bA w1 hB hbA; clear hF hA; have hA := hB; clear hB; (try simp only [setL, List.set_cons_zero, List.set_cons_succ, List.cons_append, List.nil_append] at hA); (have hF := hA.facts); (try simp only [facts_cons, facts_nil, facts_cells, facts_old, facts_fact, facts_obj, facts_map, facts_iter, facts_row, and_true, true_and] at hF))) | ((with_reducible show wpList _ _ _ ({ dst := _, op := Op.box _ _, type := _, pos := _, after := _, guard := _ } :: _) _ _); refine wpList_box_at (E := 47) rfl rfl (by (try simp only [Act.eval, Array.getD_eq_getD_getElem?, List.getElem?_toArray, List.getElem?_cons_succ, List.getElem?_cons_zero, Option.getD_some]) <;> exact rfl) (by exact rfl) hA ?_; intro bB w1 hB hbB; clear hF hA; have hA := hB; clear hB; (try simp only [setL, List.set_cons_zero, List.set_cons_succ, List.cons_append, List.nil_append] at hA); (have hF := hA.facts); (try simp only [facts_cons, facts_nil, facts_cells, facts_old, facts_fact, facts_obj, facts_map, facts_iter, facts_row, and_true, true_and] at hF)) | ((with_reducible show wpList _ _ _ ({ dst := _, op := Op.store _ _ _, type := _, pos := _, after := _, guard := _ } :: _) _ _); refine wpList_store_at rfl rfl rfl (by (try simp only [Act.eval, Array.getD_eq_getD_getElem?, List.getElem?_toArray, List.getElem?_cons_succ, List.getElem?_cons_zero, Option.getD_some]) <;> exact rfl) (by exact rfl) hA (by with_reducible repeat (first | exact Sel.here | apply Sel.there)) (by kernel_rfl) rfl (by first | decide | (simp; done) | omega) ?_; intro w1 hB; clear hF hA; have hA := hB; clear hB; (try simp only [setL, List.set_cons_zero, List.set_cons_succ, List.cons_append, List.nil_append] at hA); (have hF := hA.facts); (try simp only [facts_cons, facts_nil, facts_cells, facts_old, facts_fact, facts_obj, facts_map, facts_iter, facts_row, and_true, true_and] at hF)) | ((with_reducible show wpList _ _ _ ({ dst := _, op := Op.box _ _, type := _, pos := _, after := _, guard := _ } :: _) _ _); refine wpList_box_at rfl rfl (by (try simp only [Act.eval, Array.getD_eq_getD_getElem?, List.getElem?_toArray, List.getElem?_cons_succ, List.getElem?_cons_zero, Option.getD_some]) <;> exact rfl) (by exact rfl) hA ?_; intro b1 w1 hB hb1; clear hF hA; have hA := hB; clear hB; (try simp only [setL, List.set_cons_zero, List.set_cons_succ, List.cons_append, List.nil_append] at hA); (have hF := hA.facts); (try simp only [facts_cons, facts_nil, facts_cells, facts_old, facts_fact, facts_obj, facts_map, facts_iter, facts_row, and_true, true_and] at hF)))
        go_ret
        exact ⟨false, rfl, ⟨nofun, fun q => absurd q hne'.out⟩, hA.pick (by repeat (first | exact Picks.nil | refine Picks.cons (by repeat (first | exact Sel.here | apply Sel.there)) ?_))⟩
    · subst h1
      have hne : ¬ (projS ⟨n1, f1, o1, d1, l1, t1, ax, acap, s⟩ = projS ⟨n1, f2, o2, d2, l2, t2, bx, bcap, t⟩) := by unfold projS; simp only [Prod.mk.injEq]; rintro ⟨r1, r2, r3, r4, r5, r6, r7⟩; exact h2 r2
      have hne' := Lib.hid hne
      clear hne
      have q2 : (f1.toList == f2.toList) = false := by rw [Lib.toList_data, Lib.toList_data]; simp only [beq_eq_false_iff_ne, ne_eq]; exact fun q => h2 (Go.WideShapes.bytes_inj q)
      go_enter Try.func8, Try.ntmps8
      go_wp2_with (first | (with_reducible show wpList _ _ _ ({ dst := _, op := Op.box _ (Operand.tmp 0), type := _, pos := _, after := _, guard := _ } :: _) _ _; ((with_reducible show wpList _ _ _ ({ dst := _, op := Op.box _ _, type := _, pos := _, after := _, guard := _ } :: _) _ _); refine wpList_box_at (E := 47) rfl rfl (by (try simp only [Act.eval, Array.getD_eq_getD_getElem?, List.getElem?_toArray, List.getElem?_cons_succ, List.getElem?_cons_zero, Option.getD_some]) <;> exact rfl) (by exact rfl) hA ?_; intro bA w1 hB hbA; clear hF hA; have hA := hB; clear hB; (try simp only [setL, List.set_cons_zero, List.set_cons_succ, List.cons_append, List.nil_append] at hA); (have hF := hA.facts); (try simp only [facts_cons, facts_nil, facts_cells, facts_old, facts_fact, facts_obj, facts_map, facts_iter, facts_row, and_true, true_and] at hF))) | ((with_reducible show wpList _ _ _ ({ dst := _, op := Op.box _ _, type := _, pos := _, after := _, guard := _ } :: _) _ _); refine wpList_box_at (E := 47) rfl rfl (by (try simp only [Act.eval, Array.getD_eq_getD_getElem?, List.getElem?_toArray, List.getElem?_cons_succ, List.getElem?_cons_zero, Option.getD_some]) <;> exact rfl) (by exact rfl) hA ?_; intro bB w1 hB hbB; clear hF hA; have hA := hB; clear hB; (try simp only [setL, List.set_cons_zero, List.set_cons_succ, List.cons_append, List.nil_append] at hA); (have hF := hA.facts); (try simp only [facts_cons, facts_nil, facts_cells, facts_old, facts_fact, facts_obj, facts_map, facts_iter, facts_row, and_true, true_and] at hF)) | ((with_reducible show wpList _ _ _ ({ dst := _, op := Op.store _ _ _, type := _, pos := _, after := _, guard := _ } :: _) _ _); refine wpList_store_at rfl rfl rfl (by (try simp only [Act.eval, Array.getD_eq_getD_getElem?, List.getElem?_toArray, List.getElem?_cons_succ, List.getElem?_cons_zero, Option.getD_some]) <;> exact rfl) (by exact rfl) hA (by with_reducible repeat (first | exact Sel.here | apply Sel.there)) (by kernel_rfl) rfl (by first | decide | (simp; done) | omega) ?_; intro w1 hB; clear hF hA; have hA := hB; clear hB; (try simp only [setL, List.set_cons_zero, List.set_cons_succ, List.cons_append, List.nil_append] at hA); (have hF := hA.facts); (try simp only [facts_cons, facts_nil, facts_cells, facts_old, facts_fact, facts_obj, facts_map, facts_iter, facts_row, and_true, true_and] at hF)) | ((with_reducible show wpList _ _ _ ({ dst := _, op := Op.box _ _, type := _, pos := _, after := _, guard := _ } :: _) _ _); refine wpList_box_at rfl rfl (by (try simp only [Act.eval, Array.getD_eq_getD_getElem?, List.getElem?_toArray, List.getElem?_cons_succ, List.getElem?_cons_zero, Option.getD_some]) <;> exact rfl) (by exact rfl) hA ?_; intro b1 w1 hB hb1; clear hF hA; have hA := hB; clear hB; (try simp only [setL, List.set_cons_zero, List.set_cons_succ, List.cons_append, List.nil_append] at hA); (have hF := hA.facts); (try simp only [facts_cons, facts_nil, facts_cells, facts_old, facts_fact, facts_obj, facts_map, facts_iter, facts_row, and_true, true_and] at hF)))
      go_ret
      exact ⟨false, rfl, ⟨nofun, fun q => absurd q hne'.out⟩, hA.pick (by repeat (first | exact Picks.nil | refine Picks.cons (by repeat (first | exact Sel.here | apply Sel.there)) ?_))⟩
  · have hne : ¬ (projS ⟨n1, f1, o1, d1, l1, t1, ax, acap, s⟩ = projS ⟨n2, f2, o2, d2, l2, t2, bx, bcap, t⟩) := by unfold projS; simp only [Prod.mk.injEq]; rintro ⟨r1, r2, r3, r4, r5, r6, r7⟩; exact h1 r1
    have hne' := Lib.hid hne
    clear hne
    have q1 : (n1 != n2) = true := by simp [h1]
    go_enter Try.func8, Try.ntmps8
    go_wp2_with (first | (with_reducible show wpList _ _ _ ({ dst := _, op := Op.box _ (Operand.tmp 0), type := _, pos := _, after := _, guard := _ } :: _) _ _; ((with_reducible show wpList _ _ _ ({ dst := _, op := Op.box _ _, type := _, pos := _, after := _, guard := _ } :: _) _ _); refine wpList_box_at (E := 47) rfl rfl (by (try simp only [Act.eval, Array.getD_eq_getD_getElem?, List.getElem?_toArray, List.getElem?_cons_succ, List.getElem?_cons_zero, Option.getD_some]) <;> exact rfl) (by exact rfl) hA ?_; intro bA w1 hB hbA; clear hF hA; have hA := hB; clear hB; (try simp only [setL, List.set_cons_zero, List.set_cons_succ, List.cons_append, List.nil_append] at hA); (have hF := hA.facts); (try simp only [facts_cons, facts_nil, facts_cells, facts_old, facts_fact, facts_obj, facts_map, facts_iter, facts_row, and_true, true_and] at hF))) | ((with_reducible show wpList _ _ _ ({ dst := _, op := Op.box _ _, type := _, pos := _, after := _, guard := _ } :: _) _ _); refine wpList_box_at (E := 47) rfl rfl (by (try simp only [Act.eval, Array.getD_eq_getD_getElem?, List.getElem?_toArray, List.getElem?_cons_succ, List.getElem?_cons_zero, Option.getD_some]) <;> exact rfl) (by exact rfl) hA ?_; intro bB w1 hB hbB; clear hF hA; have hA := hB; clear hB; (try simp only [setL, List.set_cons_zero, List.set_cons_succ, List.cons_append, List.nil_append] at hA); (have hF := hA.facts); (try simp only [facts_cons, facts_nil, facts_cells, facts_old, facts_fact, facts_obj, facts_map, facts_iter, facts_row, and_true, true_and] at hF)) | ((with_reducible show wpList _ _ _ ({ dst := _, op := Op.store _ _ _, type := _, pos := _, after := _, guard := _ } :: _) _ _); refine wpList_store_at rfl rfl rfl (by (try simp only [Act.eval, Array.getD_eq_getD_getElem?, List.getElem?_toArray, List.getElem?_cons_succ, List.getElem?_cons_zero, Option.getD_some]) <;> exact rfl) (by exact rfl) hA (by with_reducible repeat (first | exact Sel.here | apply Sel.there)) (by kernel_rfl) rfl (by first | decide | (simp; done) | omega) ?_; intro w1 hB; clear hF hA; have hA := hB; clear hB; (try simp only [setL, List.set_cons_zero, List.set_cons_succ, List.cons_append, List.nil_append] at hA); (have hF := hA.facts); (try simp only [facts_cons, facts_nil, facts_cells, facts_old, facts_fact, facts_obj, facts_map, facts_iter, facts_row, and_true, true_and] at hF)) | ((with_reducible show wpList _ _ _ ({ dst := _, op := Op.box _ _, type := _, pos := _, after := _, guard := _ } :: _) _ _); refine wpList_box_at rfl rfl (by (try simp only [Act.eval, Array.getD_eq_getD_getElem?, List.getElem?_toArray, List.getElem?_cons_succ, List.getElem?_cons_zero, Option.getD_some]) <;> exact rfl) (by exact rfl) hA ?_; intro b1 w1 hB hb1; clear hF hA; have hA := hB; clear hB; (try simp only [setL, List.set_cons_zero, List.set_cons_succ, List.cons_append, List.nil_append] at hA); (have hF := hA.facts); (try simp only [facts_cons, facts_nil, facts_cells, facts_old, facts_fact, facts_obj, facts_map, facts_iter, facts_row, and_true, true_and] at hF)))
    go_ret
    exact ⟨false, rfl, ⟨nofun, fun q => absurd q hne'.out⟩, hA.pick (by repeat (first | exact Picks.nil | refine Picks.cons (by repeat (first | exact Sel.here | apply Sel.there)) ?_))⟩
end Go.Proofs.Ytnkddjomanaadaa.Lease
end

section
namespace Go.Proofs.Ytnkddjomanaadaa.Lease
open Go.RowKit
open Go.Maps (Keyed)
set_option linter.unusedSimpArgs false
set_option linter.unusedVariables false

def fA : ByteArray := ⟨#[97]⟩
theorem fA_le : fA.size ≤ maxLen := by unfold maxLen; decide
theorem one_bd : (0 : Int) ≤ 1 ∧ (1 : Int) < big64 := by unfold big64; omega
/-- the session of the example, open -/
def exS (b t : Nat) : Ses := (fresh 1 fA b t).opened 5 3
theorem exS_look (b t : Nat) : look [exS b t] 1 fA = exS b t := by simp [look, find, Ses.is, exS, Ses.opened, fresh]
theorem exS_find (b t : Nat) : find ([] ++ exS b t :: []) 1 fA = some (exS b t) := by simp [find, Ses.is, exS, Ses.opened, fresh]
theorem exS_dl (b t : Nat) : (exS b t).dl = 8 := by simp [exS, Ses.opened, endI, cutI]
theorem exS_op (b t : Nat) : (exS b t).op = true := rfl
theorem exE_look (b t : Nat) : look [(exS b t).ended] 1 fA = (exS b t).ended := by simp [look, find, Ses.is, exS, Ses.opened, Ses.ended, fresh]
theorem exE_info (b t : Nat) : ((exS b t).ended).info = .agg #[.bool false, .bool true, .int .i64 0, .int .i64 0, .int .i64 0] := by simp [Ses.info, Ses.ended, exS, Ses.opened, fresh]

set_option maxRecDepth 100000 in
theorem anchor_any (w : World) : Calls Try.prog 4 #[] w fun e w' => e = .returned (.bool true) ∧ Ext w w' := by
  have hA := At.start (w0 := w) (L0 := []) trivial
  have hF := hA.facts
  have hfA : (Value.string { data := #[97] }) = .string fA := rfl
  go_enter Try.func4, Try.ntmps4
  go_wp2_with fail
  refine (new_any _).mono ?_
  rintro e w1 ⟨p, m, rfl, hT⟩
  have hB := hA.call0 hT; clear hF hA hT; have hA := hB; clear hB
  (try simp only [setL, List.set_cons_zero, List.set_cons_succ, List.cons_append, List.nil_append] at hA); (have hF := hA.facts); (try simp only [facts_cons, facts_nil, facts_cells, facts_old, facts_fact, facts_obj, facts_map, facts_iter, and_true, true_and] at hF)
  go_wp2_with (first | ((with_reducible show wpList _ _ _ ({ dst := _, op := Op.store _ _ _, type := _, pos := _, after := _, guard := _ } :: _) _ _); refine wpList_store_at rfl rfl rfl (by (try simp only [Act.eval, Array.getD_eq_getD_getElem?, List.getElem?_toArray, List.getElem?_cons_succ, List.getElem?_cons_zero, Option.getD_some]) <;> exact rfl) (by exact rfl) hA (by with_reducible repeat (first | exact Sel.here | apply Sel.there)) (by kernel_rfl) rfl (by first | decide | (simp; done) | omega) ?_; intro w1 hB; clear hF hA; have hA := hB; clear hB; (try simp only [setL, List.set_cons_zero, List.set_cons_succ, List.cons_append, List.nil_append] at hA); (have hF := hA.facts); (try simp only [facts_cons, facts_nil, facts_cells, facts_old, facts_fact, facts_obj, facts_map, facts_iter, and_true, true_and] at hF)) | ((with_reducible show wpList _ _ _ ({ dst := _, op := Op.box _ _, type := _, pos := _, after := _, guard := _ } :: _) _ _); refine wpList_box_at rfl rfl (by (try simp only [Act.eval, Array.getD_eq_getD_getElem?, List.getElem?_toArray, List.getElem?_cons_succ, List.getElem?_cons_zero, Option.getD_some]) <;> exact rfl) (by exact rfl) hA ?_; intro b1 w1 hB hb1; clear hF hA; have hA := hB; clear hB; (try simp only [setL, List.set_cons_zero, List.set_cons_succ, List.cons_append, List.nil_append] at hA); (have hF := hA.facts); (try simp only [facts_cons, facts_nil, facts_cells, facts_old, facts_fact, facts_obj, facts_map, facts_iter, and_true, true_and] at hF)) | ((with_reducible show wpList _ _ _ ({ dst := _, op := Op.alloc _, type := _, pos := _, after := _, guard := _ } :: _) _ _); refine wpList_alloc_at (E := 31) (z := .agg #[.int .u64 0, .string .empty]) (vs := [.int .u64 0, .string .empty]) rfl rfl (by kernel_rfl) rfl hA ?_; intro b1 w1 hB hb1; clear hF hA; have hA := hB; clear hB; (try simp only [setL, List.set_cons_zero, List.set_cons_succ, List.cons_append, List.nil_append] at hA); (have hF := hA.facts); (try simp only [facts_cons, facts_nil, facts_cells, facts_old, facts_fact, facts_obj, facts_map, facts_iter, and_true, true_and] at hF)))
  refine (open_new (ss := []) (hA.sep1 (by with_reducible repeat (first | exact Sel.here | apply Sel.there))) one_bd.1 one_bd.2 fA_le (by simp) 5 3 rfl (by decide)).mono ?_
  rintro e w1 ⟨b, t, rfl, hT⟩
  have hB := hA.call1 (by with_reducible repeat (first | exact Sel.here | apply Sel.there)) hT; clear hF hA hT; have hA := hB; clear hB
  (try simp only [setL, List.set_cons_zero, List.set_cons_succ, List.cons_append, List.nil_append] at hA); (have hF := hA.facts); (try simp only [facts_cons, facts_nil, facts_cells, facts_old, facts_fact, facts_obj, facts_map, facts_iter, and_true, true_and] at hF)
  go_wp2_with (first | ((with_reducible show wpList _ _ _ ({ dst := _, op := Op.store _ _ _, type := _, pos := _, after := _, guard := _ } :: _) _ _); refine wpList_store_at rfl rfl rfl (by (try simp only [Act.eval, Array.getD_eq_getD_getElem?, List.getElem?_toArray, List.getElem?_cons_succ, List.getElem?_cons_zero, Option.getD_some]) <;> exact rfl) (by exact rfl) hA (by with_reducible repeat (first | exact Sel.here | apply Sel.there)) (by kernel_rfl) rfl (by first | decide | (simp; done) | omega) ?_; intro w1 hB; clear hF hA; have hA := hB; clear hB; (try simp only [setL, List.set_cons_zero, List.set_cons_succ, List.cons_append, List.nil_append] at hA); (have hF := hA.facts); (try simp only [facts_cons, facts_nil, facts_cells, facts_old, facts_fact, facts_obj, facts_map, facts_iter, and_true, true_and] at hF)) | ((with_reducible show wpList _ _ _ ({ dst := _, op := Op.box _ _, type := _, pos := _, after := _, guard := _ } :: _) _ _); refine wpList_box_at rfl rfl (by (try simp only [Act.eval, Array.getD_eq_getD_getElem?, List.getElem?_toArray, List.getElem?_cons_succ, List.getElem?_cons_zero, Option.getD_some]) <;> exact rfl) (by exact rfl) hA ?_; intro b1 w1 hB hb1; clear hF hA; have hA := hB; clear hB; (try simp only [setL, List.set_cons_zero, List.set_cons_succ, List.cons_append, List.nil_append] at hA); (have hF := hA.facts); (try simp only [facts_cons, facts_nil, facts_cells, facts_old, facts_fact, facts_obj, facts_map, facts_iter, and_true, true_and] at hF)) | ((with_reducible show wpList _ _ _ ({ dst := _, op := Op.alloc _, type := _, pos := _, after := _, guard := _ } :: _) _ _); refine wpList_alloc_at (E := 31) (z := .agg #[.int .u64 0, .string .empty]) (vs := [.int .u64 0, .string .empty]) rfl rfl (by kernel_rfl) rfl hA ?_; intro b1 w1 hB hb1; clear hF hA; have hA := hB; clear hB; (try simp only [setL, List.set_cons_zero, List.set_cons_succ, List.cons_append, List.nil_append] at hA); (have hF := hA.facts); (try simp only [facts_cons, facts_nil, facts_cells, facts_old, facts_fact, facts_obj, facts_map, facts_iter, and_true, true_and] at hF)))
  refine (expire_early (ss := [exS b t]) (hA.sep1 (by repeat (first | exact Sel.here | apply Sel.there))) one_bd.1 one_bd.2 fA_le 7 (by rw [exS_look]; rfl) (by rw [exS_look, exS_dl]; omega)).mono ?_
  rintro e w1 ⟨rfl, hT⟩
  have hB := hA.call1 (by repeat (first | exact Sel.here | apply Sel.there)) hT; clear hF hA hT; have hA := hB; clear hB
  (try simp only [setL, List.set_cons_zero, List.set_cons_succ, List.cons_append, List.nil_append] at hA); (have hF := hA.facts); (try simp only [facts_cons, facts_nil, facts_cells, facts_old, facts_fact, facts_obj, facts_map, facts_iter, and_true, true_and] at hF)
  go_wp2_with (first | ((with_reducible show wpList _ _ _ ({ dst := _, op := Op.store _ _ _, type := _, pos := _, after := _, guard := _ } :: _) _ _); refine wpList_store_at rfl rfl rfl (by (try simp only [Act.eval, Array.getD_eq_getD_getElem?, List.getElem?_toArray, List.getElem?_cons_succ, List.getElem?_cons_zero, Option.getD_some]) <;> exact rfl) (by exact rfl) hA (by with_reducible repeat (first | exact Sel.here | apply Sel.there)) (by kernel_rfl) rfl (by first | decide | (simp; done) | omega) ?_; intro w1 hB; clear hF hA; have hA := hB; clear hB; (try simp only [setL, List.set_cons_zero, List.set_cons_succ, List.cons_append, List.nil_append] at hA); (have hF := hA.facts); (try simp only [facts_cons, facts_nil, facts_cells, facts_old, facts_fact, facts_obj, facts_map, facts_iter, and_true, true_and] at hF)) | ((with_reducible show wpList _ _ _ ({ dst := _, op := Op.box _ _, type := _, pos := _, after := _, guard := _ } :: _) _ _); refine wpList_box_at rfl rfl (by (try simp only [Act.eval, Array.getD_eq_getD_getElem?, List.getElem?_toArray, List.getElem?_cons_succ, List.getElem?_cons_zero, Option.getD_some]) <;> exact rfl) (by exact rfl) hA ?_; intro b1 w1 hB hb1; clear hF hA; have hA := hB; clear hB; (try simp only [setL, List.set_cons_zero, List.set_cons_succ, List.cons_append, List.nil_append] at hA); (have hF := hA.facts); (try simp only [facts_cons, facts_nil, facts_cells, facts_old, facts_fact, facts_obj, facts_map, facts_iter, and_true, true_and] at hF)) | ((with_reducible show wpList _ _ _ ({ dst := _, op := Op.alloc _, type := _, pos := _, after := _, guard := _ } :: _) _ _); refine wpList_alloc_at (E := 31) (z := .agg #[.int .u64 0, .string .empty]) (vs := [.int .u64 0, .string .empty]) rfl rfl (by kernel_rfl) rfl hA ?_; intro b1 w1 hB hb1; clear hF hA; have hA := hB; clear hB; (try simp only [setL, List.set_cons_zero, List.set_cons_succ, List.cons_append, List.nil_append] at hA); (have hF := hA.facts); (try simp only [facts_cons, facts_nil, facts_cells, facts_old, facts_fact, facts_obj, facts_map, facts_iter, and_true, true_and] at hF)))
  refine (expire_yes (l1 := []) (l2 := []) (hA.sep1 (by repeat (first | exact Sel.here | apply Sel.there))) one_bd.1 one_bd.2 fA_le 8 (exS_find b t) (exS_op b t) (by rw [exS_dl]; omega)).mono ?_
  rintro e w1 ⟨rfl, hT⟩
  have hB := hA.call1 (by repeat (first | exact Sel.here | apply Sel.there)) hT; clear hF hA hT; have hA := hB; clear hB
  (try simp only [setL, List.set_cons_zero, List.set_cons_succ, List.cons_append, List.nil_append] at hA); (have hF := hA.facts); (try simp only [facts_cons, facts_nil, facts_cells, facts_old, facts_fact, facts_obj, facts_map, facts_iter, and_true, true_and] at hF)
  go_wp2_with (first | ((with_reducible show wpList _ _ _ ({ dst := _, op := Op.store _ _ _, type := _, pos := _, after := _, guard := _ } :: _) _ _); refine wpList_store_at rfl rfl rfl (by (try simp only [Act.eval, Array.getD_eq_getD_getElem?, List.getElem?_toArray, List.getElem?_cons_succ, List.getElem?_cons_zero, Option.getD_some]) <;> exact rfl) (by exact rfl) hA (by with_reducible repeat (first | exact Sel.here | apply Sel.there)) (by kernel_rfl) rfl (by first | decide | (simp; done) | omega) ?_; intro w1 hB; clear hF hA; have hA := hB; clear hB; (try simp only [setL, List.set_cons_zero, List.set_cons_succ, List.cons_append, List.nil_append] at hA); (have hF := hA.facts); (try simp only [facts_cons, facts_nil, facts_cells, facts_old, facts_fact, facts_obj, facts_map, facts_iter, and_true, true_and] at hF)) | ((with_reducible show wpList _ _ _ ({ dst := _, op := Op.box _ _, type := _, pos := _, after := _, guard := _ } :: _) _ _); refine wpList_box_at rfl rfl (by (try simp only [Act.eval, Array.getD_eq_getD_getElem?, List.getElem?_toArray, List.getElem?_cons_succ, List.getElem?_cons_zero, Option.getD_some]) <;> exact rfl) (by exact rfl) hA ?_; intro b1 w1 hB hb1; clear hF hA; have hA := hB; clear hB; (try simp only [setL, List.set_cons_zero, List.set_cons_succ, List.cons_append, List.nil_append] at hA); (have hF := hA.facts); (try simp only [facts_cons, facts_nil, facts_cells, facts_old, facts_fact, facts_obj, facts_map, facts_iter, and_true, true_and] at hF)) | ((with_reducible show wpList _ _ _ ({ dst := _, op := Op.alloc _, type := _, pos := _, after := _, guard := _ } :: _) _ _); refine wpList_alloc_at (E := 31) (z := .agg #[.int .u64 0, .string .empty]) (vs := [.int .u64 0, .string .empty]) rfl rfl (by kernel_rfl) rfl hA ?_; intro b1 w1 hB hb1; clear hF hA; have hA := hB; clear hB; (try simp only [setL, List.set_cons_zero, List.set_cons_succ, List.cons_append, List.nil_append] at hA); (have hF := hA.facts); (try simp only [facts_cons, facts_nil, facts_cells, facts_old, facts_fact, facts_obj, facts_map, facts_iter, and_true, true_and] at hF)))
  refine (info_any (hA.sep1 (by with_reducible repeat (first | exact Sel.here | apply Sel.there))) one_bd.1 one_bd.2 fA_le).mono ?_
  rw [exE_look, exE_info]
  rintro e w1 ⟨rfl, hT⟩; have hB := hA.call1 (by with_reducible repeat (first | exact Sel.here | apply Sel.there)) hT; clear hF hA hT; have hA := hB; clear hB; (try simp only [setL, List.set_cons_zero, List.set_cons_succ, List.cons_append, List.nil_append] at hA); (have hF := hA.facts); (try simp only [facts_cons, facts_nil, facts_cells, facts_old, facts_fact, facts_obj, facts_map, facts_iter, and_true, true_and] at hF)
  go_wp2_with fail
  go_ret
  exact ⟨rfl, hA.toExt⟩
end Go.Proofs.Ytnkddjomanaadaa.Lease
end

section
namespace Go.Proofs.Ytnkddjomanaadaa.Lease
open Go.RowKit
open _root_.Go.Proofs.Ytnkddjomanaadaa.Wire
set_option linter.unusedSimpArgs false
set_option linter.unusedVariables false

/-! ### How long the bytes are -/
theorem encA_len {a : AR} (h : okR a) : (encA a).length ≤ 29 := by
  obtain ⟨⟨r0, r1⟩, _, n0, n1⟩ := h
  have q1 := short_len 9 a.r.toNat (by unfold big64 at r1; omega)
  have q2 := short_len 9 (wrN a.e) (by unfold wrN; omega)
  have q3 : (fixL a.n.toNat).length = 8 := by simp [fixL]
  have q4 : (bB a.g).length = 1 := rfl
  unfold encA
  simp only [List.length_append]
  omega
theorem flat_le {α : Type} {f : α → List Int} {P : α → Prop} {k : Nat} (hf : ∀ a, P a → (f a).length ≤ k) : ∀ l : List α, (∀ a ∈ l, P a) → (l.flatMap f).length ≤ l.length * k
  | [], _ => by simp
  | x :: l, h => by
    have q1 := hf x (h x (by simp))
    have q2 := flat_le hf l (fun a ha => h a (by simp [ha]))
    rw [List.flatMap_cons, List.length_append, List.length_cons, Nat.add_mul]
    omega
structure okZ (s : SR) : Prop where
  ok : okS s
  fb : s.foot.size ≤ 2000000
  db : s.dl ≤ 2199023255552
  tb : s.ttl ≤ 2199023255552
  tl : s.told.length ≤ 256
theorem encS_len {s : SR} (h : okZ s) : (encS s).length ≤ 2100000 := by
  have q1 : (fixL s.num.toNat).length = 8 := by simp [fixL]
  have q2 := textB_len s.foot (by have := h.fb; omega)
  have q3 : (bB s.op).length = 1 := rfl
  have q4 : (bB s.dead).length = 1 := rfl
  have q5 := short_len 9 s.dl.toNat (by have := h.db; omega)
  have q6 := short_len 9 s.ttl.toNat (by have := h.tb; omega)
  have q7 := short_len 9 s.told.length (by have := h.tl; omega)
  have q8 := flat_le (f := encA) (P := okR) (k := 29) (fun a ha => encA_len ha) s.told h.ok.told
  have q9 := h.fb
  have q10 := h.tl
  unfold encS
  simp only [List.length_append]
  omega
theorem encL_len {L : List SR} (h : ∀ a ∈ L, okZ a) (hl : L.length ≤ 100000) : (encL L).length ≤ 140000000000000 := by
  have q1 := short_len 9 L.length (by omega)
  have q2 := flat_le (f := encS) (P := okZ) (k := 2100000) (fun a ha => encS_len ha) L h
  unfold encL
  rw [List.length_append]
  omega

/-! ### A book's keys -/
set_option maxRecDepth 100000 in
theorem keyS_inv {n : Int} {f : ByteArray} {l : Lit} (h : keyOf Try.prog 31 (keyV n f) = some l) : 0 ≤ n ∧ n < big64 ∧ f.size ≤ maxLen := by
  unfold keyOf at h
  rw [Try.underlying31] at h
  simp only [keyTypeS, keyV, formedS, Bool.and_self, if_true] at h
  rw [show (Value.agg #[.int .u64 n, .string f]).cells.toList = [.int .u64 n, .string f] from rfl] at h
  obtain ⟨d, hd⟩ : ∃ d, Try.prog.types.size = d + 1 := Nat.exists_eq_succ_of_ne_zero (Nat.ne_of_gt (Nat.lt_of_le_of_lt (Nat.zero_le _) rowS))
  rw [hd] at h
  by_cases hw : (Lit.int .u64 n).wf = true
  · by_cases hf : f.size ≤ maxLen
    · refine ⟨?_, ?_, hf⟩ <;> simp [Lit.wf, IntKind.min, IntKind.max, IntKind.signed, IntKind.bits] at hw <;> first | omega | (unfold big64; omega)
    · simp [Program.keyLits, Try.underlying31, Try.underlying29, Try.underlying9, cellsS, cellsU, cellsStr, hw, hf] at h
  · simp [Program.keyLits, Try.underlying31, Try.underlying29, Try.underlying9, cellsS, cellsU, cellsStr, hw] at h
theorem book_keys {w : World} {p m : Nat} {ss : List Ses} (h : Sep [BookP p m ss] w) {s : Ses} (hs : s ∈ ss) : 0 ≤ s.num ∧ s.num < big64 ∧ s.foot.size ≤ maxLen := by
  have hA := (At.start h).to (eqv0 p m ss [])
  have hM : MapAt Try.prog 31 w m (ents ss) := hA.get (A := mapC m (ents ss)) (by with_reducible repeat (first | exact Sel.here | apply Sel.there))
  obtain ⟨_, _, _, _, _, _, hk, _⟩ := hM
  obtain ⟨l, hl⟩ := hk (ent s) (List.mem_map.2 ⟨s, hs, rfl⟩)
  exact keyS_inv hl
theorem Rel.bound {w : World} {p m : Nat} {ss : List Ses} {L : List SR} (h : Rel ss L) (hB : Sep [BookP p m ss] w) {x : SR} (hx : x ∈ L) : 0 ≤ x.num ∧ x.num < big64 ∧ x.foot.size ≤ maxLen := by
  obtain ⟨s, hs, e⟩ := List.mem_map.1 (h.keys.mem_iff.2 (List.mem_map.2 ⟨x, hx, rfl⟩))
  have e1 : s.num = x.num := congrArg Prod.fst e
  have e2 : s.foot = x.foot := congrArg Prod.snd e
  rw [← e1, ← e2]
  exact book_keys hB hs
theorem Inv.okZ {w : World} {p m : Nat} {ss : List Ses} {L : List SR} {PL : List (Value × List AR)} (h : Inv ss L PL) (hB : Sep [BookP p m ss] w) : ∀ a ∈ L, okZ a := fun a ha => by
  have hm := h.rel.mine ha
  have hb := h.rel.bound hB ha
  exact ⟨⟨hb.1, hb.2.1, hm.db.1, hm.tb.1, fun x hx => ⟨hm.told.bd x hx, hm.told.an x hx⟩⟩, h.fb a ha, hm.db.2, hm.tb.2, hm.told.len⟩

/-! ### Two pools, and the law's comparison -/
noncomputable def eqS (a b : SR) : Bool := @decide (projS a = projS b) (Classical.propDecidable _)
theorem eqS_iff (a b : SR) : eqS a b = true ↔ projS a = projS b := by
  unfold eqS
  exact @decide_eq_true_iff _ (Classical.propDecidable _)
def twoP (PL1 PL2 : List (Value × List AR)) : Part := Part.all [poolP PL1, poolP PL2]
theorem two_eqv (PL1 PL2 : List (Value × List AR)) (F : List Part) : Eqv (twoP PL1 PL2 :: F) (poolP PL1 :: poolP PL2 :: F) := Eqv.all [poolP PL1, poolP PL2] F
theorem equal_q {w : World} {PL1 PL2 : List (Value × List AR)} {a b : SR} (h : Sep [twoP PL1 PL2] w) (ha : (a.tv, a.told) ∈ PL1) (hb : (b.tv, b.told) ∈ PL2) (hl : a.told.length ≤ 256) :
    Calls Try.prog 8 #[.agg a.cells.toArray, .agg b.cells.toArray] w fun e w' => e = .returned (.bool (eqS a b)) ∧ At [twoP PL1 PL2] w [twoP PL1 PL2] w' := by
  obtain ⟨p1, p2, rfl⟩ := List.append_of_mem ha
  obtain ⟨q1, q2, rfl⟩ := List.append_of_mem hb
  refine At.through (K := [rowA a.tv a.told, rowA b.tv b.told]) (F := [poolP (q1 ++ q2), poolP (p1 ++ p2)]) (At.start h) ?_ fun h => (equal_any h hl).mono ?_
  · exact (two_eqv _ _ []).trans ((eqvP p1 p2 (a.tv, a.told) _).trans ((Eqv.perm (List.Perm.cons _ (List.Perm.swap _ _ _))).trans ((eqvP q1 q2 (b.tv, b.told) [poolP (p1 ++ p2)]).cons _)))
  · rintro e w' ⟨c, rfl, hc, hT⟩
    refine ⟨?_, hT⟩
    rw [Bool.eq_iff_iff.2 (hc.trans (eqS_iff a b).symm)]
theorem take_step {L M : List SR} {i : Nat} (h1 : i < L.length) (h2 : i < M.length) (ht : (L.take i).map projS = (M.take i).map projS) : (L.take (i + 1)).map projS = (M.take (i + 1)).map projS ↔ projS L[i] = projS M[i] := by
  rw [List.take_succ_eq_append_getElem h1, List.take_succ_eq_append_getElem h2, List.map_append, List.map_append, ht]
  simp
theorem take_back {L M : List SR} {i : Nat} (h : (L.take (i + 1)).map projS = (M.take (i + 1)).map projS) : (L.take i).map projS = (M.take i).map projS := by
  have := congrArg (List.take i) h
  rw [← List.map_take, ← List.map_take, List.take_take, List.take_take, Nat.min_eq_left (by omega)] at this
  exact this
theorem nil_pool {L0 L : List Part} {w0 w : World} (h : At L0 w0 L w) : At L0 w0 (poolP [((.slice none 0 0 : Value), ([] : List AR))] :: L) w :=
  (row_nilA h).to (Eqv.all [rowA (.slice none 0 0) []] L).symm
theorem nil_rowR {L0 L : List Part} {w0 w : World} (h : At L0 w0 L w) : At L0 w0 (rowR (.slice none 0 0) [] :: L) w := h.row_nil 47 7
theorem Inv.start : Inv [] [] [((.slice none 0 0 : Value), ([] : List AR))] := ⟨Rel.nil, nofun, by simp, nofun⟩

/-- the ops that come in -/
def OpsAt (W : World) (v : Value) (os : List (Int × OpR)) : Prop :=
  ∃ sa sc, v = .slice sa os.length sc ∧ ∀ j (hj : j < os.length), ∃ b off, sa = some ⟨b, off, none⟩ ∧
    (W.cell? ⟨b, off + j * 10, none⟩ = some (.int .i64 os[j].1) ∧ W.cell? ⟨b, off + j * 10 + 1, none⟩ = some (.int .i64 os[j].2.a) ∧ W.cell? ⟨b, off + j * 10 + 2, none⟩ = some (.int .i64 os[j].2.b) ∧ W.cell? ⟨b, off + j * 10 + 3, none⟩ = some (.int .i64 os[j].2.many) ∧ W.cell? ⟨b, off + j * 10 + 4, none⟩ = some (.int .u64 os[j].2.num) ∧ W.cell? ⟨b, off + j * 10 + 5, none⟩ = some (.string os[j].2.foot) ∧ W.cell? ⟨b, off + j * 10 + 6, none⟩ = some (.int .u64 os[j].2.req) ∧ W.cell? ⟨b, off + j * 10 + 7, none⟩ = some (.int .i64 os[j].2.ans.e) ∧ W.cell? ⟨b, off + j * 10 + 8, none⟩ = some (.int .u64 os[j].2.ans.n) ∧ W.cell? ⟨b, off + j * 10 + 9, none⟩ = some (.bool os[j].2.ans.g)) ∧ os[j].2.Ok
theorem old_cell {W w : World} (h : (Part.old W).holds w) {b off : Nat} {u : Value} (hc : W.cell? ⟨b, off, none⟩ = some u) : w.cell? ⟨b, off, none⟩ = some u := by
  have hb : b < W.heap.size := by
    rcases Nat.lt_or_ge b W.heap.size with q | q
    · exact q
    · simp [World.cell?, Array.getElem?_eq_none q] at hc
  have := h b hb
  rw [← hc]
  simp [World.cell?, this]
theorem below_old {w w' : World} {L F : List Part} (h : At [Part.old w] w L w') (s : Sel (Part.old w) L F) : Below w.heap.size w w' := by
  have ho : (Part.old w).holds w' := h.get s
  exact ⟨h.exc.os, h.exc.tape, h.exc.output, h.exc.size, fun b hb => ho b hb⟩
end Go.Proofs.Ytnkddjomanaadaa.Lease
end

section
namespace Go.Proofs.Ytnkddjomanaadaa.Lease
open Go.RowKit
open _root_.Go.Proofs.Ytnkddjomanaadaa.Wire
set_option linter.unusedSimpArgs false
set_option linter.unusedVariables false
attribute [-go_sem] run_eql_struct run_neq_struct run_eqGuard_agg

def LbOne (w : World) (p1 m1 p2 m2 bD bE n : Nat) (k : Nat) (u : Value) (wr : World) : Prop :=
  ∃ (i : Nat) (ss : List Ses) (v : Value) (L : List SR) (PL : List (Value × List AR)), u = .int .i64 i ∧ i + k = n ∧ At [Part.old w] w [Part.cells bD [v] 28, BookP p1 m1 ss, rowR v L, poolP PL, Part.cells bE [.slice none 0 0] 28, BookP p2 m2 [], Part.old w] wr ∧ Inv ss L PL ∧ L.length ≤ 300 * i
def LbTwo (w : World) (p1 m1 p2 m2 bD bE n : Nat) (ss1 : List Ses) (v1 : Value) (L1 : List SR) (PL1 : List (Value × List AR)) (k : Nat) (u : Value) (wr : World) : Prop :=
  ∃ (i : Nat) (ss : List Ses) (v : Value) (L : List SR) (PL : List (Value × List AR)), u = .int .i64 i ∧ i + k = n ∧ At [Part.old w] w [Part.cells bE [v] 28, BookP p2 m2 ss, rowR v L, poolP PL, Part.cells bD [v1] 28, BookP p1 m1 ss1, rowR v1 L1, poolP PL1, Part.old w] wr ∧ Inv ss L PL ∧ L.length ≤ 300 * i
def LbCmp (w : World) (bD bE bO bQ : Nat) (v1 : Value) (L1 : List SR) (PL1 : List (Value × List AR)) (v2 : Value) (L2 : List SR) (PL2 : List (Value × List AR)) (u1 u2 : Value) (l1 l2 : List Int) (k : Nat) (x15 x77 : Value) (wr : World) : Prop :=
  ∃ (i : Nat) (q : Bool), x77 = .int .i64 i ∧ x15 = .bool q ∧ i + k = L1.length ∧ (q = true ↔ L1.length = L2.length ∧ (L1.take i).map projS = (L2.take i).map projS) ∧ At [Part.old w] w [twoP PL1 PL2, rowR v1 L1, rowR v2 L2, Part.cells bD [v1] 28, Part.cells bE [v2] 28, outC bO u1, outC bQ u2, rowY u1 l1, rowY u2 l2, Part.old w] wr
set_option maxRecDepth 100000 in
set_option maxHeartbeats 8000000 in
theorem bytes_law {w : World} {va vb : Value} {os ot : List (Int × OpR)} (h : OpsAt w va os) (ht : OpsAt w vb ot) (hlen : os.length ≤ 9223372036854775807) (hlet : ot.length ≤ 9223372036854775807) :
    Calls Try.prog 3 #[va, vb] w fun e w' => e = .returned (.bool true) ∧ Below w.heap.size w w' := by
  obtain ⟨sa, sc, rfl, hops0⟩ := h
  obtain ⟨ta, tc, rfl, hopt0⟩ := ht
  have hops := Lib.hid hops0
  have hopt := Lib.hid hopt0
  clear hops0 hopt0
  have hA : At [Part.old w] w [Part.old w] w := At.start ⟨fun _ _ => rfl, trivial, nofun⟩
  have hF := hA.facts
  go_enter Try.func3, Try.ntmps3
  go_wp2_with (first | ((with_reducible show wpList _ _ _ ({ dst := _, op := Op.store _ _ _, type := _, pos := _, after := _, guard := _ } :: _) _ _); refine wpList_store_at rfl rfl rfl (by (try simp only [Act.eval, Array.getD_eq_getD_getElem?, List.getElem?_toArray, List.getElem?_cons_succ, List.getElem?_cons_zero, Option.getD_some]) <;> exact rfl) (by exact rfl) hA (by with_reducible repeat (first | exact Sel.here | apply Sel.there)) (by kernel_rfl) rfl (by first | decide | (simp; done) | omega) ?_; intro w1 hB; clear hF hA; have hA := hB; clear hB; (try simp only [setL, List.set_cons_zero, List.set_cons_succ, List.cons_append, List.nil_append] at hA); (have hF := hA.facts); (try simp only [facts_cons, facts_nil, facts_cells, facts_old, facts_fact, facts_obj, facts_map, facts_iter, facts_row, and_true, true_and] at hF)) | ((with_reducible show wpList _ _ _ ({ dst := _, op := Op.box _ _, type := _, pos := _, after := _, guard := _ } :: _) _ _); refine wpList_box_at rfl rfl (by (try simp only [Act.eval, Array.getD_eq_getD_getElem?, List.getElem?_toArray, List.getElem?_cons_succ, List.getElem?_cons_zero, Option.getD_some]) <;> exact rfl) (by exact rfl) hA ?_; intro b1 w1 hB hb1; clear hF hA; have hA := hB; clear hB; (try simp only [setL, List.set_cons_zero, List.set_cons_succ, List.cons_append, List.nil_append] at hA); (have hF := hA.facts); (try simp only [facts_cons, facts_nil, facts_cells, facts_old, facts_fact, facts_obj, facts_map, facts_iter, facts_row, and_true, true_and] at hF)))
  refine (anchor_any _).mono ?_
  rintro e w1 ⟨rfl, hT⟩
  have hB := hA.ext hT
  clear hF hA hT
  have hA := hB
  clear hB
  (try simp only [setL, List.set_cons_zero, List.set_cons_succ, List.cons_append, List.nil_append] at hA); (have hF := hA.facts); (try simp only [facts_cons, facts_nil, facts_cells, facts_old, facts_fact, facts_obj, facts_map, facts_iter, facts_row, and_true, true_and] at hF)
  by_cases h40 : 30 < os.length ∨ 30 < ot.length
  · have hret : ∀ w', At [Part.old w] w [Part.old w] w' → Below w.heap.size w w' := fun w' h => below_old h (by with_reducible repeat (first | exact Sel.here | apply Sel.there))
    rcases Nat.lt_or_ge 30 os.length with q1 | q1
    · go_wp2_with (first | ((with_reducible show wpList _ _ _ ({ dst := _, op := Op.store _ _ _, type := _, pos := _, after := _, guard := _ } :: _) _ _); refine wpList_store_at rfl rfl rfl (by (try simp only [Act.eval, Array.getD_eq_getD_getElem?, List.getElem?_toArray, List.getElem?_cons_succ, List.getElem?_cons_zero, Option.getD_some]) <;> exact rfl) (by exact rfl) hA (by with_reducible repeat (first | exact Sel.here | apply Sel.there)) (by kernel_rfl) rfl (by first | decide | (simp; done) | omega) ?_; intro w1 hB; clear hF hA; have hA := hB; clear hB; (try simp only [setL, List.set_cons_zero, List.set_cons_succ, List.cons_append, List.nil_append] at hA); (have hF := hA.facts); (try simp only [facts_cons, facts_nil, facts_cells, facts_old, facts_fact, facts_obj, facts_map, facts_iter, facts_row, and_true, true_and] at hF)) | ((with_reducible show wpList _ _ _ ({ dst := _, op := Op.box _ _, type := _, pos := _, after := _, guard := _ } :: _) _ _); refine wpList_box_at rfl rfl (by (try simp only [Act.eval, Array.getD_eq_getD_getElem?, List.getElem?_toArray, List.getElem?_cons_succ, List.getElem?_cons_zero, Option.getD_some]) <;> exact rfl) (by exact rfl) hA ?_; intro b1 w1 hB hb1; clear hF hA; have hA := hB; clear hB; (try simp only [setL, List.set_cons_zero, List.set_cons_succ, List.cons_append, List.nil_append] at hA); (have hF := hA.facts); (try simp only [facts_cons, facts_nil, facts_cells, facts_old, facts_fact, facts_obj, facts_map, facts_iter, facts_row, and_true, true_and] at hF)))
      go_ret
      exact ⟨rfl, below_old hA (by with_reducible repeat (first | exact Sel.here | apply Sel.there))⟩
    · have q2 : 30 < ot.length := by omega
      clear h40
      go_wp2_with (first | ((with_reducible show wpList _ _ _ ({ dst := _, op := Op.store _ _ _, type := _, pos := _, after := _, guard := _ } :: _) _ _); refine wpList_store_at rfl rfl rfl (by (try simp only [Act.eval, Array.getD_eq_getD_getElem?, List.getElem?_toArray, List.getElem?_cons_succ, List.getElem?_cons_zero, Option.getD_some]) <;> exact rfl) (by exact rfl) hA (by with_reducible repeat (first | exact Sel.here | apply Sel.there)) (by kernel_rfl) rfl (by first | decide | (simp; done) | omega) ?_; intro w1 hB; clear hF hA; have hA := hB; clear hB; (try simp only [setL, List.set_cons_zero, List.set_cons_succ, List.cons_append, List.nil_append] at hA); (have hF := hA.facts); (try simp only [facts_cons, facts_nil, facts_cells, facts_old, facts_fact, facts_obj, facts_map, facts_iter, facts_row, and_true, true_and] at hF)) | ((with_reducible show wpList _ _ _ ({ dst := _, op := Op.box _ _, type := _, pos := _, after := _, guard := _ } :: _) _ _); refine wpList_box_at rfl rfl (by (try simp only [Act.eval, Array.getD_eq_getD_getElem?, List.getElem?_toArray, List.getElem?_cons_succ, List.getElem?_cons_zero, Option.getD_some]) <;> exact rfl) (by exact rfl) hA ?_; intro b1 w1 hB hb1; clear hF hA; have hA := hB; clear hB; (try simp only [setL, List.set_cons_zero, List.set_cons_succ, List.cons_append, List.nil_append] at hA); (have hF := hA.facts); (try simp only [facts_cons, facts_nil, facts_cells, facts_old, facts_fact, facts_obj, facts_map, facts_iter, facts_row, and_true, true_and] at hF)))
      go_ret
      exact ⟨rfl, below_old hA (by with_reducible repeat (first | exact Sel.here | apply Sel.there))⟩
  · have hos : os.length ≤ 30 := by omega
    have hot : ot.length ≤ 30 := by omega
    clear h40 hlen hlet
    go_wp2_with (first | ((with_reducible show wpList _ _ _ ({ dst := _, op := Op.store _ _ _, type := _, pos := _, after := _, guard := _ } :: _) _ _); refine wpList_store_at rfl rfl rfl (by (try simp only [Act.eval, Array.getD_eq_getD_getElem?, List.getElem?_toArray, List.getElem?_cons_succ, List.getElem?_cons_zero, Option.getD_some]) <;> exact rfl) (by exact rfl) hA (by with_reducible repeat (first | exact Sel.here | apply Sel.there)) (by kernel_rfl) rfl (by first | decide | (simp; done) | omega) ?_; intro w1 hB; clear hF hA; have hA := hB; clear hB; (try simp only [setL, List.set_cons_zero, List.set_cons_succ, List.cons_append, List.nil_append] at hA); (have hF := hA.facts); (try simp only [facts_cons, facts_nil, facts_cells, facts_old, facts_fact, facts_obj, facts_map, facts_iter, facts_row, and_true, true_and] at hF)) | ((with_reducible show wpList _ _ _ ({ dst := _, op := Op.box _ _, type := _, pos := _, after := _, guard := _ } :: _) _ _); refine wpList_box_at rfl rfl (by (try simp only [Act.eval, Array.getD_eq_getD_getElem?, List.getElem?_toArray, List.getElem?_cons_succ, List.getElem?_cons_zero, Option.getD_some]) <;> exact rfl) (by exact rfl) hA ?_; intro b1 w1 hB hb1; clear hF hA; have hA := hB; clear hB; (try simp only [setL, List.set_cons_zero, List.set_cons_succ, List.cons_append, List.nil_append] at hA); (have hF := hA.facts); (try simp only [facts_cons, facts_nil, facts_cells, facts_old, facts_fact, facts_obj, facts_map, facts_iter, facts_row, and_true, true_and] at hF)))
    refine (new_any _).mono ?_
    rintro e w2 ⟨p1, m1, rfl, hT⟩
    have hB := hA.call0 hT
    clear hF hA hT
    have hA := hB
    clear hB
    (try simp only [setL, List.set_cons_zero, List.set_cons_succ, List.cons_append, List.nil_append] at hA); (have hF := hA.facts); (try simp only [facts_cons, facts_nil, facts_cells, facts_old, facts_fact, facts_obj, facts_map, facts_iter, facts_row, and_true, true_and] at hF)
    go_wp2_with (first | ((with_reducible show wpList _ _ _ ({ dst := _, op := Op.store _ _ _, type := _, pos := _, after := _, guard := _ } :: _) _ _); refine wpList_store_at rfl rfl rfl (by (try simp only [Act.eval, Array.getD_eq_getD_getElem?, List.getElem?_toArray, List.getElem?_cons_succ, List.getElem?_cons_zero, Option.getD_some]) <;> exact rfl) (by exact rfl) hA (by with_reducible repeat (first | exact Sel.here | apply Sel.there)) (by kernel_rfl) rfl (by first | decide | (simp; done) | omega) ?_; intro w1 hB; clear hF hA; have hA := hB; clear hB; (try simp only [setL, List.set_cons_zero, List.set_cons_succ, List.cons_append, List.nil_append] at hA); (have hF := hA.facts); (try simp only [facts_cons, facts_nil, facts_cells, facts_old, facts_fact, facts_obj, facts_map, facts_iter, facts_row, and_true, true_and] at hF)) | ((with_reducible show wpList _ _ _ ({ dst := _, op := Op.box _ _, type := _, pos := _, after := _, guard := _ } :: _) _ _); refine wpList_box_at rfl rfl (by (try simp only [Act.eval, Array.getD_eq_getD_getElem?, List.getElem?_toArray, List.getElem?_cons_succ, List.getElem?_cons_zero, Option.getD_some]) <;> exact rfl) (by exact rfl) hA ?_; intro b1 w1 hB hb1; clear hF hA; have hA := hB; clear hB; (try simp only [setL, List.set_cons_zero, List.set_cons_succ, List.cons_append, List.nil_append] at hA); (have hF := hA.facts); (try simp only [facts_cons, facts_nil, facts_cells, facts_old, facts_fact, facts_obj, facts_map, facts_iter, facts_row, and_true, true_and] at hF)))
    refine (new_any _).mono ?_
    rintro e w2 ⟨p2, m2, rfl, hT⟩
    have hB := hA.call0 hT
    clear hF hA hT
    have hA := hB
    clear hB
    (try simp only [setL, List.set_cons_zero, List.set_cons_succ, List.cons_append, List.nil_append] at hA); (have hF := hA.facts); (try simp only [facts_cons, facts_nil, facts_cells, facts_old, facts_fact, facts_obj, facts_map, facts_iter, facts_row, and_true, true_and] at hF)
    go_wp2_with (first | (with_reducible show wpList _ _ _ ({ dst := some 7, op := Op.alloc _, type := _, pos := _, after := _, guard := _ } :: _) _ _; ((with_reducible show wpList _ _ _ ({ dst := _, op := Op.alloc _, type := _, pos := _, after := _, guard := _ } :: _) _ _); refine wpList_alloc_at (E := 28) (z := .agg #[.slice none 0 0]) (vs := [.slice none 0 0]) rfl rfl (by kernel_rfl) rfl hA ?_; intro bD w1 hB hbD; clear hF hA; have hA := hB; clear hB; (try simp only [setL, List.set_cons_zero, List.set_cons_succ, List.cons_append, List.nil_append] at hA); (have hF := hA.facts); (try simp only [facts_cons, facts_nil, facts_cells, facts_old, facts_fact, facts_obj, facts_map, facts_iter, facts_row, and_true, true_and] at hF))) | ((with_reducible show wpList _ _ _ ({ dst := _, op := Op.alloc _, type := _, pos := _, after := _, guard := _ } :: _) _ _); refine wpList_alloc_at (E := 28) (z := .agg #[.slice none 0 0]) (vs := [.slice none 0 0]) rfl rfl (by kernel_rfl) rfl hA ?_; intro bE w1 hB hbE; clear hF hA; have hA := hB; clear hB; (try simp only [setL, List.set_cons_zero, List.set_cons_succ, List.cons_append, List.nil_append] at hA); (have hF := hA.facts); (try simp only [facts_cons, facts_nil, facts_cells, facts_old, facts_fact, facts_obj, facts_map, facts_iter, facts_row, and_true, true_and] at hF)) | ((with_reducible show wpList _ _ _ ({ dst := _, op := Op.store _ _ _, type := _, pos := _, after := _, guard := _ } :: _) _ _); refine wpList_store_at rfl rfl rfl (by (try simp only [Act.eval, Array.getD_eq_getD_getElem?, List.getElem?_toArray, List.getElem?_cons_succ, List.getElem?_cons_zero, Option.getD_some]) <;> exact rfl) (by exact rfl) hA (by with_reducible repeat (first | exact Sel.here | apply Sel.there)) (by kernel_rfl) rfl (by first | decide | (simp; done) | omega) ?_; intro w1 hB; clear hF hA; have hA := hB; clear hB; (try simp only [setL, List.set_cons_zero, List.set_cons_succ, List.cons_append, List.nil_append] at hA); (have hF := hA.facts); (try simp only [facts_cons, facts_nil, facts_cells, facts_old, facts_fact, facts_obj, facts_map, facts_iter, facts_row, and_true, true_and] at hF)) | ((with_reducible show wpList _ _ _ ({ dst := _, op := Op.box _ _, type := _, pos := _, after := _, guard := _ } :: _) _ _); refine wpList_box_at rfl rfl (by (try simp only [Act.eval, Array.getD_eq_getD_getElem?, List.getElem?_toArray, List.getElem?_cons_succ, List.getElem?_cons_zero, Option.getD_some]) <;> exact rfl) (by exact rfl) hA ?_; intro b1 w1 hB hb1; clear hF hA; have hA := hB; clear hB; (try simp only [setL, List.set_cons_zero, List.set_cons_succ, List.cons_append, List.nil_append] at hA); (have hF := hA.facts); (try simp only [facts_cons, facts_nil, facts_cells, facts_old, facts_fact, facts_obj, facts_map, facts_iter, facts_row, and_true, true_and] at hF)))
    have hB := nil_pool (nil_rowR hA)
    clear hF hA
    have hA := hB
    clear hB
    have hF := hA.facts
    (try simp only [setL, List.set_cons_zero, List.set_cons_succ, List.cons_append, List.nil_append] at hA); (have hF := hA.facts); (try simp only [facts_cons, facts_nil, facts_cells, facts_old, facts_fact, facts_obj, facts_map, facts_iter, facts_row, and_true, true_and] at hF)
    try go_frame
    go_loopg [31] os.length (LbOne w p1 m1 p2 m2 bD bE os.length)
    case atStart => exact ⟨0, [], _, [], _, rfl, by simp, hA.pick (by repeat (first | exact Picks.nil | refine Picks.cons (by repeat (first | exact Sel.here | apply Sel.there)) ?_)), Inv.start, by simp⟩
    case round =>
      obtain ⟨i, ss, v, L, PL, rfl, hik, hB, hI, hL⟩ := hrel
      have hI' := Lib.hid hI
      clear hF hA hI
      have hA := hB
      clear hB
      obtain ⟨vx, vn, vc, hv, hvn⟩ := hA.row_hid (v := v) (n := L.length) (xs := flatR L) (by with_reducible repeat (first | exact Sel.here | apply Sel.there))
      subst hv
      by_cases hi : i < os.length
      · obtain ⟨b, off, rfl, ⟨c0, c1, c2, c3, c4, c5, c6, c7, c8, c9⟩, hok⟩ := hops.out i hi
        obtain ⟨⟨kd, o⟩, ho⟩ : ∃ o, os[i] = o := ⟨_, rfl⟩
        simp only [ho] at c0 c1 c2 c3 c4 c5 c6 c7 c8 c9 hok
        have c0 := old_cell (hA.get (A := Part.old w) (by with_reducible repeat (first | exact Sel.here | apply Sel.there))) c0
        have c1 := old_cell (hA.get (A := Part.old w) (by with_reducible repeat (first | exact Sel.here | apply Sel.there))) c1
        have c2 := old_cell (hA.get (A := Part.old w) (by with_reducible repeat (first | exact Sel.here | apply Sel.there))) c2
        have c3 := old_cell (hA.get (A := Part.old w) (by with_reducible repeat (first | exact Sel.here | apply Sel.there))) c3
        have c4 := old_cell (hA.get (A := Part.old w) (by with_reducible repeat (first | exact Sel.here | apply Sel.there))) c4
        have c5 := old_cell (hA.get (A := Part.old w) (by with_reducible repeat (first | exact Sel.here | apply Sel.there))) c5
        have c6 := old_cell (hA.get (A := Part.old w) (by with_reducible repeat (first | exact Sel.here | apply Sel.there))) c6
        have c7 := old_cell (hA.get (A := Part.old w) (by with_reducible repeat (first | exact Sel.here | apply Sel.there))) c7
        have c8 := old_cell (hA.get (A := Part.old w) (by with_reducible repeat (first | exact Sel.here | apply Sel.there))) c8
        have c9 := old_cell (hA.get (A := Part.old w) (by with_reducible repeat (first | exact Sel.here | apply Sel.there))) c9
        have hok' := Lib.hid hok
        clear ho hok
        have hF := hA.facts
        (try simp only [setL, List.set_cons_zero, List.set_cons_succ, List.cons_append, List.nil_append] at hA); (have hF := hA.facts); (try simp only [facts_cons, facts_nil, facts_cells, facts_old, facts_fact, facts_obj, facts_map, facts_iter, facts_row, and_true, true_and] at hF)
        go_wp2_with (first | ((with_reducible show wpList _ _ _ ({ dst := _, op := Op.store _ _ _, type := _, pos := _, after := _, guard := _ } :: _) _ _); refine wpList_store_at rfl rfl rfl (by (try simp only [Act.eval, Array.getD_eq_getD_getElem?, List.getElem?_toArray, List.getElem?_cons_succ, List.getElem?_cons_zero, Option.getD_some]) <;> exact rfl) (by exact rfl) hA (by with_reducible repeat (first | exact Sel.here | apply Sel.there)) (by kernel_rfl) rfl (by first | decide | (simp; done) | omega) ?_; intro w1 hB; clear hF hA; have hA := hB; clear hB; (try simp only [setL, List.set_cons_zero, List.set_cons_succ, List.cons_append, List.nil_append] at hA); (have hF := hA.facts); (try simp only [facts_cons, facts_nil, facts_cells, facts_old, facts_fact, facts_obj, facts_map, facts_iter, facts_row, and_true, true_and] at hF)) | ((with_reducible show wpList _ _ _ ({ dst := _, op := Op.box _ _, type := _, pos := _, after := _, guard := _ } :: _) _ _); refine wpList_box_at rfl rfl (by (try simp only [Act.eval, Array.getD_eq_getD_getElem?, List.getElem?_toArray, List.getElem?_cons_succ, List.getElem?_cons_zero, Option.getD_some]) <;> exact rfl) (by exact rfl) hA ?_; intro b1 w1 hB hb1; clear hF hA; have hA := hB; clear hB; (try simp only [setL, List.set_cons_zero, List.set_cons_succ, List.cons_append, List.nil_append] at hA); (have hF := hA.facts); (try simp only [facts_cons, facts_nil, facts_cells, facts_old, facts_fact, facts_obj, facts_map, facts_iter, facts_row, and_true, true_and] at hF)) | ((with_reducible show wpList _ _ _ ({ dst := _, op := Op.alloc _, type := _, pos := _, after := _, guard := _ } :: _) _ _); refine wpList_alloc_at (E := 36) (z := .agg #[.int .i64 0, .int .i64 0, .int .i64 0, .int .i64 0, .int .u64 0, .string .empty, .int .u64 0, .int .i64 0, .int .u64 0, .bool false]) (vs := [.int .i64 0, .int .i64 0, .int .i64 0, .int .i64 0, .int .u64 0, .string .empty, .int .u64 0, .int .i64 0, .int .u64 0, .bool false]) rfl rfl (by kernel_rfl) rfl hA ?_; intro b1 w1 hB hb1; clear hF hA; have hA := hB; clear hB; (try simp only [setL, List.set_cons_zero, List.set_cons_succ, List.cons_append, List.nil_append] at hA); (have hF := hA.facts); (try simp only [facts_cons, facts_nil, facts_cells, facts_old, facts_fact, facts_obj, facts_map, facts_iter, facts_row, and_true, true_and] at hF)))
        refine (step_any (ss := ss) (L := L) (PL := PL) (hA.seps (K := [BookP p1 m1 ss, rowR (.slice vx vn vc) L, poolP PL]) (by with_reducible repeat (first | exact Picks.nil | refine Picks.cons (by with_reducible repeat (first | exact Sel.here | apply Sel.there)) ?_))) hI'.out o hok'.out (by omega) kd).mono ?_
        rintro e w3 ⟨ss', v', L', PL', rfl, hT, hI2, hL2⟩
        have hI2' := Lib.hid hI2
        have hB := hA.call3 (A := BookP p1 m1 ss) (B := rowR (.slice vx vn vc) L) (C := poolP PL) (by with_reducible repeat (first | exact Sel.here | apply Sel.there)) (by with_reducible repeat (first | exact Sel.here | apply Sel.there)) (by with_reducible repeat (first | exact Sel.here | apply Sel.there)) hT
        clear hF hA hT hI2 c0 c1 c2 c3 c4 c5 c6 c7 c8 c9
        have hA := hB
        clear hB
        simp only [List.cons_append, List.nil_append] at hA
        obtain ⟨vx2, vn2, vc2, hv2, hvn2⟩ := hA.row_hid (v := v') (n := L'.length) (xs := flatR L') (by with_reducible repeat (first | exact Sel.here | apply Sel.there))
        subst hv2
        have hF := hA.facts
        (try simp only [setL, List.set_cons_zero, List.set_cons_succ, List.cons_append, List.nil_append] at hA); (have hF := hA.facts); (try simp only [facts_cons, facts_nil, facts_cells, facts_old, facts_fact, facts_obj, facts_map, facts_iter, facts_row, and_true, true_and] at hF)
        go_wp2_with (first | ((with_reducible show wpList _ _ _ ({ dst := _, op := Op.store _ _ _, type := _, pos := _, after := _, guard := _ } :: _) _ _); refine wpList_store_at rfl rfl rfl (by (try simp only [Act.eval, Array.getD_eq_getD_getElem?, List.getElem?_toArray, List.getElem?_cons_succ, List.getElem?_cons_zero, Option.getD_some]) <;> exact rfl) (by exact rfl) hA (by with_reducible repeat (first | exact Sel.here | apply Sel.there)) (by kernel_rfl) rfl (by first | decide | (simp; done) | omega) ?_; intro w1 hB; clear hF hA; have hA := hB; clear hB; (try simp only [setL, List.set_cons_zero, List.set_cons_succ, List.cons_append, List.nil_append] at hA); (have hF := hA.facts); (try simp only [facts_cons, facts_nil, facts_cells, facts_old, facts_fact, facts_obj, facts_map, facts_iter, facts_row, and_true, true_and] at hF)) | ((with_reducible show wpList _ _ _ ({ dst := _, op := Op.box _ _, type := _, pos := _, after := _, guard := _ } :: _) _ _); refine wpList_box_at rfl rfl (by (try simp only [Act.eval, Array.getD_eq_getD_getElem?, List.getElem?_toArray, List.getElem?_cons_succ, List.getElem?_cons_zero, Option.getD_some]) <;> exact rfl) (by exact rfl) hA ?_; intro b1 w1 hB hb1; clear hF hA; have hA := hB; clear hB; (try simp only [setL, List.set_cons_zero, List.set_cons_succ, List.cons_append, List.nil_append] at hA); (have hF := hA.facts); (try simp only [facts_cons, facts_nil, facts_cells, facts_old, facts_fact, facts_obj, facts_map, facts_iter, facts_row, and_true, true_and] at hF)))
        go_roundg (gk - 1)
        case measure => omega
        case rel => exact ⟨i + 1, ss', _, L', PL', by simp, by omega, hA.pick (by with_reducible repeat (first | exact Picks.nil | refine Picks.cons (by with_reducible repeat (first | exact Sel.here | apply Sel.there)) ?_)), hI2'.out, by omega⟩
      · have hL1 : L.length ≤ 9000 := by omega
        go_wp2_with (first | ((with_reducible show wpList _ _ _ ({ dst := _, op := Op.store _ _ _, type := _, pos := _, after := _, guard := _ } :: _) _ _); refine wpList_store_at rfl rfl rfl (by (try simp only [Act.eval, Array.getD_eq_getD_getElem?, List.getElem?_toArray, List.getElem?_cons_succ, List.getElem?_cons_zero, Option.getD_some]) <;> exact rfl) (by exact rfl) hA (by with_reducible repeat (first | exact Sel.here | apply Sel.there)) (by kernel_rfl) rfl (by first | decide | (simp; done) | omega) ?_; intro w1 hB; clear hF hA; have hA := hB; clear hB; (try simp only [setL, List.set_cons_zero, List.set_cons_succ, List.cons_append, List.nil_append] at hA); (have hF := hA.facts); (try simp only [facts_cons, facts_nil, facts_cells, facts_old, facts_fact, facts_obj, facts_map, facts_iter, facts_row, and_true, true_and] at hF)) | ((with_reducible show wpList _ _ _ ({ dst := _, op := Op.box _ _, type := _, pos := _, after := _, guard := _ } :: _) _ _); refine wpList_box_at rfl rfl (by (try simp only [Act.eval, Array.getD_eq_getD_getElem?, List.getElem?_toArray, List.getElem?_cons_succ, List.getElem?_cons_zero, Option.getD_some]) <;> exact rfl) (by exact rfl) hA ?_; intro b1 w1 hB hb1; clear hF hA; have hA := hB; clear hB; (try simp only [setL, List.set_cons_zero, List.set_cons_succ, List.cons_append, List.nil_append] at hA); (have hF := hA.facts); (try simp only [facts_cons, facts_nil, facts_cells, facts_old, facts_fact, facts_obj, facts_map, facts_iter, facts_row, and_true, true_and] at hF)))
        clear hi hik hvn
        obtain ⟨ax1, cap1, he1, hax1, hcap1, _⟩ := hA.row_form (v := .slice vx vn vc) (n := L.length) (xs := flatR L) (by with_reducible repeat (first | exact Sel.here | apply Sel.there))
        cases he1
        have hB := nil_pool (nil_rowR hA)
        clear hF hA
        have hA := hB
        clear hB
        have hF := hA.facts
        (try simp only [setL, List.set_cons_zero, List.set_cons_succ, List.cons_append, List.nil_append] at hA); (have hF := hA.facts); (try simp only [facts_cons, facts_nil, facts_cells, facts_old, facts_fact, facts_obj, facts_map, facts_iter, facts_row, and_true, true_and] at hF)
        try go_frame
        go_loopg [45] ot.length (LbTwo w p1 m1 p2 m2 bD bE ot.length ss (.slice vx L.length vc) L PL)
        case atStart => exact ⟨0, [], _, [], _, rfl, by simp, hA.pick (by repeat (first | exact Picks.nil | refine Picks.cons (by repeat (first | exact Sel.here | apply Sel.there)) ?_)), Inv.start, by simp⟩
        case round =>
          obtain ⟨i, ss2, v, M, QL, rfl, hik, hB, hJ, hM⟩ := hrel
          have hJ' := Lib.hid hJ
          clear hF hA hJ
          have hA := hB
          clear hB
          obtain ⟨ux, un, uc, hv, hvn⟩ := hA.row_hid (v := v) (n := M.length) (xs := flatR M) (by with_reducible repeat (first | exact Sel.here | apply Sel.there))
          subst hv
          by_cases hi : i < ot.length
          · obtain ⟨b, off, rfl, ⟨c0, c1, c2, c3, c4, c5, c6, c7, c8, c9⟩, hok⟩ := hopt.out i hi
            obtain ⟨⟨kd, o⟩, ho⟩ : ∃ o, ot[i] = o := ⟨_, rfl⟩
            simp only [ho] at c0 c1 c2 c3 c4 c5 c6 c7 c8 c9 hok
            have c0 := old_cell (hA.get (A := Part.old w) (by with_reducible repeat (first | exact Sel.here | apply Sel.there))) c0
            have c1 := old_cell (hA.get (A := Part.old w) (by with_reducible repeat (first | exact Sel.here | apply Sel.there))) c1
            have c2 := old_cell (hA.get (A := Part.old w) (by with_reducible repeat (first | exact Sel.here | apply Sel.there))) c2
            have c3 := old_cell (hA.get (A := Part.old w) (by with_reducible repeat (first | exact Sel.here | apply Sel.there))) c3
            have c4 := old_cell (hA.get (A := Part.old w) (by with_reducible repeat (first | exact Sel.here | apply Sel.there))) c4
            have c5 := old_cell (hA.get (A := Part.old w) (by with_reducible repeat (first | exact Sel.here | apply Sel.there))) c5
            have c6 := old_cell (hA.get (A := Part.old w) (by with_reducible repeat (first | exact Sel.here | apply Sel.there))) c6
            have c7 := old_cell (hA.get (A := Part.old w) (by with_reducible repeat (first | exact Sel.here | apply Sel.there))) c7
            have c8 := old_cell (hA.get (A := Part.old w) (by with_reducible repeat (first | exact Sel.here | apply Sel.there))) c8
            have c9 := old_cell (hA.get (A := Part.old w) (by with_reducible repeat (first | exact Sel.here | apply Sel.there))) c9
            have hok' := Lib.hid hok
            clear ho hok
            have hF := hA.facts
            (try simp only [setL, List.set_cons_zero, List.set_cons_succ, List.cons_append, List.nil_append] at hA); (have hF := hA.facts); (try simp only [facts_cons, facts_nil, facts_cells, facts_old, facts_fact, facts_obj, facts_map, facts_iter, facts_row, and_true, true_and] at hF)
            go_wp2_with (first | ((with_reducible show wpList _ _ _ ({ dst := _, op := Op.store _ _ _, type := _, pos := _, after := _, guard := _ } :: _) _ _); refine wpList_store_at rfl rfl rfl (by (try simp only [Act.eval, Array.getD_eq_getD_getElem?, List.getElem?_toArray, List.getElem?_cons_succ, List.getElem?_cons_zero, Option.getD_some]) <;> exact rfl) (by exact rfl) hA (by with_reducible repeat (first | exact Sel.here | apply Sel.there)) (by kernel_rfl) rfl (by first | decide | (simp; done) | omega) ?_; intro w1 hB; clear hF hA; have hA := hB; clear hB; (try simp only [setL, List.set_cons_zero, List.set_cons_succ, List.cons_append, List.nil_append] at hA); (have hF := hA.facts); (try simp only [facts_cons, facts_nil, facts_cells, facts_old, facts_fact, facts_obj, facts_map, facts_iter, facts_row, and_true, true_and] at hF)) | ((with_reducible show wpList _ _ _ ({ dst := _, op := Op.box _ _, type := _, pos := _, after := _, guard := _ } :: _) _ _); refine wpList_box_at rfl rfl (by (try simp only [Act.eval, Array.getD_eq_getD_getElem?, List.getElem?_toArray, List.getElem?_cons_succ, List.getElem?_cons_zero, Option.getD_some]) <;> exact rfl) (by exact rfl) hA ?_; intro b1 w1 hB hb1; clear hF hA; have hA := hB; clear hB; (try simp only [setL, List.set_cons_zero, List.set_cons_succ, List.cons_append, List.nil_append] at hA); (have hF := hA.facts); (try simp only [facts_cons, facts_nil, facts_cells, facts_old, facts_fact, facts_obj, facts_map, facts_iter, facts_row, and_true, true_and] at hF)) | ((with_reducible show wpList _ _ _ ({ dst := _, op := Op.alloc _, type := _, pos := _, after := _, guard := _ } :: _) _ _); refine wpList_alloc_at (E := 36) (z := .agg #[.int .i64 0, .int .i64 0, .int .i64 0, .int .i64 0, .int .u64 0, .string .empty, .int .u64 0, .int .i64 0, .int .u64 0, .bool false]) (vs := [.int .i64 0, .int .i64 0, .int .i64 0, .int .i64 0, .int .u64 0, .string .empty, .int .u64 0, .int .i64 0, .int .u64 0, .bool false]) rfl rfl (by kernel_rfl) rfl hA ?_; intro b1 w1 hB hb1; clear hF hA; have hA := hB; clear hB; (try simp only [setL, List.set_cons_zero, List.set_cons_succ, List.cons_append, List.nil_append] at hA); (have hF := hA.facts); (try simp only [facts_cons, facts_nil, facts_cells, facts_old, facts_fact, facts_obj, facts_map, facts_iter, facts_row, and_true, true_and] at hF)))
            refine (step_any (ss := ss2) (L := M) (PL := QL) (hA.seps (K := [BookP p2 m2 ss2, rowR (.slice ux un uc) M, poolP QL]) (by with_reducible repeat (first | exact Picks.nil | refine Picks.cons (by with_reducible repeat (first | exact Sel.here | apply Sel.there)) ?_))) hJ'.out o hok'.out (by omega) kd).mono ?_
            rintro e w3 ⟨ss', v', L', PL', rfl, hT, hI2, hL2⟩
            have hI2' := Lib.hid hI2
            have hB := hA.call3 (A := BookP p2 m2 ss2) (B := rowR (.slice ux un uc) M) (C := poolP QL) (by with_reducible repeat (first | exact Sel.here | apply Sel.there)) (by with_reducible repeat (first | exact Sel.here | apply Sel.there)) (by with_reducible repeat (first | exact Sel.here | apply Sel.there)) hT
            clear hF hA hT hI2 c0 c1 c2 c3 c4 c5 c6 c7 c8 c9
            have hA := hB
            clear hB
            simp only [List.cons_append, List.nil_append] at hA
            obtain ⟨vx2, vn2, vc2, hv2, hvn2⟩ := hA.row_hid (v := v') (n := L'.length) (xs := flatR L') (by with_reducible repeat (first | exact Sel.here | apply Sel.there))
            subst hv2
            have hF := hA.facts
            (try simp only [setL, List.set_cons_zero, List.set_cons_succ, List.cons_append, List.nil_append] at hA); (have hF := hA.facts); (try simp only [facts_cons, facts_nil, facts_cells, facts_old, facts_fact, facts_obj, facts_map, facts_iter, facts_row, and_true, true_and] at hF)
            go_wp2_with (first | ((with_reducible show wpList _ _ _ ({ dst := _, op := Op.store _ _ _, type := _, pos := _, after := _, guard := _ } :: _) _ _); refine wpList_store_at rfl rfl rfl (by (try simp only [Act.eval, Array.getD_eq_getD_getElem?, List.getElem?_toArray, List.getElem?_cons_succ, List.getElem?_cons_zero, Option.getD_some]) <;> exact rfl) (by exact rfl) hA (by with_reducible repeat (first | exact Sel.here | apply Sel.there)) (by kernel_rfl) rfl (by first | decide | (simp; done) | omega) ?_; intro w1 hB; clear hF hA; have hA := hB; clear hB; (try simp only [setL, List.set_cons_zero, List.set_cons_succ, List.cons_append, List.nil_append] at hA); (have hF := hA.facts); (try simp only [facts_cons, facts_nil, facts_cells, facts_old, facts_fact, facts_obj, facts_map, facts_iter, facts_row, and_true, true_and] at hF)) | ((with_reducible show wpList _ _ _ ({ dst := _, op := Op.box _ _, type := _, pos := _, after := _, guard := _ } :: _) _ _); refine wpList_box_at rfl rfl (by (try simp only [Act.eval, Array.getD_eq_getD_getElem?, List.getElem?_toArray, List.getElem?_cons_succ, List.getElem?_cons_zero, Option.getD_some]) <;> exact rfl) (by exact rfl) hA ?_; intro b1 w1 hB hb1; clear hF hA; have hA := hB; clear hB; (try simp only [setL, List.set_cons_zero, List.set_cons_succ, List.cons_append, List.nil_append] at hA); (have hF := hA.facts); (try simp only [facts_cons, facts_nil, facts_cells, facts_old, facts_fact, facts_obj, facts_map, facts_iter, facts_row, and_true, true_and] at hF)))
            go_roundg (gk - 1)
            case measure => omega
            case rel => exact ⟨i + 1, ss', _, L', PL', by simp, by omega, hA.pick (by with_reducible repeat (first | exact Picks.nil | refine Picks.cons (by with_reducible repeat (first | exact Sel.here | apply Sel.there)) ?_)), hI2'.out, by omega⟩
          · have hM1 : M.length ≤ 9000 := by omega
            obtain ⟨q, hq⟩ : ∃ q, ((L.length : Int) == (M.length : Int)) = q := ⟨_, rfl⟩
            have hqi : q = true ↔ L.length = M.length := by rw [← hq]; simp; omega
            have hqi' := Lib.hid hqi
            clear hqi
            obtain ⟨ax2, cap2, he2, hax2, hcap2, _⟩ := hA.row_form (v := .slice ux un uc) (n := M.length) (xs := flatR M) (by with_reducible repeat (first | exact Sel.here | apply Sel.there))
            cases he2
            have hF := hA.facts
            (try simp only [setL, List.set_cons_zero, List.set_cons_succ, List.cons_append, List.nil_append] at hA); (have hF := hA.facts); (try simp only [facts_cons, facts_nil, facts_cells, facts_old, facts_fact, facts_obj, facts_map, facts_iter, facts_row, and_true, true_and] at hF)
            go_wp2_with (first | (with_reducible show wpList _ _ _ ({ dst := some 58, op := Op.box _ _, type := _, pos := _, after := _, guard := _ } :: _) _ _; ((with_reducible show wpList _ _ _ ({ dst := _, op := Op.box _ _, type := _, pos := _, after := _, guard := _ } :: _) _ _); refine wpList_box_at (E := 42) rfl rfl (by (try simp only [Act.eval, Array.getD_eq_getD_getElem?, List.getElem?_toArray, List.getElem?_cons_succ, List.getElem?_cons_zero, Option.getD_some]) <;> exact rfl) (by exact rfl) hA ?_; intro bO w1 hB hbO; clear hF hA; have hA := hB; clear hB; (try simp only [setL, List.set_cons_zero, List.set_cons_succ, List.cons_append, List.nil_append] at hA); (have hF := hA.facts); (try simp only [facts_cons, facts_nil, facts_cells, facts_old, facts_fact, facts_obj, facts_map, facts_iter, facts_row, and_true, true_and] at hF))) | ((with_reducible show wpList _ _ _ ({ dst := _, op := Op.box _ _, type := _, pos := _, after := _, guard := _ } :: _) _ _); refine wpList_box_at (E := 42) rfl rfl (by (try simp only [Act.eval, Array.getD_eq_getD_getElem?, List.getElem?_toArray, List.getElem?_cons_succ, List.getElem?_cons_zero, Option.getD_some]) <;> exact rfl) (by exact rfl) hA ?_; intro bQ w1 hB hbQ; clear hF hA; have hA := hB; clear hB; (try simp only [setL, List.set_cons_zero, List.set_cons_succ, List.cons_append, List.nil_append] at hA); (have hF := hA.facts); (try simp only [facts_cons, facts_nil, facts_cells, facts_old, facts_fact, facts_obj, facts_map, facts_iter, facts_row, and_true, true_and] at hF)) | ((with_reducible show wpList _ _ _ ({ dst := _, op := Op.store _ _ _, type := _, pos := _, after := _, guard := _ } :: _) _ _); refine wpList_store_at rfl rfl rfl (by (try simp only [Act.eval, Array.getD_eq_getD_getElem?, List.getElem?_toArray, List.getElem?_cons_succ, List.getElem?_cons_zero, Option.getD_some]) <;> exact rfl) (by exact rfl) hA (by with_reducible repeat (first | exact Sel.here | apply Sel.there)) (by kernel_rfl) rfl (by first | decide | (simp; done) | omega) ?_; intro w1 hB; clear hF hA; have hA := hB; clear hB; (try simp only [setL, List.set_cons_zero, List.set_cons_succ, List.cons_append, List.nil_append] at hA); (have hF := hA.facts); (try simp only [facts_cons, facts_nil, facts_cells, facts_old, facts_fact, facts_obj, facts_map, facts_iter, facts_row, and_true, true_and] at hF)) | ((with_reducible show wpList _ _ _ ({ dst := _, op := Op.box _ _, type := _, pos := _, after := _, guard := _ } :: _) _ _); refine wpList_box_at rfl rfl (by (try simp only [Act.eval, Array.getD_eq_getD_getElem?, List.getElem?_toArray, List.getElem?_cons_succ, List.getElem?_cons_zero, Option.getD_some]) <;> exact rfl) (by exact rfl) hA ?_; intro b1 w1 hB hb1; clear hF hA; have hA := hB; clear hB; (try simp only [setL, List.set_cons_zero, List.set_cons_succ, List.cons_append, List.nil_append] at hA); (have hF := hA.facts); (try simp only [facts_cons, facts_nil, facts_cells, facts_old, facts_fact, facts_obj, facts_map, facts_iter, facts_row, and_true, true_and] at hF)))
            change At _ _ (_ :: Part.cells bO [.slice none 0 0] 42 :: _) _ at hA
            have hI'z := Lib.hid (hI'.out.okZ (p := p1) (m := m1) (hA.sep1 (A := BookP p1 m1 ss) (by with_reducible repeat (first | exact Sel.here | apply Sel.there))))
            have hJ'z := Lib.hid (hJ'.out.okZ (p := p2) (m := m2) (hA.sep1 (A := BookP p2 m2 ss2) (by with_reducible repeat (first | exact Sel.here | apply Sel.there))))
            have hB := rowY_nil (rowY_nil hA)
            clear hF hA
            have hA := hB
            clear hB
            have hF := hA.facts
            (try simp only [setL, List.set_cons_zero, List.set_cons_succ, List.cons_append, List.nil_append] at hA); (have hF := hA.facts); (try simp only [facts_cons, facts_nil, facts_cells, facts_old, facts_fact, facts_obj, facts_map, facts_iter, facts_row, and_true, true_and] at hF)
            refine (put_any (ss := ss) (L := L) (hA.seps (K := [BookP p1 m1 ss, outC bO (.slice none 0 0), rowY (.slice none 0 0) []]) (by with_reducible repeat (first | exact Picks.nil | refine Picks.cons (by with_reducible repeat (first | exact Sel.here | apply Sel.there)) ?_))) hI'.out.rel (fun s hs => ⟨(hI'z.out s hs).ok.n0, (hI'z.out s hs).ok.n1, (hI'z.out s hs).fb⟩) (by omega) (by simp)).mono ?_
            rintro e w3 ⟨rfl, u1, hT⟩
            have hB := hA.call3 (A := BookP p1 m1 ss) (B := outC bO (.slice none 0 0)) (C := rowY (.slice none 0 0) []) (by with_reducible repeat (first | exact Sel.here | apply Sel.there)) (by with_reducible repeat (first | exact Sel.here | apply Sel.there)) (by with_reducible repeat (first | exact Sel.here | apply Sel.there)) hT
            clear hF hA hT
            have hA := hB
            clear hB
            simp only [List.cons_append, List.nil_append] at hA
            have hF := hA.facts
            (try simp only [setL, List.set_cons_zero, List.set_cons_succ, List.cons_append, List.nil_append] at hA); (have hF := hA.facts); (try simp only [facts_cons, facts_nil, facts_cells, facts_old, facts_fact, facts_obj, facts_map, facts_iter, facts_row, and_true, true_and] at hF)
            go_wp2_with (first | ((with_reducible show wpList _ _ _ ({ dst := _, op := Op.store _ _ _, type := _, pos := _, after := _, guard := _ } :: _) _ _); refine wpList_store_at rfl rfl rfl (by (try simp only [Act.eval, Array.getD_eq_getD_getElem?, List.getElem?_toArray, List.getElem?_cons_succ, List.getElem?_cons_zero, Option.getD_some]) <;> exact rfl) (by exact rfl) hA (by with_reducible repeat (first | exact Sel.here | apply Sel.there)) (by kernel_rfl) rfl (by first | decide | (simp; done) | omega) ?_; intro w1 hB; clear hF hA; have hA := hB; clear hB; (try simp only [setL, List.set_cons_zero, List.set_cons_succ, List.cons_append, List.nil_append] at hA); (have hF := hA.facts); (try simp only [facts_cons, facts_nil, facts_cells, facts_old, facts_fact, facts_obj, facts_map, facts_iter, facts_row, and_true, true_and] at hF)) | ((with_reducible show wpList _ _ _ ({ dst := _, op := Op.box _ _, type := _, pos := _, after := _, guard := _ } :: _) _ _); refine wpList_box_at rfl rfl (by (try simp only [Act.eval, Array.getD_eq_getD_getElem?, List.getElem?_toArray, List.getElem?_cons_succ, List.getElem?_cons_zero, Option.getD_some]) <;> exact rfl) (by exact rfl) hA ?_; intro b1 w1 hB hb1; clear hF hA; have hA := hB; clear hB; (try simp only [setL, List.set_cons_zero, List.set_cons_succ, List.cons_append, List.nil_append] at hA); (have hF := hA.facts); (try simp only [facts_cons, facts_nil, facts_cells, facts_old, facts_fact, facts_obj, facts_map, facts_iter, facts_row, and_true, true_and] at hF)))
            refine (put_any (ss := ss2) (L := M) (hA.seps (K := [BookP p2 m2 ss2, outC bQ (.slice none 0 0), rowY (.slice none 0 0) []]) (by with_reducible repeat (first | exact Picks.nil | refine Picks.cons (by with_reducible repeat (first | exact Sel.here | apply Sel.there)) ?_))) hJ'.out.rel (fun s hs => ⟨(hJ'z.out s hs).ok.n0, (hJ'z.out s hs).ok.n1, (hJ'z.out s hs).fb⟩) (by omega) (by simp)).mono ?_
            rintro e w3 ⟨rfl, u2, hT⟩
            have hB := hA.call3 (A := BookP p2 m2 ss2) (B := outC bQ (.slice none 0 0)) (C := rowY (.slice none 0 0) []) (by with_reducible repeat (first | exact Sel.here | apply Sel.there)) (by with_reducible repeat (first | exact Sel.here | apply Sel.there)) (by with_reducible repeat (first | exact Sel.here | apply Sel.there)) hT
            clear hF hA hT
            have hA := hB
            clear hB
            simp only [List.cons_append, List.nil_append] at hA
            have hF := hA.facts
            (try simp only [setL, List.set_cons_zero, List.set_cons_succ, List.cons_append, List.nil_append] at hA); (have hF := hA.facts); (try simp only [facts_cons, facts_nil, facts_cells, facts_old, facts_fact, facts_obj, facts_map, facts_iter, facts_row, and_true, true_and] at hF)
            have henc : encL L = encL M ↔ L.map projS = M.map projS := enc_iff (fun a ha => (hI'z.out a ha).ok) (fun a ha => (hJ'z.out a ha).ok)
            have henc' := Lib.hid henc
            have hx1 := Lib.hid (encL_len hI'z.out (by omega))
            have hx2 := Lib.hid (encL_len hJ'z.out (by omega))
            clear henc
            generalize hl1 : encL L = l1 at *
            generalize hl2 : encL M = l2 at *
            clear hl1 hl2
            have hB := (hA.pick (K := [poolP PL, poolP QL, rowR (.slice vx L.length vc) L, rowR (.slice ux M.length uc) M, Part.cells bD [.slice vx L.length vc] 28, Part.cells bE [.slice ux M.length uc] 28, outC bO u1, outC bQ u2, rowY u1 l1, rowY u2 l2, Part.old w]) (by with_reducible repeat (first | exact Picks.nil | refine Picks.cons (by with_reducible repeat (first | exact Sel.here | apply Sel.there)) ?_))).to (two_eqv PL QL _).symm
            clear hF hA
            have hA := hB
            clear hB
            have hF := hA.facts
            (try simp only [setL, List.set_cons_zero, List.set_cons_succ, List.cons_append, List.nil_append] at hA); (have hF := hA.facts); (try simp only [facts_cons, facts_nil, facts_cells, facts_old, facts_fact, facts_obj, facts_map, facts_iter, facts_row, and_true, true_and] at hF)
            go_wp2_with (first | ((with_reducible show wpList _ _ _ ({ dst := _, op := Op.store _ _ _, type := _, pos := _, after := _, guard := _ } :: _) _ _); refine wpList_store_at rfl rfl rfl (by (try simp only [Act.eval, Array.getD_eq_getD_getElem?, List.getElem?_toArray, List.getElem?_cons_succ, List.getElem?_cons_zero, Option.getD_some]) <;> exact rfl) (by exact rfl) hA (by with_reducible repeat (first | exact Sel.here | apply Sel.there)) (by kernel_rfl) rfl (by first | decide | (simp; done) | omega) ?_; intro w1 hB; clear hF hA; have hA := hB; clear hB; (try simp only [setL, List.set_cons_zero, List.set_cons_succ, List.cons_append, List.nil_append] at hA); (have hF := hA.facts); (try simp only [facts_cons, facts_nil, facts_cells, facts_old, facts_fact, facts_obj, facts_map, facts_iter, facts_row, and_true, true_and] at hF)) | ((with_reducible show wpList _ _ _ ({ dst := _, op := Op.box _ _, type := _, pos := _, after := _, guard := _ } :: _) _ _); refine wpList_box_at rfl rfl (by (try simp only [Act.eval, Array.getD_eq_getD_getElem?, List.getElem?_toArray, List.getElem?_cons_succ, List.getElem?_cons_zero, Option.getD_some]) <;> exact rfl) (by exact rfl) hA ?_; intro b1 w1 hB hb1; clear hF hA; have hA := hB; clear hB; (try simp only [setL, List.set_cons_zero, List.set_cons_succ, List.cons_append, List.nil_append] at hA); (have hF := hA.facts); (try simp only [facts_cons, facts_nil, facts_cells, facts_old, facts_fact, facts_obj, facts_map, facts_iter, facts_row, and_true, true_and] at hF)))
            try go_frame
            go_loopg [15, 77] L.length (LbCmp w bD bE bO bQ (.slice vx L.length vc) L PL (.slice ux M.length uc) M QL u1 u2 l1 l2)
            case atStart => exact ⟨0, q, rfl, rfl, by simp, by rw [hqi'.out]; simp, hA⟩
            case round =>
              obtain ⟨i, q, rfl, rfl, hik, hqr, hB⟩ := hrel
              have hqr' := Lib.hid hqr
              clear hF hA hqr
              have hA := hB
              clear hB
              by_cases hi : i < L.length
              · cases q with
                | false =>
                  have hnx := Lib.hid (show ¬ (L.length = M.length ∧ (L.take (i + 1)).map projS = (M.take (i + 1)).map projS) from fun h => absurd (hqr'.out.2 ⟨h.1, take_back h.2⟩) nofun)
                  have hF := hA.facts
                  (try simp only [setL, List.set_cons_zero, List.set_cons_succ, List.cons_append, List.nil_append] at hA); (have hF := hA.facts); (try simp only [facts_cons, facts_nil, facts_cells, facts_old, facts_fact, facts_obj, facts_map, facts_iter, facts_row, and_true, true_and] at hF)
                  go_wp2_with (first | ((with_reducible show wpList _ _ _ ({ dst := _, op := Op.store _ _ _, type := _, pos := _, after := _, guard := _ } :: _) _ _); refine wpList_store_at rfl rfl rfl (by (try simp only [Act.eval, Array.getD_eq_getD_getElem?, List.getElem?_toArray, List.getElem?_cons_succ, List.getElem?_cons_zero, Option.getD_some]) <;> exact rfl) (by exact rfl) hA (by with_reducible repeat (first | exact Sel.here | apply Sel.there)) (by kernel_rfl) rfl (by first | decide | (simp; done) | omega) ?_; intro w1 hB; clear hF hA; have hA := hB; clear hB; (try simp only [setL, List.set_cons_zero, List.set_cons_succ, List.cons_append, List.nil_append] at hA); (have hF := hA.facts); (try simp only [facts_cons, facts_nil, facts_cells, facts_old, facts_fact, facts_obj, facts_map, facts_iter, facts_row, and_true, true_and] at hF)) | ((with_reducible show wpList _ _ _ ({ dst := _, op := Op.box _ _, type := _, pos := _, after := _, guard := _ } :: _) _ _); refine wpList_box_at rfl rfl (by (try simp only [Act.eval, Array.getD_eq_getD_getElem?, List.getElem?_toArray, List.getElem?_cons_succ, List.getElem?_cons_zero, Option.getD_some]) <;> exact rfl) (by exact rfl) hA ?_; intro b1 w1 hB hb1; clear hF hA; have hA := hB; clear hB; (try simp only [setL, List.set_cons_zero, List.set_cons_succ, List.cons_append, List.nil_append] at hA); (have hF := hA.facts); (try simp only [facts_cons, facts_nil, facts_cells, facts_old, facts_fact, facts_obj, facts_map, facts_iter, facts_row, and_true, true_and] at hF)))
                  try go_frame
                  (refine wp_region_all (Cl _ _ _) (by kernel_rfl) (by kernel_rfl) (Cl.drew hA) ?_); (have hn1 := Cl.none hA); (have hn2 := Cl.none2 hA); (repeat (first | go_big_quiet_skip | (go_big_quiet_want; (first | (refine quiet_loads_at (ty := 47) (n := 7) rfl rfl (by with_reducible repeat (first | exact Sel.here | apply Sel.there)) (by kernel_rfl) (by kernel_rfl) (by first | assumption | ((try simp only [List.drop_succ_cons, List.drop_zero, List.take_succ_cons, List.take_zero]) <;> exact rfl)) (by exact rfl) ?_; go_frame; go_big_quiet_on) | (refine quiet_load_at rfl rfl (by with_reducible repeat (first | exact Sel.here | apply Sel.there)) (by kernel_rfl) (by first | assumption | exact rfl) ?_; go_frame; go_big_quiet_on) | (go_big_quiet_op; (first | go_big_quiet_on | ((apply Exists.intro); (refine ⟨fun w1 hw => ?_, ?_⟩); (focus ((have hw := Cl.out hw); (fail))); (go_big_quiet_on))))))))
                  (refine wpQuiet_nil ?_); (intro w1 hB); (clear hF hA hn1 hn2); (have hA := Cl.out hB); (clear hB); (try simp only [setL, List.set_cons_zero, List.set_cons_succ, List.cons_append, List.nil_append] at hA); (have hF := hA.facts); (try simp only [facts_cons, facts_nil, facts_cells, facts_old, facts_fact, facts_obj, facts_map, facts_iter, facts_row, and_true, true_and] at hF)
                  go_wp2_with (first | ((with_reducible show wpList _ _ _ ({ dst := _, op := Op.store _ _ _, type := _, pos := _, after := _, guard := _ } :: _) _ _); refine wpList_store_at rfl rfl rfl (by (try simp only [Act.eval, Array.getD_eq_getD_getElem?, List.getElem?_toArray, List.getElem?_cons_succ, List.getElem?_cons_zero, Option.getD_some]) <;> exact rfl) (by exact rfl) hA (by with_reducible repeat (first | exact Sel.here | apply Sel.there)) (by kernel_rfl) rfl (by first | decide | (simp; done) | omega) ?_; intro w1 hB; clear hF hA; have hA := hB; clear hB; (try simp only [setL, List.set_cons_zero, List.set_cons_succ, List.cons_append, List.nil_append] at hA); (have hF := hA.facts); (try simp only [facts_cons, facts_nil, facts_cells, facts_old, facts_fact, facts_obj, facts_map, facts_iter, facts_row, and_true, true_and] at hF)) | ((with_reducible show wpList _ _ _ ({ dst := _, op := Op.box _ _, type := _, pos := _, after := _, guard := _ } :: _) _ _); refine wpList_box_at rfl rfl (by (try simp only [Act.eval, Array.getD_eq_getD_getElem?, List.getElem?_toArray, List.getElem?_cons_succ, List.getElem?_cons_zero, Option.getD_some]) <;> exact rfl) (by exact rfl) hA ?_; intro b1 w1 hB hb1; clear hF hA; have hA := hB; clear hB; (try simp only [setL, List.set_cons_zero, List.set_cons_succ, List.cons_append, List.nil_append] at hA); (have hF := hA.facts); (try simp only [facts_cons, facts_nil, facts_cells, facts_old, facts_fact, facts_obj, facts_map, facts_iter, facts_row, and_true, true_and] at hF)))
                  go_roundg (gk - 1)
                  case measure => omega
                  case rel => exact ⟨i + 1, false, by simp, rfl, by omega, ⟨nofun, fun h => absurd h hnx.out⟩, hA⟩
                | true =>
                  have hlm := (hqr'.out.1 rfl).1
                  have htk := (hqr'.out.1 rfl).2
                  have him : i < M.length := by omega
                  obtain ⟨ga, ca, rfl, _, am, al, atk, hB⟩ := hA.row_open (ax := vx) (cap := vc) (n := L.length) (xs := flatR L) (by with_reducible repeat (first | exact Sel.here | apply Sel.there)) (by omega)
                  clear hA
                  have hA := hB
                  clear hB
                  obtain ⟨gb, cb, rfl, _, bm, bl, btk, hB⟩ := hA.row_open (ax := ux) (cap := uc) (n := M.length) (xs := flatR M) (by with_reducible repeat (first | exact Sel.here | apply Sel.there)) (by omega)
                  clear hA
                  have hA := hB
                  clear hB
                  have hxa : L[i]? = some L[i] := List.getElem?_eq_getElem hi
                  have hxb : M[i]? = some M[i] := List.getElem?_eq_getElem him
                  have va : (ca.drop (i * 7)).take 7 = L[i].cells := take_cells SR.cells_len atk hxa
                  have vb : (cb.drop (i * 7)).take 7 = M[i].cells := take_cells SR.cells_len btk hxb
                  have hpa := Lib.hid (hI'.out.pool _ (List.getElem_mem hi))
                  have hpb := Lib.hid (hJ'.out.pool _ (List.getElem_mem him))
                  have hla := Lib.hid (hI'z.out _ (List.getElem_mem hi)).tl
                  have hnx := Lib.hid (show eqS L[i] M[i] = true ↔ L.length = M.length ∧ (L.take (i + 1)).map projS = (M.take (i + 1)).map projS from (eqS_iff _ _).trans ((take_step hi him htk).symm.trans ⟨fun h => ⟨hlm, h⟩, fun h => h.2⟩))
                  clear hxa hxb htk hlm
                  generalize L[i] = x at *
                  generalize M[i] = y at *
                  have him' : (i : Int) < (M.length : Int) := by omega
                  have hi' : (i : Int) < (L.length : Int) := by omega
                  obtain ⟨xn, xf, xo, xd, xl, xt, tx, tcc, td⟩ := x
                  obtain ⟨yn, yf, yo, yd, yl, yt, ty, tyc, tyd⟩ := y
                  unfold SR.cells at va vb
                  simp only [SR.tv] at va vb
                  have hF := hA.facts
                  (try simp only [setL, List.set_cons_zero, List.set_cons_succ, List.cons_append, List.nil_append] at hA); (have hF := hA.facts); (try simp only [facts_cons, facts_nil, facts_cells, facts_old, facts_fact, facts_obj, facts_map, facts_iter, facts_row, and_true, true_and] at hF)
                  go_wp2_with (first | ((with_reducible show wpList _ _ _ ({ dst := _, op := Op.store _ _ _, type := _, pos := _, after := _, guard := _ } :: _) _ _); refine wpList_store_at rfl rfl rfl (by (try simp only [Act.eval, Array.getD_eq_getD_getElem?, List.getElem?_toArray, List.getElem?_cons_succ, List.getElem?_cons_zero, Option.getD_some]) <;> exact rfl) (by exact rfl) hA (by with_reducible repeat (first | exact Sel.here | apply Sel.there)) (by kernel_rfl) rfl (by first | decide | (simp; done) | omega) ?_; intro w1 hB; clear hF hA; have hA := hB; clear hB; (try simp only [setL, List.set_cons_zero, List.set_cons_succ, List.cons_append, List.nil_append] at hA); (have hF := hA.facts); (try simp only [facts_cons, facts_nil, facts_cells, facts_old, facts_fact, facts_obj, facts_map, facts_iter, facts_row, and_true, true_and] at hF)) | ((with_reducible show wpList _ _ _ ({ dst := _, op := Op.box _ _, type := _, pos := _, after := _, guard := _ } :: _) _ _); refine wpList_box_at rfl rfl (by (try simp only [Act.eval, Array.getD_eq_getD_getElem?, List.getElem?_toArray, List.getElem?_cons_succ, List.getElem?_cons_zero, Option.getD_some]) <;> exact rfl) (by exact rfl) hA ?_; intro b1 w1 hB hb1; clear hF hA; have hA := hB; clear hB; (try simp only [setL, List.set_cons_zero, List.set_cons_succ, List.cons_append, List.nil_append] at hA); (have hF := hA.facts); (try simp only [facts_cons, facts_nil, facts_cells, facts_old, facts_fact, facts_obj, facts_map, facts_iter, facts_row, and_true, true_and] at hF)))
                  try go_frame
                  (refine wp_region_all (Cl _ _ _) (by kernel_rfl) (by kernel_rfl) (Cl.drew hA) ?_); (have hn1 := Cl.none hA); (have hn2 := Cl.none2 hA); (repeat (first | go_big_quiet_skip | (go_big_quiet_want; (first | (refine quiet_loads_at (ty := 47) (n := 7) rfl rfl (by with_reducible repeat (first | exact Sel.here | apply Sel.there)) (by kernel_rfl) (by kernel_rfl) (by first | assumption | ((try simp only [List.drop_succ_cons, List.drop_zero, List.take_succ_cons, List.take_zero]) <;> exact rfl)) (by exact rfl) ?_; go_frame; go_big_quiet_on) | (refine quiet_load_at rfl rfl (by with_reducible repeat (first | exact Sel.here | apply Sel.there)) (by kernel_rfl) (by first | assumption | exact rfl) ?_; go_frame; go_big_quiet_on) | (go_big_quiet_op; (first | go_big_quiet_on | ((apply Exists.intro); (refine ⟨fun w1 hw => ?_, ?_⟩); (focus ((have hw := Cl.out hw); (exact through1 hw (A := twoP PL QL) (by with_reducible repeat (first | exact Sel.here | apply Sel.there)) (fun q => equal_q (a := ⟨xn, xf, xo, xd, xl, xt, tx, tcc, td⟩) (b := ⟨yn, yf, yo, yd, yl, yt, ty, tyc, tyd⟩) q hpa.out hpb.out hla.out)))); (go_big_quiet_on))))))))
                  (refine wpQuiet_nil ?_); (intro w1 hB); (clear hF hA hn1 hn2); (have hA := Cl.out hB); (clear hB); (try simp only [setL, List.set_cons_zero, List.set_cons_succ, List.cons_append, List.nil_append] at hA); (have hF := hA.facts); (try simp only [facts_cons, facts_nil, facts_cells, facts_old, facts_fact, facts_obj, facts_map, facts_iter, facts_row, and_true, true_and] at hF)
                  go_wp2_with (first | ((with_reducible show wpList _ _ _ ({ dst := _, op := Op.store _ _ _, type := _, pos := _, after := _, guard := _ } :: _) _ _); refine wpList_store_at rfl rfl rfl (by (try simp only [Act.eval, Array.getD_eq_getD_getElem?, List.getElem?_toArray, List.getElem?_cons_succ, List.getElem?_cons_zero, Option.getD_some]) <;> exact rfl) (by exact rfl) hA (by with_reducible repeat (first | exact Sel.here | apply Sel.there)) (by kernel_rfl) rfl (by first | decide | (simp; done) | omega) ?_; intro w1 hB; clear hF hA; have hA := hB; clear hB; (try simp only [setL, List.set_cons_zero, List.set_cons_succ, List.cons_append, List.nil_append] at hA); (have hF := hA.facts); (try simp only [facts_cons, facts_nil, facts_cells, facts_old, facts_fact, facts_obj, facts_map, facts_iter, facts_row, and_true, true_and] at hF)) | ((with_reducible show wpList _ _ _ ({ dst := _, op := Op.box _ _, type := _, pos := _, after := _, guard := _ } :: _) _ _); refine wpList_box_at rfl rfl (by (try simp only [Act.eval, Array.getD_eq_getD_getElem?, List.getElem?_toArray, List.getElem?_cons_succ, List.getElem?_cons_zero, Option.getD_some]) <;> exact rfl) (by exact rfl) hA ?_; intro b1 w1 hB hb1; clear hF hA; have hA := hB; clear hB; (try simp only [setL, List.set_cons_zero, List.set_cons_succ, List.cons_append, List.nil_append] at hA); (have hF := hA.facts); (try simp only [facts_cons, facts_nil, facts_cells, facts_old, facts_fact, facts_obj, facts_map, facts_iter, facts_row, and_true, true_and] at hF)))
                  go_roundg (gk - 1)
                  case measure => omega
                  case rel =>
                    have s1 := hA.row_shut (e := 47) (size := 7) (n := L.length) (cap := vc) (xs := flatR L) (g := ga) (c := ca) (by with_reducible repeat (first | exact Sel.here | apply Sel.there)) al hcap1 am atk
                    have s2 := s1.row_shut (e := 47) (size := 7) (n := M.length) (cap := uc) (xs := flatR M) (g := gb) (c := cb) (by with_reducible repeat (first | exact Sel.here | apply Sel.there)) bl hcap2 bm btk
                    exact ⟨i + 1, _, by simp, rfl, by omega, hnx.out, s2.pick (by repeat (first | exact Picks.nil | refine Picks.cons (by repeat (first | exact Sel.here | apply Sel.there)) ?_))⟩
              · have eL : L.take i = L := List.take_of_length_le (by omega)
                have hfin : decide (l1 = l2) = q := by
                  have h1 := hqr'.out
                  rw [eL] at h1
                  rw [Bool.eq_iff_iff, decide_eq_true_iff, henc'.out, h1]
                  constructor
                  · intro h
                    have hlm : L.length = M.length := by simpa using congrArg List.length h
                    exact ⟨hlm, by rw [List.take_of_length_le (by omega)]; exact h⟩
                  · rintro ⟨hlm, h⟩
                    rwa [List.take_of_length_le (by omega)] at h
                have hfin' := Lib.hid hfin
                clear hfin eL
                have hF := hA.facts
                (try simp only [setL, List.set_cons_zero, List.set_cons_succ, List.cons_append, List.nil_append] at hA); (have hF := hA.facts); (try simp only [facts_cons, facts_nil, facts_cells, facts_old, facts_fact, facts_obj, facts_map, facts_iter, facts_row, and_true, true_and] at hF)
                go_wp2_with (first | ((with_reducible show wpList _ _ _ ({ dst := _, op := Op.store _ _ _, type := _, pos := _, after := _, guard := _ } :: _) _ _); refine wpList_store_at rfl rfl rfl (by (try simp only [Act.eval, Array.getD_eq_getD_getElem?, List.getElem?_toArray, List.getElem?_cons_succ, List.getElem?_cons_zero, Option.getD_some]) <;> exact rfl) (by exact rfl) hA (by with_reducible repeat (first | exact Sel.here | apply Sel.there)) (by kernel_rfl) rfl (by first | decide | (simp; done) | omega) ?_; intro w1 hB; clear hF hA; have hA := hB; clear hB; (try simp only [setL, List.set_cons_zero, List.set_cons_succ, List.cons_append, List.nil_append] at hA); (have hF := hA.facts); (try simp only [facts_cons, facts_nil, facts_cells, facts_old, facts_fact, facts_obj, facts_map, facts_iter, facts_row, and_true, true_and] at hF)) | ((with_reducible show wpList _ _ _ ({ dst := _, op := Op.box _ _, type := _, pos := _, after := _, guard := _ } :: _) _ _); refine wpList_box_at rfl rfl (by (try simp only [Act.eval, Array.getD_eq_getD_getElem?, List.getElem?_toArray, List.getElem?_cons_succ, List.getElem?_cons_zero, Option.getD_some]) <;> exact rfl) (by exact rfl) hA ?_; intro b1 w1 hB hb1; clear hF hA; have hA := hB; clear hB; (try simp only [setL, List.set_cons_zero, List.set_cons_succ, List.cons_append, List.nil_append] at hA); (have hF := hA.facts); (try simp only [facts_cons, facts_nil, facts_cells, facts_old, facts_fact, facts_obj, facts_map, facts_iter, facts_row, and_true, true_and] at hF)))
                refine (outBytes (b := bO) (u := u1) (l := l1) (hA.seps (by with_reducible repeat (first | exact Picks.nil | refine Picks.cons (by with_reducible repeat (first | exact Sel.here | apply Sel.there)) ?_))) hx1.out).mono ?_
                rintro e w4 ⟨z1, rfl, hT⟩
                have hB := hA.call2 (A := outC bO u1) (B := rowY u1 l1) (by with_reducible repeat (first | exact Sel.here | apply Sel.there)) (by with_reducible repeat (first | exact Sel.here | apply Sel.there)) hT
                clear hF hA hT
                have hA := hB
                clear hB
                simp only [List.cons_append, List.nil_append] at hA
                have hF := hA.facts
                (try simp only [setL, List.set_cons_zero, List.set_cons_succ, List.cons_append, List.nil_append] at hA); (have hF := hA.facts); (try simp only [facts_cons, facts_nil, facts_cells, facts_old, facts_fact, facts_obj, facts_map, facts_iter, facts_row, and_true, true_and] at hF)
                go_wp2_with (first | ((with_reducible show wpList _ _ _ ({ dst := _, op := Op.store _ _ _, type := _, pos := _, after := _, guard := _ } :: _) _ _); refine wpList_store_at rfl rfl rfl (by (try simp only [Act.eval, Array.getD_eq_getD_getElem?, List.getElem?_toArray, List.getElem?_cons_succ, List.getElem?_cons_zero, Option.getD_some]) <;> exact rfl) (by exact rfl) hA (by with_reducible repeat (first | exact Sel.here | apply Sel.there)) (by kernel_rfl) rfl (by first | decide | (simp; done) | omega) ?_; intro w1 hB; clear hF hA; have hA := hB; clear hB; (try simp only [setL, List.set_cons_zero, List.set_cons_succ, List.cons_append, List.nil_append] at hA); (have hF := hA.facts); (try simp only [facts_cons, facts_nil, facts_cells, facts_old, facts_fact, facts_obj, facts_map, facts_iter, facts_row, and_true, true_and] at hF)) | ((with_reducible show wpList _ _ _ ({ dst := _, op := Op.box _ _, type := _, pos := _, after := _, guard := _ } :: _) _ _); refine wpList_box_at rfl rfl (by (try simp only [Act.eval, Array.getD_eq_getD_getElem?, List.getElem?_toArray, List.getElem?_cons_succ, List.getElem?_cons_zero, Option.getD_some]) <;> exact rfl) (by exact rfl) hA ?_; intro b1 w1 hB hb1; clear hF hA; have hA := hB; clear hB; (try simp only [setL, List.set_cons_zero, List.set_cons_succ, List.cons_append, List.nil_append] at hA); (have hF := hA.facts); (try simp only [facts_cons, facts_nil, facts_cells, facts_old, facts_fact, facts_obj, facts_map, facts_iter, facts_row, and_true, true_and] at hF)))
                refine (outBytes (b := bQ) (u := u2) (l := l2) (hA.seps (by with_reducible repeat (first | exact Picks.nil | refine Picks.cons (by with_reducible repeat (first | exact Sel.here | apply Sel.there)) ?_))) hx2.out).mono ?_
                rintro e w5 ⟨z2, rfl, hT⟩
                have hB := hA.call2 (A := outC bQ u2) (B := rowY u2 l2) (by with_reducible repeat (first | exact Sel.here | apply Sel.there)) (by with_reducible repeat (first | exact Sel.here | apply Sel.there)) hT
                clear hF hA hT
                have hA := hB
                clear hB
                simp only [List.cons_append, List.nil_append] at hA
                have hF := hA.facts
                (try simp only [setL, List.set_cons_zero, List.set_cons_succ, List.cons_append, List.nil_append] at hA); (have hF := hA.facts); (try simp only [facts_cons, facts_nil, facts_cells, facts_old, facts_fact, facts_obj, facts_map, facts_iter, facts_row, and_true, true_and] at hF)
                go_wp2_with (first | ((with_reducible show wpList _ _ _ ({ dst := _, op := Op.store _ _ _, type := _, pos := _, after := _, guard := _ } :: _) _ _); refine wpList_store_at rfl rfl rfl (by (try simp only [Act.eval, Array.getD_eq_getD_getElem?, List.getElem?_toArray, List.getElem?_cons_succ, List.getElem?_cons_zero, Option.getD_some]) <;> exact rfl) (by exact rfl) hA (by with_reducible repeat (first | exact Sel.here | apply Sel.there)) (by kernel_rfl) rfl (by first | decide | (simp; done) | omega) ?_; intro w1 hB; clear hF hA; have hA := hB; clear hB; (try simp only [setL, List.set_cons_zero, List.set_cons_succ, List.cons_append, List.nil_append] at hA); (have hF := hA.facts); (try simp only [facts_cons, facts_nil, facts_cells, facts_old, facts_fact, facts_obj, facts_map, facts_iter, facts_row, and_true, true_and] at hF)) | ((with_reducible show wpList _ _ _ ({ dst := _, op := Op.box _ _, type := _, pos := _, after := _, guard := _ } :: _) _ _); refine wpList_box_at rfl rfl (by (try simp only [Act.eval, Array.getD_eq_getD_getElem?, List.getElem?_toArray, List.getElem?_cons_succ, List.getElem?_cons_zero, Option.getD_some]) <;> exact rfl) (by exact rfl) hA ?_; intro b1 w1 hB hb1; clear hF hA; have hA := hB; clear hB; (try simp only [setL, List.set_cons_zero, List.set_cons_succ, List.cons_append, List.nil_append] at hA); (have hF := hA.facts); (try simp only [facts_cons, facts_nil, facts_cells, facts_old, facts_fact, facts_obj, facts_map, facts_iter, facts_row, and_true, true_and] at hF)))
                refine (Wire.same_any (u := z1) (v := z2) (a := l1) (c := l2) (hA.seps (by with_reducible repeat (first | exact Picks.nil | refine Picks.cons (by with_reducible repeat (first | exact Sel.here | apply Sel.there)) ?_))) hx1.out).mono ?_
                rintro e w6 ⟨rfl, hT⟩
                have hB := hA.call2 (A := rowY z1 l1) (B := rowY z2 l2) (by with_reducible repeat (first | exact Sel.here | apply Sel.there)) (by with_reducible repeat (first | exact Sel.here | apply Sel.there)) hT
                clear hF hA hT
                have hA := hB
                clear hB
                simp only [List.cons_append, List.nil_append] at hA
                have hF := hA.facts
                (try simp only [setL, List.set_cons_zero, List.set_cons_succ, List.cons_append, List.nil_append] at hA); (have hF := hA.facts); (try simp only [facts_cons, facts_nil, facts_cells, facts_old, facts_fact, facts_obj, facts_map, facts_iter, facts_row, and_true, true_and] at hF)
                rw [hfin'.out]
                go_wp2_with (first | ((with_reducible show wpList _ _ _ ({ dst := _, op := Op.store _ _ _, type := _, pos := _, after := _, guard := _ } :: _) _ _); refine wpList_store_at rfl rfl rfl (by (try simp only [Act.eval, Array.getD_eq_getD_getElem?, List.getElem?_toArray, List.getElem?_cons_succ, List.getElem?_cons_zero, Option.getD_some]) <;> exact rfl) (by exact rfl) hA (by with_reducible repeat (first | exact Sel.here | apply Sel.there)) (by kernel_rfl) rfl (by first | decide | (simp; done) | omega) ?_; intro w1 hB; clear hF hA; have hA := hB; clear hB; (try simp only [setL, List.set_cons_zero, List.set_cons_succ, List.cons_append, List.nil_append] at hA); (have hF := hA.facts); (try simp only [facts_cons, facts_nil, facts_cells, facts_old, facts_fact, facts_obj, facts_map, facts_iter, facts_row, and_true, true_and] at hF)) | ((with_reducible show wpList _ _ _ ({ dst := _, op := Op.box _ _, type := _, pos := _, after := _, guard := _ } :: _) _ _); refine wpList_box_at rfl rfl (by (try simp only [Act.eval, Array.getD_eq_getD_getElem?, List.getElem?_toArray, List.getElem?_cons_succ, List.getElem?_cons_zero, Option.getD_some]) <;> exact rfl) (by exact rfl) hA ?_; intro b1 w1 hB hb1; clear hF hA; have hA := hB; clear hB; (try simp only [setL, List.set_cons_zero, List.set_cons_succ, List.cons_append, List.nil_append] at hA); (have hF := hA.facts); (try simp only [facts_cons, facts_nil, facts_cells, facts_old, facts_fact, facts_obj, facts_map, facts_iter, facts_row, and_true, true_and] at hF)))
                go_ret
                exact ⟨by simp, below_old hA (by with_reducible repeat (first | exact Sel.here | apply Sel.there))⟩
end Go.Proofs.Ytnkddjomanaadaa.Lease
end

section
namespace Go.Proofs.Ytnkddjomanaadaa.Lease
open Go.RowKit Go.Joins Go.ChangeShapes
set_option linter.unusedVariables false
set_option linter.unusedSimpArgs false

section
variable {H : Type} {enc : TypeId × Value → H} {W : World} {base : Nat} {spare : Nat → Bool} {held : Bool} {fuel : Nat}
theorem wf64 {n : Int} (h : (Lit.int .u64 n).wf = true) : 0 ≤ n ∧ n < big64 := by
  simp [Lit.wf, IntKind.min, IntKind.max, IntKind.signed, IntKind.bits] at h
  unfold big64
  omega
theorem wfI {n : Int} (h : (Lit.int .i64 n).wf = true) : -9223372036854775808 ≤ n ∧ n ≤ 9223372036854775807 := by
  simp [Lit.wf, IntKind.min, IntKind.max, IntKind.signed, IntKind.bits] at h
  omega
theorem bulk_mem {d : DataW H} : ∀ {l : List (DataW H)}, d ∈ l → Rows.uptoBulk d ≤ Rows.uptoBulkAll l
  | x :: l, h => by
    rw [show Rows.uptoBulkAll (x :: l) = Rows.uptoBulk x + Rows.uptoBulkAll l from by simp only [Rows.uptoBulkAll]]
    rcases List.mem_cons.1 h with rfl | h
    · omega
    · have := bulk_mem h; omega
set_option maxRecDepth 100000 in
theorem open_answer {cs : List Value} {y : DataW H × List MemPlace} (h : DataW.trod enc Try.prog W base spare held fuel 34 cs = some y) : ∃ x : Ans, cs = [.int .i64 x.e, .int .u64 x.n, .bool x.g] ∧ okA ⟨0, x.e, x.n, x.g⟩ := by
  obtain ⟨xs, n, _, _, hl, hxl, hf⟩ := DataW.trod_struct Try.underlying34 h
  have hl3 : cs.length = 3 := hl.trans (by kernel_rfl)
  have hc1 : Try.prog.cellsOf 32 = 1 := by kernel_rfl
  have hc2 : Try.prog.cellsOf 29 = 1 := by kernel_rfl
  have hc3 : Try.prog.cellsOf 4 = 1 := by kernel_rfl
  have hx3 : xs.length = 3 := hxl
  match cs, hl3, xs, hx3 with
  | [c0, c1, c2], _, [y0, y1, y2], _ =>
    have f0 : DataW.trod enc Try.prog W base spare held n 32 (([c0, c1, c2].drop 0).take (Try.prog.cellsOf 32)) = some y0 := hf 0 _ rfl
    have f1 : DataW.trod enc Try.prog W base spare held n 29 (([c0, c1, c2].drop 1).take (Try.prog.cellsOf 29)) = some y1 := hf 1 _ rfl
    have f2 : DataW.trod enc Try.prog W base spare held n 4 (([c0, c1, c2].drop 2).take (Try.prog.cellsOf 4)) = some y2 := hf 2 _ rfl
    rw [hc1] at f0
    rw [hc2] at f1
    rw [hc3] at f2
    obtain ⟨k0, e0, _, w0⟩ := DataW.trod_int Try.underlying32 f0
    obtain ⟨k1, e1, _, w1⟩ := DataW.trod_int Try.underlying29 f1
    obtain ⟨k2, e2, _⟩ := DataW.trod_bool Try.underlying4 f2
    simp at e0 e1 e2
    subst e0 e1 e2
    exact ⟨⟨k0, k1, k2⟩, rfl, wfI w0, (wf64 w1).1, (wf64 w1).2⟩
set_option maxRecDepth 100000 in
theorem open_session {cs : List Value} {y : DataW H × List MemPlace} (h : DataW.trod enc Try.prog W base spare held fuel 31 cs = some y) : ∃ n f, cs = [.int .u64 n, .string f] ∧ 0 ≤ n ∧ n < big64 ∧ f.size ≤ maxLen ∧ f.size ≤ Rows.uptoBulk y.1 := by
  obtain ⟨xs, n, _, rfl, hl, hxl, hf⟩ := DataW.trod_struct Try.underlying31 h
  have hl2 : cs.length = 2 := hl.trans (by kernel_rfl)
  have hc1 : Try.prog.cellsOf 29 = 1 := by kernel_rfl
  have hc2 : Try.prog.cellsOf 9 = 1 := by kernel_rfl
  have hx2 : xs.length = 2 := hxl
  match cs, hl2, xs, hx2 with
  | [c0, c1], _, [y0, y1], _ =>
    have f0 : DataW.trod enc Try.prog W base spare held n 29 (([c0, c1].drop 0).take (Try.prog.cellsOf 29)) = some y0 := hf 0 _ rfl
    have f1 : DataW.trod enc Try.prog W base spare held n 9 (([c0, c1].drop 1).take (Try.prog.cellsOf 9)) = some y1 := hf 1 _ rfl
    rw [hc1] at f0
    rw [hc2] at f1
    obtain ⟨k0, e0, _, w0⟩ := DataW.trod_int Try.underlying29 f0
    obtain ⟨k1, e1, g1, w1⟩ := DataW.trod_string Try.underlying9 f1
    simp at e0 e1
    subst e0 e1
    subst g1
    refine ⟨k0, k1, rfl, (wf64 w0).1, (wf64 w0).2, w1, ?_⟩
    simp only [List.map_cons, List.map_nil, Rows.uptoBulk, Rows.uptoBulkAll]
    have : k1.data.toList.length = k1.size := Array.length_toList
    omega
def opC (o : Int × OpR) : List Value := [.int .i64 o.1, .int .i64 o.2.a, .int .i64 o.2.b, .int .i64 o.2.many, .int .u64 o.2.num, .string o.2.foot, .int .u64 o.2.req, .int .i64 o.2.ans.e, .int .u64 o.2.ans.n, .bool o.2.ans.g]
set_option maxRecDepth 100000 in
theorem open_op {cs : List Value} {y : DataW H × List MemPlace} (h : DataW.trod enc Try.prog W base spare held fuel 36 cs = some y) (hb : Rows.uptoBulk y.1 ≤ 1048576) : ∃ o : Int × OpR, cs = opC o ∧ o.2.Ok := by
  obtain ⟨xs, n, _, rfl, hl, hxl, hf⟩ := DataW.trod_struct Try.underlying36 h
  have hl10 : cs.length = 10 := hl.trans (by kernel_rfl)
  have hc0 : Try.prog.cellsOf 3 = 1 := by kernel_rfl
  have hc4 : Try.prog.cellsOf 31 = 2 := by kernel_rfl
  have hc5 : Try.prog.cellsOf 29 = 1 := by kernel_rfl
  have hc6 : Try.prog.cellsOf 34 = 3 := by kernel_rfl
  have hx7 : xs.length = 7 := hxl
  match cs, hl10, xs, hx7 with
  | [c0, c1, c2, c3, c4, c5, c6, c7, c8, c9], _, [y0, y1, y2, y3, y4, y5, y6], _ =>
    have f0 : DataW.trod enc Try.prog W base spare held n 3 (([c0, c1, c2, c3, c4, c5, c6, c7, c8, c9].drop 0).take (Try.prog.cellsOf 3)) = some y0 := hf 0 _ rfl
    have f1 : DataW.trod enc Try.prog W base spare held n 3 (([c0, c1, c2, c3, c4, c5, c6, c7, c8, c9].drop 1).take (Try.prog.cellsOf 3)) = some y1 := hf 1 _ rfl
    have f2 : DataW.trod enc Try.prog W base spare held n 3 (([c0, c1, c2, c3, c4, c5, c6, c7, c8, c9].drop 2).take (Try.prog.cellsOf 3)) = some y2 := hf 2 _ rfl
    have f3 : DataW.trod enc Try.prog W base spare held n 3 (([c0, c1, c2, c3, c4, c5, c6, c7, c8, c9].drop 3).take (Try.prog.cellsOf 3)) = some y3 := hf 3 _ rfl
    have f4 : DataW.trod enc Try.prog W base spare held n 31 (([c0, c1, c2, c3, c4, c5, c6, c7, c8, c9].drop 4).take (Try.prog.cellsOf 31)) = some y4 := hf 4 _ rfl
    have f5 : DataW.trod enc Try.prog W base spare held n 29 (([c0, c1, c2, c3, c4, c5, c6, c7, c8, c9].drop 6).take (Try.prog.cellsOf 29)) = some y5 := hf 5 _ rfl
    have f6 : DataW.trod enc Try.prog W base spare held n 34 (([c0, c1, c2, c3, c4, c5, c6, c7, c8, c9].drop 7).take (Try.prog.cellsOf 34)) = some y6 := hf 6 _ rfl
    rw [hc0] at f0
    rw [hc0] at f1
    rw [hc0] at f2
    rw [hc0] at f3
    rw [hc4] at f4
    rw [hc5] at f5
    rw [hc6] at f6
    obtain ⟨k0, e0, _, _⟩ := DataW.trod_int Try.underlying3 f0
    obtain ⟨k1, e1, _, _⟩ := DataW.trod_int Try.underlying3 f1
    obtain ⟨k2, e2, _, _⟩ := DataW.trod_int Try.underlying3 f2
    obtain ⟨k3, e3, _, _⟩ := DataW.trod_int Try.underlying3 f3
    obtain ⟨k4, k5, e4, b0, b1, b2, b3⟩ := open_session f4
    simp only [List.map_cons, List.map_nil, Rows.uptoBulk, Rows.uptoBulkAll] at hb
    obtain ⟨k6, e6, _, w6⟩ := DataW.trod_int Try.underlying29 f5
    obtain ⟨k7, e7, w7⟩ := open_answer f6
    simp at e0 e1 e2 e3 e4 e6 e7
    obtain ⟨e4, e5⟩ := e4
    obtain ⟨e7, e8, e9⟩ := e7
    subst e0 e1 e2 e3 e4 e5 e6 e7 e8 e9
    exact ⟨(k0, ⟨k1, k2, k3, k4, k5, k6, k7⟩), rfl, ⟨b0, b1, b2, (by show k5.size ≤ _; omega), w7, (wf64 w6).1, (wf64 w6).2⟩⟩
theorem open_ops {v : Value} {y : DataW H × List MemPlace} (hsp : ∀ b, spare b = true) (h : DataW.trod enc Try.prog W base spare held fuel 22 [v] = some y) (hb : Rows.uptoBulk y.1 ≤ 1048576) : ∃ os : List (Int × OpR), OpsAt W v os ∧ os.length ≤ 9223372036854775807 := by
  rcases Go.Deep.open_slice Try.underlying22 h with ⟨hcs, _⟩ | ⟨a, len, cap, m, n, D, Pl, hcs, _, hl, hm, hmm, rfl, hel⟩
  · simp at hcs
    subst hcs
    exact ⟨[], ⟨none, 0, rfl, fun j hj => absurd hj (Nat.not_lt_zero _)⟩, by simp⟩
  · simp at hcs
    subst hcs
    have hco : Try.prog.cellsOf 36 = 10 := by kernel_rfl
    rw [hco] at hel
    simp only [Rows.uptoBulk] at hb
    have hall : ∀ i, i < len → ∃ o : Int × OpR, W.cells? base (a.add (i * 10)) 10 = some (opC o) ∧ o.2.Ok := fun i hi => by
      obtain ⟨cs', h1, h2⟩ := hel i (by rw [hmm, hsp, if_pos rfl]; omega)
      have hbi := bulk_mem (d := D i) (List.mem_map.2 ⟨i, List.mem_range.2 hi, rfl⟩ : D i ∈ (List.range len).map D)
      obtain ⟨o, rfl, h3⟩ := open_op h2 (by show Rows.uptoBulk (D i) ≤ _; omega)
      exact ⟨o, h1, h3⟩
    obtain ⟨f, hf⟩ := @Go.Deep.choose_lt (Int × OpR) ⟨(0, ⟨0, 0, 0, 0, .empty, 0, ⟨0, 0, false⟩⟩)⟩ len _ hall
    have hlen : ((List.range len).map f).length = len := by simp
    refine ⟨(List.range len).map f, ⟨some a, cap, by rw [hlen], fun j hj => ?_⟩, by rw [hlen]; unfold maxLen at hm; omega⟩
    rw [hlen] at hj
    obtain ⟨hc, h3⟩ := hf j hj
    have hget : ((List.range len).map f)[j]'(by rw [hlen]; exact hj) = f j := by simp
    rw [hget]
    obtain ⟨h4, h5, h6⟩ := World.cells?_some hc
    have hz := (World.cells?_some (hf 0 (by omega)).1).2.2 0 (by omega)
    obtain ⟨b, off, sp⟩ := a
    have hsn : sp = none := by
      have := congrArg Addr.spot (spot_none hz)
      simpa [Addr.add] using this
    subst hsn
    have hcell : ∀ t u, t < 10 → (opC (f j))[t]? = some u → W.cell? ⟨b, off + j * 10 + t, none⟩ = some u := fun t u ht hu => by
      have := h6 t ht
      rw [Addr.add_lit, Addr.add_lit, hu] at this
      exact this
    exact ⟨b, off, rfl, ⟨hcell 0 _ (by omega) rfl, hcell 1 _ (by omega) rfl, hcell 2 _ (by omega) rfl, hcell 3 _ (by omega) rfl, hcell 4 _ (by omega) rfl, hcell 5 _ (by omega) rfl, hcell 6 _ (by omega) rfl, hcell 7 _ (by omega) rfl, hcell 8 _ (by omega) rfl, hcell 9 _ (by omega) rfl⟩, h3⟩
end
end Go.Proofs.Ytnkddjomanaadaa.Lease
end
