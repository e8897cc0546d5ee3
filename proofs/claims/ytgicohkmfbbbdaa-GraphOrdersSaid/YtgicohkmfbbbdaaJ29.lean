/- GraO, RefO, joined. -/
import Derived.Test.YtgicohkmfbbbdaaJ10
import Derived.Test.YtgicohkmfbbbdaaJ6
import Derived.Test.YtgicohkmfbbbdaaJ11
import Derived.Deep.LoopGhost
import Derived.Test.YtgicohkmfbbbdaaJ25
import Derived.Test.YtgicohkmfbbbdaaJ22
section
namespace Go.Proofs.Ytgicohkmfbbbdaa.Gr
open _root_.Go.Proofs.Ytgicohkmfbbbdaa.Mark (sortID ltID)
open Go.RowKit
open Go.Maps (Keyed)
open Attr (A8 rightI thro)
set_option linter.unusedSimpArgs false
set_option linter.unusedVariables false
attribute [-go_sem] run_eql_struct run_neq_struct run_eqGuard_agg

def RelMissing (w : World) (p m ms bF bI : Nat) (es : List (I2 × A8)) (f : F7) (r0 t0 : Int) (k : Nat) (u v : Value) (wr : World) : Prop :=
  ∃ (i : Nat) (todo : List I2), u = .int .i64 i ∧ i + k = 2 + 7 * es.length ∧ Bfs es f (r0, t0) todo i ∧ At [GrP p m es] w [rowI2 v todo, mapC ms (seenE todo), GrP p m es, Part.cells bF f.cells 24, Part.cells bI [.int .i64 r0, .int .i64 t0] 38] wr
def RelIMissing (w : World) (p m ms bF bI : Nat) (es : List (I2 × A8)) (f : F7) (r0 t0 : Int) (i : Nat) (x : I2) (vl : Value) (ls : List I2) (k : Nat) (u v : Value) (wr : World) : Prop :=
  ∃ (j : Nat) (todo : List I2), u = .int .i64 j ∧ j + k = ls.length ∧ Bfs es f (r0, t0) todo i ∧ i < todo.length ∧ todo[i]? = some x ∧ (∀ z ∈ ls.take j, z ∈ todo) ∧ At [GrP p m es] w [rowI2 v todo, rowI2 vl ls, mapC ms (seenE todo), GrP p m es, Part.cells bF f.cells 24, Part.cells bI [.int .i64 r0, .int .i64 t0] 38] wr
def MissPost (p m : Nat) (es : List (I2 × A8)) (f : F7) (x : I2) (w : World) (e : Ending) (w' : World) : Prop :=
  ∃ l v, e = .returned v ∧ MissIs es f x l ∧ At [GrP p m es] w [rowI2 v l, GrP p m es] w'
set_option maxRecDepth 100000 in
set_option maxHeartbeats 4000000 in
theorem missing_any {w : World} {p m : Nat} {es : List (I2 × A8)} (h : Sep [GrP p m es] w) (f : F7) (x : I2) (hx : okD x) (hd : Deps es) (hn : es.length ≤ 1000) :
    Calls Try.prog 31 #[.pointer (some ⟨p, 0, none⟩), f.val, idV x] w (MissPost p m es f x w) := by
  obtain ⟨i0, hi0, hz0, hz1, hz2⟩ := info_parts infoI
  have hm : Try.prog.follows .mixedOrders = true := by kernel_rfl
  have hA := At.start h
  have hF := hA.facts
  obtain ⟨kl0, hk0⟩ := keyI hx
  have hd0 := Lib.hid hd
  have hok0 := Lib.hid hx
  clear h hx hd
  obtain ⟨r0, t0⟩ := x
  simp only [F7.val, idV] at *
  (try simp only [uA] at hA); have hF := hA.facts; (try simp only [fA, facts_row, and_true, true_and] at hF)
  go_enter Try.func31, Try.ntmps31
  go_wp2_with (first | ((with_reducible refine gbx ?_); refine wX 38 (.agg #[.int .i64 r0, .int .i64 t0]) [.int .i64 r0, .int .i64 t0] hA ?_; clear hF hA; intro bI w1 hA hbI; (try simp only [uA] at hA); have hF := hA.facts; (try simp only [fA, facts_row, and_true, true_and] at hF)) | ((with_reducible refine gbx ?_); refine wX 24 (.agg #[.int .i64 f.f0, .int .i64 f.f1, .int .i64 f.f2, .int .i64 f.f3, .int .i64 f.f4, .int .i64 f.f5, .int .i64 f.f6]) [.int .i64 f.f0, .int .i64 f.f1, .int .i64 f.f2, .int .i64 f.f3, .int .i64 f.f4, .int .i64 f.f5, .int .i64 f.f6] hA ?_; clear hF hA; intro bF w1 hA hbF; (try simp only [uA] at hA); have hF := hA.facts; (try simp only [fA, facts_row, and_true, true_and] at hF)) | ((with_reducible refine gmm ?_); refine wpList_makeMap_at Try.prog 38 rfl rfl hA ?_; intro ms w1 hB hms; clear hF hA; have hA := hB; clear hB; (try simp only [uA] at hA); have hF := hA.facts; (try simp only [fA, facts_row, and_true, true_and] at hF)) | (with_reducible refine gin ?_); refine wpList_insert_new_at (b := ms) (key := .agg #[.int .i64 r0, .int .i64 t0]) (val := .int .i64 1) (es := []) rfl rfl (by (try simp only [Act.eval, eV]) <;> exact rfl) (by (try simp only [Act.eval, eV]) <;> exact rfl) (by (try simp only [Act.eval, eV]) <;> exact rfl) hA (by with_reducible repeat (first | exact Sel.here | apply Sel.there)) lawI Try.underlying85 hk0 nofun ?_; intro w1 hB; clear hF hA; have hA := hB; clear hB; (try simp only [uA] at hA); have hF := hA.facts; (try simp only [fA, facts_row, and_true, true_and] at hF) | ((with_reducible show wpList _ _ _ ({ dst := _, op := Op.buildSlice _ _ _, type := _, pos := _, after := _, guard := _ } :: _) _ _); refine wpList_one_at (e := 38) (vs := idL (r0, t0)) rfl rfl (by (try simp only [Act.eval, eV]) <;> exact rfl) (fun _ => by kernel_rfl) hA ?_; intro b20 w1 hB hb20; clear hF hA; have hA := hB; clear hB; (try simp only [uA] at hA); have hF := hA.facts; (try simp only [fA, facts_row, and_true, true_and] at hF)) | ((with_reducible refine gst ?_); refine wS hA ?_; clear hF hA; intro w1 hA; (try simp only [uA] at hA); have hF := hA.facts; (try simp only [fA, facts_row, and_true, true_and] at hF)) | ((with_reducible refine gbx ?_); refine wB hA ?_; clear hF hA; intro b1 w1 hA hb1; (try simp only [uA] at hA); have hF := hA.facts; (try simp only [fA, facts_row, and_true, true_and] at hF)))
  have hB := hA.row_shut (n := 1) (cap := 1) (size := 2) (g := b20) (c := idL (r0, t0)) (xs := flatI [(r0, t0)]) (by repeat (first | exact Sel.here | apply Sel.there)) rfl (by omega) (by unfold maxLen; omega) rfl
  clear hF hA
  have hA := hB
  clear hB
  go_loopg [9, 8] (2 + 7 * es.length) (RelMissing w p m ms bF bI es f r0 t0)
  case atStart => exact ⟨0, [(r0, t0)], rfl, by omega, bfs_start es f (r0, t0), hA.pick (by repeat (first | exact Picks.nil | refine Picks.cons (by repeat (first | exact Sel.here | apply Sel.there)) ?_))⟩
  case round =>
    obtain ⟨i, todo, rfl, hik, hbf, hB⟩ := hrel
    have hbf' := Lib.hid hbf
    have hlen := reach_len hbf.nd hbf.reach
    clear hF hA hbf
    have hA := hB
    clear hB
    obtain ⟨ax, cap, hv9, hax, hcp, _⟩ := hA.row_form .here
    have hax' := Lib.hid hax
    subst hv9
    clear hax
    by_cases hi : i < todo.length
    · skip
      obtain ⟨x, hxi⟩ : ∃ x, todo[i]? = some x := ⟨_, List.getElem?_eq_getElem hi⟩
      have hxi' := Lib.hid hxi
      have hxo := hbf'.out.reach x (List.mem_of_getElem? hxi)
      have hxk := hxo.ok hd0.out hok0.out
      have hxk' := Lib.hid hxk
      have hxr := Lib.hid hxo
      have hha := fun (w1 : World) (q : Sep [GrP p m es] w1) => has_any q x hxk
      have hle := fun (w1 : World) (q : Sep [GrP p m es] w1) => leads_any q f x hxk (fun a ha => hd0.out x a ha)
      have hl7 := leadsG_len es f x
      have hrr := row_elem (hA.row_reads (v := .slice ax todo.length cap) (n := todo.length) (xs := flatI todo) .here) hxi
      clear hxi hxo hxk
      obtain ⟨ls, hls⟩ : ∃ z, leadsG es f x = z := ⟨_, rfl⟩
      have hls' := Lib.hid hls
      rw [hls] at hle hl7
      clear hls
      obtain ⟨kn, hkn⟩ : ∃ z, (getA es x).isSome = z := ⟨_, rfl⟩
      have hkn2 := Lib.hid hkn
      rw [hkn] at hha
      clear hkn
      obtain ⟨r1, t1⟩ := x
      simp only [idV, F7.val] at hha hle
      obtain ⟨bt, offt, hax2, hce⟩ := hrr
      have hr2' := Lib.hid (show ∀ (k : Nat) u, ([.int .i64 r1, .int .i64 t1] : List Value)[k]? = some u → wr.cell? ⟨bt, offt + i * 2 + k, none⟩ = some u from hce)
      clear hce
      subst hax2
      have hF := hA.facts
      (try simp only [uA] at hA); have hF := hA.facts; (try simp only [fA, facts_row, and_true, true_and] at hF)
      go_wp2_with (first | ((with_reducible refine gst ?_); refine wS hA ?_; clear hF hA; intro w1 hA; (try simp only [uA] at hA); have hF := hA.facts; (try simp only [fA, facts_row, and_true, true_and] at hF)) | ((with_reducible refine gbx ?_); refine wB hA ?_; clear hF hA; intro b1 w1 hA hb1; (try simp only [uA] at hA); have hF := hA.facts; (try simp only [fA, facts_row, and_true, true_and] at hF)))
      clear hha hr2'
      try go_frame
      clear hF
      obtain ⟨g, c, hg1, hc1, hc2, hc3, hc4, hB⟩ := hA.row_open (ax := some ⟨bt, offt, none⟩) (cap := cap) (n := todo.length) (xs := flatI todo) (by repeat (first | exact Sel.here | apply Sel.there)) (by omega)
      cases hg1
      clear hA
      have hA := hB.drew
      clear hB
      have helt := elem2 hc4 hxi'.out
      refine wp_region_held (S := fun w' => BlockIs w' bF f.cells 24 ∧ BlockIs w' bt c 38) hm ?_
      change wpAnyH _ _ _ _ _ 9 _ _ (World.drew _)
      generalize World.drew _ = w2 at *
      have hS0 : BlockIs w2 bF f.cells 24 ∧ BlockIs w2 bt c 38 := ⟨hA.get (A := Part.cells bF f.cells 24) (by repeat (first | exact Sel.here | apply Sel.there)), hA.get (A := Part.cells bt c 38) (by repeat (first | exact Sel.here | apply Sel.there))⟩
      refine wpAnyH_takeD (i := 0) (d := some 23) (v := .pointer (some ⟨p, 0, none⟩)) rfl rfl (by kernel_rfl) (by kernel_rfl) (by kernel_rfl) (fun _ _ _ h => h) rfl (fun w' hS => by simp [execOp, go_sem, Act.eval, Act.put]) hS0 ?_
      go_frame
      refine wpAnyH_takeD (i := 1) (d := some 24) (v := .agg #[.int .i64 f.f0, .int .i64 f.f1, .int .i64 f.f2, .int .i64 f.f3, .int .i64 f.f4, .int .i64 f.f5, .int .i64 f.f6]) rfl rfl (by kernel_rfl) (by kernel_rfl) (by kernel_rfl) (fun _ _ _ h => h) rfl (fun w' hS => run_load_row (ty := 24) (n := 7) rfl (by exact rfl) hS.1 (by kernel_rfl) (by kernel_rfl) rfl rfl) hS0 ?_
      go_frame
      refine wpAnyH_takeD (i := 2) (d := some 25) (v := .slice (some ⟨bt, 0, none⟩) todo.length cap) rfl rfl (by kernel_rfl) (by kernel_rfl) (by kernel_rfl) (fun _ _ _ h => h) rfl (fun w' hS => by simp [execOp, go_sem, Act.eval, Act.put]) hS0 ?_
      go_frame
      refine wpAnyH_takeD (i := 3) (d := some 26) (v := .int .i64 i) rfl rfl (by kernel_rfl) (by kernel_rfl) (by kernel_rfl) (fun _ _ _ h => h) rfl (fun w' hS => by simp [execOp, go_sem, Act.eval, Act.put]) hS0 ?_
      go_frame
      refine wpAnyH_takeD (i := 4) (d := some 27) (v := .pointer (some ⟨bt, i * 2, none⟩)) rfl rfl (by kernel_rfl) (by kernel_rfl) (by kernel_rfl) (fun _ _ _ h => h) rfl (fun w' hS => by simp [execOp, go_sem, Act.eval, Act.put]; intro h; omega) hS0 ?_
      go_frame
      refine wpAnyH_takeD (i := 5) (d := some 28) (v := .agg #[.int .i64 r1, .int .i64 t1]) rfl rfl (by kernel_rfl) (by kernel_rfl) (by kernel_rfl) (fun _ _ _ h => h) rfl (fun w' hS => run_load_row (ty := 38) (n := 2) (b := bt) (j := i * 2) rfl (by exact rfl) hS.2 (by kernel_rfl) (by kernel_rfl) helt rfl) hS0 ?_
      go_frame
      refine wpAnyH_takeD (i := 8) (d := some 31) (v := .int .i64 0) rfl rfl (by kernel_rfl) (by kernel_rfl) (by kernel_rfl) (fun _ _ _ h => h) rfl (fun w' hS => by simp [execOp, go_sem, Act.eval, Act.put]) hS0 ?_
      go_frame
      refine wpAnyH_one (i := 6) (by kernel_rfl) ?_
      refine opCall_at (i := 6) (d := some 29) (R := fun u w' => At [GrP p m es] w2 [rowI2 u ls, GrP p m es] w') rfl rfl (by kernel_rfl) (fn := 20) (args := #[.pointer (some ⟨p, 0, none⟩), .agg #[.int .i64 f.f0, .int .i64 f.f1, .int .i64 f.f2, .int .i64 f.f3, .int .i64 f.f4, .int .i64 f.f5, .int .i64 f.f6], .agg #[.int .i64 r1, .int .i64 t1]]) (by simp [execOp, go_sem, Act.eval, Act.put]) ((hle _ (hA.sep1 (A := GrP p m es) (by repeat (first | exact Sel.here | apply Sel.there)))).mono fun e w' ⟨v, he, hT⟩ => ⟨v, he, hT⟩) ?_
      intro vl w3 hT
      have hB := hA.call1 (A := GrP p m es) (by repeat (first | exact Sel.here | apply Sel.there)) hT
      clear hA hT hle
      have hA := hB
      clear hB
      simp only [List.cons_append, List.nil_append] at hA
      obtain ⟨axl, capl, hvl, haxl, hcpl, _⟩ := hA.row_form .here
      have haxl' := Lib.hid haxl
      subst hvl
      clear haxl
      have hS1 : BlockIs w3 bF f.cells 24 ∧ BlockIs w3 bt c 38 := ⟨hA.get (A := Part.cells bF f.cells 24) (by repeat (first | exact Sel.here | apply Sel.there)), hA.get (A := Part.cells bt c 38) (by repeat (first | exact Sel.here | apply Sel.there))⟩
      refine ⟨hS1, ?_⟩
      try go_frame
      refine wpAnyH_takeD (i := 7) (d := some 30) (v := .int .i64 ls.length) rfl rfl (by kernel_rfl) (by kernel_rfl) (by kernel_rfl) (fun _ _ _ h => h) rfl (fun w' hS => by simp [execOp, go_sem, Act.eval, Act.put]) hS1 ?_
      go_frame
      refine wpAnyH_done (by kernel_rfl) ?_ _
      try go_frame
      clear hS0 hS1
      have hB := hA.row_shut (n := todo.length) (cap := cap) (size := 2) (g := bt) (c := c) (xs := flatI todo) (by repeat (first | exact Sel.here | apply Sel.there)) hc3 hc1 hc2 hc4
      clear hA
      have hA := hB
      clear hB hc1 hc2 hc3 hc4 helt c
      have hF := hA.facts
      (try simp only [uA] at hA); have hF := hA.facts; (try simp only [fA, facts_row, and_true, true_and] at hF)
      go_wp2_with (first | ((with_reducible refine gst ?_); refine wS hA ?_; clear hF hA; intro w1 hA; (try simp only [uA] at hA); have hF := hA.facts; (try simp only [fA, facts_row, and_true, true_and] at hF)) | ((with_reducible refine gbx ?_); refine wB hA ?_; clear hF hA; intro b1 w1 hA hb1; (try simp only [uA] at hA); have hF := hA.facts; (try simp only [fA, facts_row, and_true, true_and] at hF)))
      have hik' : i + (gk - 1) + 1 = 2 + 7 * es.length ∧ 0 < gk := by omega
      have hikh := Lib.hid hik'
      obtain ⟨G, hG⟩ : ∃ G, G = gk - 1 := ⟨_, rfl⟩
      have hGk : gk = G + 1 := by omega
      subst hGk
      have hikG : i + 1 + G = 2 + 7 * es.length := by omega
      clear hik hik' hikh hG
      try simp only [Nat.zero_add]
      go_loopg [31, 8] ls.length (RelIMissing w p m ms bF bI es f r0 t0 i (r1, t1) (.slice axl ls.length capl) ls)
      case atStart => exact ⟨0, todo, rfl, by simp, hbf'.out, hi, hxi'.out, nofun, hA.pick (by repeat (first | exact Picks.nil | refine Picks.cons (by repeat (first | exact Sel.here | apply Sel.there)) ?_))⟩
      case round =>
        clear hlen hcp hi hxi' hbf'
        have hax0 := hax'
        clear hax' hax0
        obtain ⟨j, todo, rfl, hjk, hbf, hi, hxi, hsub, hB⟩ := hrel
        have hbf' := Lib.hid hbf
        have hsub' := Lib.hid hsub
        have hxi' := Lib.hid hxi
        have hlen := reach_len hbf.nd hbf.reach
        clear hA hbf hsub hxi
        have hA := hB
        clear hB
        obtain ⟨ax, cap, hv9, hax, hcp, _⟩ := hA.row_form .here
        have hax' := Lib.hid hax
        subst hv9
        clear hax
        by_cases hj : j < ls.length
        · skip
          obtain ⟨y, hyj⟩ : ∃ y, ls[j]? = some y := ⟨_, List.getElem?_eq_getElem hj⟩
          have hyj' := Lib.hid hyj
          have hyl : y ∈ leadsG es f (r1, t1) := by rw [hls'.out]; exact List.mem_of_getElem? hyj
          have hyl' := Lib.hid hyl
          have hyk := leadsG_ok hd0.out hyl
          obtain ⟨kl1, hk1⟩ := keyI hyk
          have hrr := row_elem (hA.row_reads (v := .slice axl ls.length capl) (n := ls.length) (xs := flatI ls) (by repeat (first | exact Sel.here | apply Sel.there))) hyj
          clear hyj hyl hyk
          have hnx := Lib.hid (show ∀ z ∈ ls.take (j + 1), z ∈ ls.take j ∨ z = y from fun z hz => by rw [List.take_add_one, hyj'.out] at hz; simpa using hz)
          obtain ⟨r2, t2⟩ := y
          obtain ⟨bt2, offt2, hax3, hce⟩ := hrr
          have hr2' := Lib.hid (show ∀ (k : Nat) u, ([.int .i64 r2, .int .i64 t2] : List Value)[k]? = some u → wr.cell? ⟨bt2, offt2 + j * 2 + k, none⟩ = some u from hce)
          clear hce
          subst hax3
          simp only [idV] at hk1
          have hF := hA.facts
          (try simp only [uA] at hA); have hF := hA.facts; (try simp only [fA, facts_row, and_true, true_and] at hF)
          by_cases hmem : (r2, t2) ∈ todo
          · have hmem' := Lib.hid hmem
            clear hmem
            go_wp2_with (first | ((with_reducible refine gal ?_); refine wA 38 (.agg #[.int .i64 0, .int .i64 0]) [.int .i64 0, .int .i64 0] hA ?_; clear hF hA; intro b12 w1 hA hb12; (try simp only [uA] at hA); have hF := hA.facts; (try simp only [fA, facts_row, and_true, true_and] at hF)) | ((with_reducible show wpList _ _ _ ({ dst := some 34, op := Op.load _ _, type := _, pos := _, after := _, guard := _ } :: _) _ _); refine wpList_loadRow_at (vs := [.int .i64 r2, .int .i64 t2]) rfl rfl (by (try simp only [Act.eval, eV]) <;> exact rfl) hr2'.out (by kernel_rfl) (by kernel_rfl) ?_) | ((with_reducible refine glk ?_); refine wpList_look1_some_at (b := ms) rfl rfl (by (try simp only [Act.eval, eV]) <;> exact rfl) (key := .agg #[.int .i64 r2, .int .i64 t2]) (by (try simp only [Act.eval, eV]) <;> exact rfl) hA (k := 38) (es := seenE todo) (v := .int .i64 1) (by with_reducible repeat (first | exact Sel.here | apply Sel.there)) lawI Try.underlying85 hk1 (seen_yes hmem'.out) ?_) | ((with_reducible refine gst ?_); refine wS hA ?_; clear hF hA; intro w1 hA; (try simp only [uA] at hA); have hF := hA.facts; (try simp only [fA, facts_row, and_true, true_and] at hF)) | ((with_reducible refine gbx ?_); refine wB hA ?_; clear hF hA; intro b1 w1 hA hb1; (try simp only [uA] at hA); have hF := hA.facts; (try simp only [fA, facts_row, and_true, true_and] at hF)))
            go_roundg (gk - 1)
            case measure => omega
            case rel => exact ⟨j + 1, todo, by simp, by omega, hbf'.out, hi, hxi'.out, fun z hz => (hnx.out z hz).elim (hsub'.out z) (fun q => by rw [q]; exact hmem'.out), hA.pick (by repeat (first | exact Picks.nil | refine Picks.cons (by repeat (first | exact Sel.here | apply Sel.there)) ?_))⟩
          · have hni := Lib.hid hmem
            clear hmem
            go_wp2_with (first | ((with_reducible refine gal ?_); refine wA 38 (.agg #[.int .i64 0, .int .i64 0]) [.int .i64 0, .int .i64 0] hA ?_; clear hF hA; intro b12 w1 hA hb12; (try simp only [uA] at hA); have hF := hA.facts; (try simp only [fA, facts_row, and_true, true_and] at hF)) | ((with_reducible show wpList _ _ _ ({ dst := some 34, op := Op.load _ _, type := _, pos := _, after := _, guard := _ } :: _) _ _); refine wpList_loadRow_at (vs := [.int .i64 r2, .int .i64 t2]) rfl rfl (by (try simp only [Act.eval, eV]) <;> exact rfl) hr2'.out (by kernel_rfl) (by kernel_rfl) ?_) | ((with_reducible refine glk ?_); refine wpList_look1_none_at (b := ms) rfl rfl (by (try simp only [Act.eval, eV]) <;> exact rfl) (key := .agg #[.int .i64 r2, .int .i64 t2]) (by (try simp only [Act.eval, eV]) <;> exact rfl) hA (k := 38) (es := seenE todo) (z := .int .i64 0) (by with_reducible repeat (first | exact Sel.here | apply Sel.there)) lawI Try.underlying85 hk1 (seen_no hni.out) (fun _ => by kernel_rfl) ?_) | ((with_reducible refine gmu ?_); refine wpList_put_new_at (b := ms) (key := .agg #[.int .i64 r2, .int .i64 t2]) (val := .int .i64 1) (es := seenE todo) rfl rfl (by (try simp only [Act.eval, eV]) <;> exact rfl) (by (try simp only [Act.eval, eV]) <;> exact rfl) (by (try simp only [Act.eval, eV]) <;> exact rfl) hA (by with_reducible repeat (first | exact Sel.here | apply Sel.there)) lawI Try.underlying85 hk1 (seen_no hni.out) ?_; intro w1 hB; have hsn := seen_snoc todo (r2, t2); simp only [idV] at hsn; rw [hsn] at hB; clear hsn hF hA; have hA := hB; clear hB; (try simp only [uA] at hA); have hF := hA.facts; (try simp only [fA, facts_row, and_true, true_and] at hF)) | ((with_reducible show wpList _ _ _ ({ dst := _, op := Op.buildSlice _ _ _, type := _, pos := _, after := _, guard := _ } :: _) _ _); refine wpList_one_at (e := 38) (vs := idL (r2, t2)) rfl rfl (by (try simp only [Act.eval, eV]) <;> exact rfl) (fun _ => by kernel_rfl) hA ?_; intro b54 w1 hB hb54; clear hF hA; have hA := hB; clear hB; (try simp only [uA] at hA); have hF := hA.facts; (try simp only [fA, facts_row, and_true, true_and] at hF)) | ((with_reducible show wpList _ _ _ ({ dst := _, op := Op.call { callee := Callee.builtin Builtin.append, args := _, argTypes := _ }, type := _, pos := _, after := _, guard := _ } :: _) _ _); refine wpList_append_at (e := 38) (size := 2) (v := .slice ax todo.length cap) (xs := flatI todo) (n := todo.length) (m := 1) (news := idL (r2, t2)) rfl _ _ 31 rfl Try.underlying31 hi0 hz0 hz1 hz2 rfl (by omega) hA (by with_reducible repeat (first | exact Sel.here | apply Sel.there)) (by (try simp only [Act.eval, eV]) <;> exact rfl) (by (try simp only [Act.eval, eV]) <;> exact rfl) rfl (hA.cells_reads (by with_reducible repeat (first | exact Sel.here | apply Sel.there)) _ _) (idL_one _) (by unfold maxLen; omega) (by omega) ?_; intro v1 w1 hB; rw [rowI2_snoc] at hB; clear hF hA; have hA := hB; clear hB; (try simp only [uA] at hA); have hF := hA.facts; (try simp only [fA, facts_row, and_true, true_and] at hF)) | ((with_reducible refine gst ?_); refine wS hA ?_; clear hF hA; intro w1 hA; (try simp only [uA] at hA); have hF := hA.facts; (try simp only [fA, facts_row, and_true, true_and] at hF)) | ((with_reducible refine gbx ?_); refine wB hA ?_; clear hF hA; intro b1 w1 hA hb1; (try simp only [uA] at hA); have hF := hA.facts; (try simp only [fA, facts_row, and_true, true_and] at hF)))
            go_roundg (gk - 1)
            case measure => omega
            case rel => exact ⟨j + 1, todo ++ [(r2, t2)], by simp, by omega, bfs_new hbf'.out (by omega) (List.mem_of_getElem? hxi'.out) hyl'.out hni.out, by simp; omega, by rw [List.getElem?_append_left hi]; exact hxi'.out, fun z hz => (hnx.out z hz).elim (fun q => List.mem_append_left _ (hsub'.out z q)) (fun q => by simp [q]), hA.pick (by repeat (first | exact Picks.nil | refine Picks.cons (by repeat (first | exact Sel.here | apply Sel.there)) ?_))⟩
        · have hbn := bfs_next hbf'.out hxi'.out (fun z hz => hsub'.out z (by rw [hls'.out] at hz; rw [List.take_of_length_le (by omega)]; exact hz))
          have hbn' := Lib.hid hbn
          clear hbn
          have hF := hA.facts
          (try simp only [uA] at hA); have hF := hA.facts; (try simp only [fA, facts_row, and_true, true_and] at hF)
          go_wp2_with (first | ((with_reducible refine gst ?_); refine wS hA ?_; clear hF hA; intro w1 hA; (try simp only [uA] at hA); have hF := hA.facts; (try simp only [fA, facts_row, and_true, true_and] at hF)) | ((with_reducible refine gbx ?_); refine wB hA ?_; clear hF hA; intro b1 w1 hA hb1; (try simp only [uA] at hA); have hF := hA.facts; (try simp only [fA, facts_row, and_true, true_and] at hF)))
          go_roundg G
          case measure => omega
          case rel => exact ⟨i + 1, todo, by simp, by omega, hbn'.out, hA.pick (by repeat (first | exact Picks.nil | refine Picks.cons (by repeat (first | exact Sel.here | apply Sel.there)) ?_))⟩
    · have hall := Lib.hid (bfs_all hbf'.out (by omega))
      have hF := hA.facts
      (try simp only [uA] at hA); have hF := hA.facts; (try simp only [fA, facts_row, and_true, true_and] at hF)
      have hok := Lib.hid (fun z (hz : z ∈ todo) => (hbf'.out.reach z hz).ok hd0.out hok0.out)
      go_wp2_with (first | ((with_reducible refine gst ?_); refine wS hA ?_; clear hF hA; intro w1 hA; (try simp only [uA] at hA); have hF := hA.facts; (try simp only [fA, facts_row, and_true, true_and] at hF)) | ((with_reducible refine gbx ?_); refine wB hA ?_; clear hF hA; intro b1 w1 hA hb1; (try simp only [uA] at hA); have hF := hA.facts; (try simp only [fA, facts_row, and_true, true_and] at hF)))
      refine (delf_has (hA.sep2 (A := rowI2 (.slice ax todo.length cap) todo) (B := GrP p m es) (by repeat (first | exact Sel.here | apply Sel.there)) (by repeat (first | exact Sel.here | apply Sel.there))) hok.out (by omega)).mono ?_
      rintro e w1 ⟨v2, rfl, hT⟩
      have hB := hA.call2 (A := rowI2 (.slice ax todo.length cap) todo) (B := GrP p m es) (by repeat (first | exact Sel.here | apply Sel.there)) (by repeat (first | exact Sel.here | apply Sel.there)) hT
      clear hF hA hT
      have hA := hB
      clear hB
      simp only [List.cons_append, List.nil_append] at hA
      have hF := hA.facts
      (try simp only [uA] at hA); have hF := hA.facts; (try simp only [fA, facts_row, and_true, true_and] at hF)
      have hkl : (keepF (knownF es) todo).length ≤ todo.length := List.length_filter_le _ _
      go_wp2_with (first | ((with_reducible refine gst ?_); refine wS hA ?_; clear hF hA; intro w1 hA; (try simp only [uA] at hA); have hF := hA.facts; (try simp only [fA, facts_row, and_true, true_and] at hF)) | ((with_reducible refine gbx ?_); refine wB hA ?_; clear hF hA; intro b1 w1 hA hb1; (try simp only [uA] at hA); have hF := hA.facts; (try simp only [fA, facts_row, and_true, true_and] at hF)))
      refine (sort_row (hA.sep1 (A := rowI2 v2 (keepF (knownF es) todo)) (by repeat (first | exact Sel.here | apply Sel.there))) (by omega)).mono ?_
      rintro e w1 ⟨rfl, hT⟩
      have hB := hA.call1 (A := rowI2 v2 (keepF (knownF es) todo)) (by repeat (first | exact Sel.here | apply Sel.there)) hT
      clear hF hA hT
      have hA := hB
      clear hB
      simp only [List.cons_append, List.nil_append] at hA
      have hF := hA.facts
      (try simp only [uA] at hA); have hF := hA.facts; (try simp only [fA, facts_row, and_true, true_and] at hF)
      go_wp2_with (first | ((with_reducible refine gst ?_); refine wS hA ?_; clear hF hA; intro w1 hA; (try simp only [uA] at hA); have hF := hA.facts; (try simp only [fA, facts_row, and_true, true_and] at hF)) | ((with_reducible refine gbx ?_); refine wB hA ?_; clear hF hA; intro b1 w1 hA hb1; (try simp only [uA] at hA); have hF := hA.facts; (try simp only [fA, facts_row, and_true, true_and] at hF)))
      go_ret
      exact ⟨sortID (keepF (knownF es) todo), _, rfl, ⟨sort_strict (hbf'.out.nd.filter _), fun z => by rw [sort_mem]; unfold keepF knownF; rw [List.mem_filter, hall.out z]; simp⟩, hA.only2 (by repeat (first | exact Sel.here | apply Sel.there)) (by repeat (first | exact Sel.here | apply Sel.there))⟩
end Go.Proofs.Ytgicohkmfbbbdaa.Gr
end

section
namespace Go.Proofs.Ytgicohkmfbbbdaa.Ref
open _root_.Go.Proofs.Ytgicohkmfbbbdaa.Gr
open _root_.Go.Proofs.Ytgicohkmfbbbdaa.Mark (ltID)
open _root_.Go.Proofs.Ytgicohkmfbbbdaa.Attr (A8)
set_option linter.unusedSimpArgs false
set_option linter.unusedVariables false

theorem place_le : ∀ (out : List IA) (x : I2), placeD out x ≤ out.length := fun out x => (List.takeWhile_sublist _).length_le
theorem place_ahead : ∀ {out : List IA} {x : I2} {k : Nat} {y : IA}, out[k]? = some y → k < placeD out x → ltID y.1 x
  | z :: out, x, k, y, hy, hk => by
    unfold placeD at hk
    rw [List.takeWhile_cons] at hk
    split at hk
    · rename_i hz
      cases k with
      | zero => cases hy; simpa using hz
      | succ k => exact place_ahead (out := out) (k := k) hy (by simpa [placeD] using hk)
    · simp at hk
theorem place_at : ∀ {out : List IA} {x : I2} {y : IA}, out[placeD out x]? = some y → ¬ ltID y.1 x
  | z :: out, x, y, hy => by
    by_cases hz : decide (ltID z.1 x) = true
    · have e : placeD (z :: out) x = placeD out x + 1 := by unfold placeD; rw [List.takeWhile_cons, if_pos hz]; rfl
      rw [e] at hy
      exact place_at (out := out) hy
    · have e : placeD (z :: out) x = 0 := by unfold placeD; rw [List.takeWhile_cons, if_neg hz]; rfl
      rw [e] at hy
      cases hy
      simpa using hz
def StD (out : List IA) : Prop := (out.map (·.1)).Pairwise ltID
theorem insD_sorted {out : List IA} {e : IA} (h : StD out) : StD (insD out e) := by
  by_cases hq : (out[placeD out e.1]?).map Prod.fst = some e.1
  · unfold insD; rw [if_pos hq]; exact h
  · have hh : insD out e = out.take (placeD out e.1) ++ [e] ++ out.drop (placeD out e.1) := by unfold insD; rw [if_neg hq]
    rw [hh]
    unfold StD at h ⊢
    rw [List.pairwise_map] at h ⊢
    have h0 := h
    rw [← List.take_append_drop (placeD out e.1) out, List.pairwise_append] at h
    obtain ⟨h1, h2, h3⟩ := h
    have ha : ∀ y ∈ out.take (placeD out e.1), ltID y.1 e.1 := fun y hy => by
      obtain ⟨k, hk, hy⟩ := List.mem_iff_getElem.1 hy
      rw [List.length_take] at hk
      exact place_ahead (out := out) (k := k) (by rw [List.getElem_take] at hy; rw [List.getElem?_eq_getElem (by omega), hy]) (by omega)
    have hb : ∀ y ∈ out.drop (placeD out e.1), ltID e.1 y.1 := by
      intro y hy
      obtain ⟨z, hz⟩ : ∃ z, out[placeD out e.1]? = some z := by
        refine ⟨_, List.getElem?_eq_getElem ?_⟩
        have := List.length_pos_of_mem hy
        rw [List.length_drop] at this
        omega
      have hz1 := place_at hz
      have hz2 : z.1 ≠ e.1 := fun q => hq (by rw [hz, Option.map_some, q])
      have hez : ltID e.1 z.1 := by
        rcases lt_tri z.1 e.1 with q | q | q
        · exact absurd q hz1
        · exact absurd q hz2
        · exact q
      have hdr : out.drop (placeD out e.1) = z :: out.drop (placeD out e.1 + 1) := by
        rw [List.drop_eq_getElem?_toList_append, hz]
        rfl
      rw [hdr] at hy h2
      rcases List.mem_cons.1 hy with rfl | hy
      · exact hez
      · exact lt_tr hez ((List.pairwise_cons.1 h2).1 y hy)
    rw [List.append_assoc, List.pairwise_append]
    refine ⟨h1, ?_, fun y hy z hz => ?_⟩
    · rw [List.singleton_append, List.pairwise_cons]
      exact ⟨hb, h2⟩
    · rcases List.mem_append.1 hz with q | q
      · rw [List.mem_singleton.1 q]; exact ha y hy
      · exact h3 y hy z q
theorem sortedD_sorted (l : List IA) : StD (sortedD l) := by
  suffices H : ∀ (l out : List IA), StD out → StD (l.foldl insD out) from H l [] .nil
  intro l
  induction l with
  | nil => exact fun _ h => h
  | cons e l ih => exact fun out h => ih _ (insD_sorted h)
theorem insD_names {out : List IA} {e : IA} {x : I2} : x ∈ (insD out e).map (·.1) ↔ x ∈ out.map (·.1) ∨ x = e.1 := by
  by_cases hq : (out[placeD out e.1]?).map Prod.fst = some e.1
  · unfold insD
    rw [if_pos hq]
    refine ⟨.inl, fun h => h.elim id fun q => ?_⟩
    obtain ⟨y, hy, e2⟩ := Option.map_eq_some_iff.1 hq
    rw [q, ← e2]
    exact List.mem_map_of_mem (List.mem_of_getElem? hy)
  · have hh : insD out e = out.take (placeD out e.1) ++ [e] ++ out.drop (placeD out e.1) := by unfold insD; rw [if_neg hq]
    rw [hh, List.map_append, List.map_append]
    conv => rhs; rw [← List.take_append_drop (placeD out e.1) out, List.map_append]
    simp only [List.mem_append, List.map_cons, List.map_nil, List.mem_singleton]
    constructor
    · rintro ((h | h) | h)
      · exact .inl (.inl h)
      · exact .inr h
      · exact .inl (.inr h)
    · rintro ((h | h) | h)
      · exact .inl (.inl h)
      · exact .inr h
      · exact .inl (.inr h)
theorem insD_sub {out : List IA} {e y : IA} (h : y ∈ insD out e) : y ∈ out ∨ y = e := by
  unfold insD at h
  split at h
  · exact .inl h
  · rcases List.mem_append.1 h with h | h
    · rcases List.mem_append.1 h with h | h
      · exact .inl (List.mem_of_mem_take h)
      · exact .inr (List.mem_singleton.1 h)
    · exact .inl (List.mem_of_mem_drop h)
theorem sortedD_names {l : List IA} {x : I2} : x ∈ (sortedD l).map (·.1) ↔ x ∈ l.map (·.1) := by
  suffices H : ∀ (l out : List IA), x ∈ (l.foldl insD out).map (·.1) ↔ x ∈ out.map (·.1) ∨ x ∈ l.map (·.1) by
    rw [show sortedD l = l.foldl insD [] from rfl, H]; simp
  intro l
  induction l with
  | nil => intro out; simp
  | cons e l ih =>
    intro out
    rw [List.foldl_cons, ih, insD_names, List.map_cons, List.mem_cons, or_assoc]
theorem sortedD_sub {l : List IA} {y : IA} (h : y ∈ sortedD l) : y ∈ l := by
  suffices H : ∀ (l out : List IA), y ∈ l.foldl insD out → y ∈ out ∨ y ∈ l by
    rcases H l [] h with q | q
    · cases q
    · exact q
  intro l
  induction l with
  | nil => exact fun out h => .inl h
  | cons e l ih =>
    intro out h
    rcases ih _ h with q | q
    · rcases insD_sub q with r | r
      · exact .inl r
      · exact .inr (by rw [r]; simp)
    · exact .inr (by simp [q])
theorem StD.uq {out : List IA} (h : StD out) : Uq out := h.imp fun q e => by rw [e] at q; exact lt_irr q
/-- the same attributes -/
theorem sortedD_get {es : List IA} (h : Uq es) (x : I2) : getA (sortedD es) x = getA es x := by
  cases hq : getA es x with
  | none =>
    rw [getA_isNone] at hq ⊢
    exact fun q => hq (sortedD_names.1 q)
  | some a =>
    have hm : x ∈ (sortedD es).map (·.1) := sortedD_names.2 (List.mem_map.2 ⟨_, getA_mem hq, rfl⟩)
    obtain ⟨⟨y, b⟩, hy, e⟩ := List.mem_map.1 hm
    simp only at e
    subst e
    have h1 := getA_of_mem (StD.uq (sortedD_sorted es)) hy
    have h2 := getA_of_mem h (sortedD_sub hy)
    rw [h2] at hq
    rw [h1, hq]
theorem sortedD_own {es : List IA} (h : Gr.Own es) : Gr.Own (sortedD es) :=
  ⟨StD.uq (sortedD_sorted es), fun x a hx => h.deps x a (by rwa [sortedD_get h.uq] at hx), fun e he => h.right e (sortedD_sub he)⟩
theorem leadsG_sorted {es : List IA} (h : Uq es) (f : F7) (x : I2) : leadsG (sortedD es) f x = leadsG es f x := by
  unfold leadsG
  rw [sortedD_get h]
end Go.Proofs.Ytgicohkmfbbbdaa.Ref
end
