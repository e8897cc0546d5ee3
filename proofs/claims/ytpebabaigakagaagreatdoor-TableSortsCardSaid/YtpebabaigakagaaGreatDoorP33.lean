/- LockPu, TabW, TabH, joined. -/
import Derived.Test.YtpebabaigakagaaGreatDoorP31
import Derived.Test.YtpebabaigakagaaGreatDoorP28
import Derived.Test.YtpebabaigakagaaGreatDoorP32
import Derived.Test.YtpebabaigakagaaGreatDoorP20
import Derived.Test.YtpebabaigakagaaGreatDoorP27
import Derived.Test.YtpebabaigakagaaGreatDoorP29
set_option linter.unusedSimpArgs false
set_option linter.unusedVariables false
set_option maxRecDepth 100000
set_option maxHeartbeats 16000000
section
namespace Go.Proofs.YtpebabaigakagaaGreatDoor.Lock
open Go.RowKit Go.Shelf
open _root_.Go.Proofs.YtpebabaigakagaaGreatDoor.Wire
open _root_.Go.Proofs.YtpebabaigakagaaGreatDoor.Txt (ltP)
open Path (bl rightB)
attribute [-go_sem] run_eql_struct run_neq_struct run_eqGuard_agg
theorem OutPost.r {w w' : World} {b : Nat} {u : Value} {l m : List Int} {e : Ending} (h : OutPost w b u l m e w') : ∃ x, e = .returned x ∧ (x = .pointer (some ⟨b, 0, none⟩) ∧ ∃ u', At [outC b u, rowY u l] w [outC b u', rowY u' (l ++ m)] w') := by
 obtain ⟨u', rfl, hT⟩ := h
 exact ⟨_, rfl, rfl, u', hT⟩
def withC (cs : List (ByteArray × Int)) (p : ByteArray) : ByteArray × Int := (p, (ctr cs p).getD 0)
theorem ctr_of_mem : ∀ {cs : List (ByteArray × Int)}, cs.Pairwise (fun a b => a.1 ≠ b.1) → ∀ {c : ByteArray × Int}, c ∈ cs → ctr cs c.1 = some c.2
 | d :: cs, hk, c, hc => by
  have h1 := List.pairwise_cons.1 hk
  unfold ctr
  rw [List.find?_cons]
  rcases List.mem_cons.1 hc with rfl | hc
  · simp
  · have hne : d.1 ≠ c.1 := h1.1 c hc
    have := ctr_of_mem h1.2 hc
    unfold ctr at this
    simpa [hne] using this
theorem withC_perm {cs : List (ByteArray × Int)} (hk : cs.Pairwise (fun a b => a.1 ≠ b.1)) {l : List ByteArray} (h : l.Perm (cs.map (·.1))) : (l.map (withC cs)).Perm cs := by
 have h1 := h.map (withC cs)
 have e : (cs.map (·.1)).map (withC cs) = cs := by
  rw [List.map_map]
  conv => rhs; rw [← List.map_id cs]
  refine List.map_congr_left fun c hc => ?_
  show (c.1, (ctr cs c.1).getD 0) = c
  rw [ctr_of_mem hk hc]
  rfl
 rw [e] at h1
 exact h1
def ltC (x y : ByteArray × Int) : Prop := ltP x.1 y.1
def PutPost (w : World) (a : Pl) (s : S3) (b : Nat) (u00 : Value) (l00 : List Int) (e : Ending) (w' : World) : Prop :=
 ∃ (l : List Ent) (m : List (ByteArray × Int)) (u : Value), e = .returned (.tuple #[]) ∧ l.Perm s.es ∧ l.Pairwise ltE ∧ m.Perm s.cs ∧ m.Pairwise ltC ∧ At [bookS a s, outC b u00, rowY u00 l00] w [bookS a s, outC b u, rowY u (l00 ++ encB l m)] w'
def PuRel (w : World) (a : Pl) (s : S3) (b : Nat) (u0 : Value) (l0 : List Int) (vl : Value) (L : List Ent) (k : Nat) (x : Value) (wr : World) : Prop :=
 ∃ (i : Nat) (u : Value) (l : List Int), x = .int .i64 i ∧ i + k = L.length ∧ l = l0 ++ shortN L.length ++ (L.take i).flatMap encE ∧ l.length ≤ l0.length + 10 + i * 2100000 ∧ At [bookS a s, outC b u0, rowY u0 l0] w [rowL vl L, bookS a s, outC b u, rowY u l] wr
def PvRel (w : World) (a : Pl) (s : S3) (b N : Nat) (u0 : Value) (l0 : List Int) (l7 : List Int) (vm : Value) (M : List ByteArray) (k : Nat) (x : Value) (wr : World) : Prop :=
 ∃ (i : Nat) (u : Value) (l : List Int), x = .int .i64 i ∧ i + k = M.length ∧ l = l7 ++ shortN M.length ++ ((M.map (withC s.cs)).take i).flatMap encC ∧ l.length ≤ l7.length + 10 + i * 200 ∧ At [bookS a s, outC b u0, rowY u0 l0] w [Part.row 9 1 vm M.length (M.flatMap Txt.seL), headC a.p a.m a.c s.first, mapC a.m (ents s.es), ctrC a.c (ctrs s.cs), outC b u, rowY u l] wr
theorem seL_len (x : ByteArray) : (Txt.seL x).length = 1 := rfl
theorem put_any {w : World} {a : Pl} {s : S3} {kI b : Nat} {u00 : Value} {l00 : List Int} (h : Sep [bookS a s, outC b u00, rowY u00 l00] w) (hI : Inv s kI) (hFt : Feet s) (hkI : kI ≤ 1000) (hl0 : l00.length ≤ 100000000000) :
 Calls Tryz.prog 49 #[.pointer (some ⟨a.p, 0, none⟩), .pointer (some ⟨b, 0, none⟩)] w (PutPost w a s b u00 l00) := by
 have hm : Tryz.prog.follows .mixedOrders = true := by kernel_rfl
 have hA := At.start h
 have hF := hA.facts
 clear h
 have hI' := Lib.hid hI
 have hok := Lib.hid (hI.okW hFt hkI)
 have hokC := Lib.hid hI.okV
 have hel : s.es.length ≤ 1000 := by have := hI.len; omega
 have hcl0 : s.cs.length ≤ 1000 := by have := hI.clen; omega
 clear hI hFt
 have hF := hA.facts; (try simp only [uZ] at hA hF)
 go_enter Tryz.func49, Tryz.ntmps49
 go_wp2_with fail
 refine (list_at (hA.sep1 (A := bookS a s) sR) hI'.out hkI).mono ?_
 rintro e w1 ⟨vl, L, rfl, hperm, hpw, hT⟩
 have hB := hA.call1 (A := bookS a s) sR hT
 have hLl : L.length ≤ 1000 := by rw [hperm.length_eq]; exact hel
 have hLm := Lib.hid (fun x => (hperm.mem_iff (a := x)).1)
 have hperm' := Lib.hid hperm
 have hpw' := Lib.hid hpw
 clear hF hA hT hperm hpw; have hA := hB; clear hB
 simp only [uA] at hA
 obtain ⟨lx, lcap, rfl, hlx, hlcap, _⟩ := hA.row_form (v := vl) (n := L.length) (xs := L.flatMap Ent.cells) sR
 have hwL : IntKind.u64.wrap (L.length : Int) = (L.length : Int) := by rw [IntKind.wrap_u64]; omega
 have hF := hA.facts; (try simp only [uZ] at hA hF)
 go_wp2_with fail
 refine (outShort (hA.sep2 (A := outC b u00) (B := rowY u00 l00) sR sR) L.length (by omega) (by omega)).mono ?_
 rintro e w2 ⟨u1, rfl, hT⟩
 have hB := hA.call2 (A := outC b u00) (B := rowY u00 l00) sR sR hT
 have hsl := short_len 9 L.length (by omega)
 clear hF hA hT; have hA := hB; clear hB
 simp only [uA] at hA
 have hF := hA.facts; (try simp only [uZ] at hA hF)
 go_wp2_with fail
 try go_frame
 go_loopg [19] L.length (PuRel w a s b u00 l00 (.slice lx L.length lcap) L)
 case atStart => exact ⟨0, u1, l00 ++ shortN L.length, rfl, by simp, by simp, by rw [List.length_append]; omega, hA.pick pZ⟩
 case round =>
  obtain ⟨i, u0, l0, rfl, hik, hle, hll, hB⟩ := hrel
  have hle' := Lib.hid hle
  clear hF hA hle hsl; have hA := hB; clear hB
  by_cases hi : i < L.length
  · have hmem := hLm.out _ (List.getElem_mem hi)
    obtain ⟨⟨n0, n1, k0, k1, s0⟩, hpb, hfz, hsb, hmo, hnb⟩ := hok.out _ hmem
    have htk := Lib.hid (List.take_succ_eq_append_getElem hi)
    obtain ⟨g, c, rfl, cp1, cm, cl, ct, hB⟩ := hA.row_open (ax := lx) (cap := lcap) (n := L.length) (xs := L.flatMap Ent.cells) sR (by omega)
    have hx : L[i]? = some L[i] := List.getElem?_eq_getElem hi
    have hct := ct
    (have c0 : c[i * 6]? = some (.string L[i].path) := cells_at Ent.cells_len hct hx 0 (by omega)); (have c1 : c[i * 6 + 1]? = some (.int .u64 L[i].num) := cells_at Ent.cells_len hct hx 1 (by omega)); (have c2 : c[i * 6 + 2]? = some (.string L[i].foot) := cells_at Ent.cells_len hct hx 2 (by omega)); (have c3 : c[i * 6 + 3]? = some (.int .i64 L[i].mode) := cells_at Ent.cells_len hct hx 3 (by omega)); (have c4 : c[i * 6 + 4]? = some (.int .u64 L[i].n) := cells_at Ent.cells_len hct hx 4 (by omega)); (have c5 : c[i * 6 + 5]? = some (.int .i64 L[i].stamp) := cells_at Ent.cells_len hct hx 5 (by omega))
    obtain ⟨x, hs⟩ : ∃ x, L[i] = x := ⟨_, rfl⟩
    rw [hs] at htk c0 c1 c2 c3 c4 c5 n0 n1 k0 k1 s0 hpb hfz hsb hmo hnb
    clear hA hx hs hmem hct; have hA := hB; clear hB
    obtain ⟨path, num, foot, mode, n, stamp⟩ := x
    simp only at c0 c1 c2 c3 c4 c5 n0 n1 k0 k1 s0 hpb hfz hsb hmo hnb
    obtain ⟨num, rfl⟩ : ∃ k : Nat, num = k := ⟨num.toNat, by omega⟩
    obtain ⟨n, rfl⟩ : ∃ k : Nat, n = k := ⟨n.toNat, by omega⟩
    obtain ⟨stamp, rfl⟩ : ∃ k : Nat, stamp = k := ⟨stamp.toNat, by omega⟩
    have hn64 : num < 18446744073709551616 := by omega
    have hk64 : n < 18446744073709551616 := by omega
    have hwm : IntKind.u8.wrap mode = mode := by rcases hmo with rfl | rfl <;> rfl
    have hws : IntKind.u64.wrap (stamp : Int) = (stamp : Int) := by rw [IntKind.wrap_u64]; omega
    have hft := textB_le foot (by omega)
    have hpt := textB_le path (by omega)
    have hib : i * 2100000 ≤ 1000 * 2100000 := Nat.mul_le_mul_right _ (by omega)
    clear hmo
    have hF := hA.facts; (try simp only [uZ] at hA hF)
    go_wp2_with (first | ((with_reducible refine gal ?_); refine wG 51 [.string .empty, .int .u64 0, .string .empty, .int .i64 0, .int .u64 0, .int .i64 0] hA ?_; clear hF hA; intro bE w1 hA hbE hF; (try simp only [uZ] at hA hF)) | ((with_reducible refine gst ?_); refine wT hA ?_; clear hF hA; intro w1 hA hF; (try simp only [uZ] at hA hF)))
    try go_frame
    have hAd := hA.drew
    clear hF hA
    have hA := hAd
    clear hAd
    refine wp_region_held (S := fun w' => BlockIs w' bE [.string path, .int .u64 (num : Int), .string foot, .int .i64 mode, .int .u64 (n : Int), .int .i64 (stamp : Int)] 51) hm ?_
    change wpAnyH _ _ _ _ _ 23 _ _ (World.drew _)
    generalize World.drew _ = w2 at *
    have hS0 := (show BlockIs _ bE [.string path, .int .u64 (num : Int), .string foot, .int .i64 mode, .int .u64 (n : Int), .int .i64 (stamp : Int)] 51 from hA.get (A := .cells bE [.string path, .int .u64 (num : Int), .string foot, .int .i64 mode, .int .u64 (n : Int), .int .i64 (stamp : Int)] 51) sR)
    refine tZ 0 23 ((.pointer (some ⟨b, 0, none⟩))) (r := (fun w' hS => by simp [execOp, go_sem, Act.eval, Act.put])) (s := hS0) (h := ?_)
    go_frame
    refine tZ 1 24 ((.pointer (some ⟨bE, 0, none⟩))) (r := (fun w' hS => by kernel_rfl)) (s := hS0) (h := ?_)
    go_frame
    refine tZ 2 25 ((.string path)) (r := (fun w' hS => run_load_one (b := bE) (j := 0) rfl (by exact rfl) hS (by kernel_rfl) rfl)) (s := hS0) (h := ?_)
    go_frame
    refine tZ 4 27 ((.pointer (some ⟨bE, 1, none⟩))) (r := (fun w' hS => by kernel_rfl)) (s := hS0) (h := ?_)
    go_frame
    refine tZ 5 28 ((.pointer (some ⟨bE, 1, none⟩))) (r := (fun w' hS => by kernel_rfl)) (s := hS0) (h := ?_)
    go_frame
    refine tZ 6 29 ((.int .u64 (num : Int))) (r := (fun w' hS => run_load_one (b := bE) (j := 1) rfl (by exact rfl) hS (by kernel_rfl) rfl)) (s := hS0) (h := ?_)
    go_frame
    refine tZ 8 31 ((.pointer (some ⟨bE, 1, none⟩))) (r := (fun w' hS => by kernel_rfl)) (s := hS0) (h := ?_)
    go_frame
    refine tZ 9 32 ((.pointer (some ⟨bE, 2, none⟩))) (r := (fun w' hS => by kernel_rfl)) (s := hS0) (h := ?_)
    go_frame
    refine tZ 10 33 ((.string foot)) (r := (fun w' hS => run_load_one (b := bE) (j := 2) rfl (by exact rfl) hS (by kernel_rfl) rfl)) (s := hS0) (h := ?_)
    go_frame
    refine tZ 12 35 ((.pointer (some ⟨bE, 3, none⟩))) (r := (fun w' hS => by kernel_rfl)) (s := hS0) (h := ?_)
    go_frame
    refine tZ 13 36 ((.int .i64 mode)) (r := (fun w' hS => run_load_one (b := bE) (j := 3) rfl (by exact rfl) hS (by kernel_rfl) rfl)) (s := hS0) (h := ?_)
    go_frame
    refine tZ 14 37 ((.int .u8 mode)) (r := (fun w' hS => by simp [execOp, go_sem, Act.eval, Act.put, hwm])) (s := hS0) (h := ?_)
    go_frame
    refine tZ 16 39 ((.pointer (some ⟨bE, 4, none⟩))) (r := (fun w' hS => by kernel_rfl)) (s := hS0) (h := ?_)
    go_frame
    refine tZ 17 40 ((.int .u64 (n : Int))) (r := (fun w' hS => run_load_one (b := bE) (j := 4) rfl (by exact rfl) hS (by kernel_rfl) rfl)) (s := hS0) (h := ?_)
    go_frame
    refine tZ 19 42 ((.pointer (some ⟨bE, 5, none⟩))) (r := (fun w' hS => by kernel_rfl)) (s := hS0) (h := ?_)
    go_frame
    refine tZ 20 43 ((.int .i64 (stamp : Int))) (r := (fun w' hS => run_load_one (b := bE) (j := 5) rfl (by exact rfl) hS (by kernel_rfl) rfl)) (s := hS0) (h := ?_)
    go_frame
    refine tZ 21 44 ((.int .u64 (stamp : Int))) (r := (fun w' hS => by simp [execOp, go_sem, Act.eval, Act.put, hws])) (s := hS0) (h := ?_)
    go_frame
    clear hS0
    refine wpAnyH_one (i := 3) (by kernel_rfl) ?_
    refine opCall_at (i := 3) (d := some 26) rfl rfl rfl (fn := 74) (args := #[(.pointer (some ⟨b, 0, none⟩)), .string path]) (by simp [execOp, go_sem, Act.eval, Act.put]) ((outText (hA.sep2 (A := outC b u0) (B := rowY u0 l0) sR sR) path (by omega) (by omega)).mono (fun e w' h => OutPost.r h)) ?_
    rintro xq zq ⟨rfl, u1, hT⟩
    have hB := hA.call2 (A := outC b u0) (B := rowY u0 l0) sR sR hT
    obtain ⟨l1, he1⟩ : ∃ z, l0 ++ textB path = z := ⟨_, rfl⟩
    have hl1 : l1.length ≤ l0.length + (10 + path.size) := by have := hpt; rw [← he1, List.length_append]; omega
    rw [he1] at hB
    have he1' := Lib.hid he1
    clear hA hT he1; have hA := hB; clear hB
    simp only [uA] at hA
    refine ⟨(show BlockIs _ bE [.string path, .int .u64 (num : Int), .string foot, .int .i64 mode, .int .u64 (n : Int), .int .i64 (stamp : Int)] 51 from hA.get (A := .cells bE [.string path, .int .u64 (num : Int), .string foot, .int .i64 mode, .int .u64 (n : Int), .int .i64 (stamp : Int)] 51) sR), ?_⟩
    go_frame
    refine wpAnyH_one (i := 7) (by kernel_rfl) ?_
    refine opCall_at (i := 7) (d := some 30) rfl rfl rfl (fn := 73) (args := #[(.pointer (some ⟨b, 0, none⟩)), .int .u64 (num : Int)]) (by simp [execOp, go_sem, Act.eval, Act.put]) ((outFixed (hA.sep2 (A := outC b u1) (B := rowY u1 l1) sR sR) num hn64 (by omega)).mono (fun e w' h => OutPost.r h)) ?_
    rintro xq zq ⟨rfl, u2, hT⟩
    have hB := hA.call2 (A := outC b u1) (B := rowY u1 l1) sR sR hT
    obtain ⟨l2, he2⟩ : ∃ z, l1 ++ fixL num = z := ⟨_, rfl⟩
    have hl2 : l2.length ≤ l1.length + 8 := by have := (show (fixL num).length ≤ 8 from by simp [fixL]); rw [← he2, List.length_append]; omega
    rw [he2] at hB
    have he2' := Lib.hid he2
    clear hA hT he2; have hA := hB; clear hB
    simp only [uA] at hA
    refine ⟨(show BlockIs _ bE [.string path, .int .u64 (num : Int), .string foot, .int .i64 mode, .int .u64 (n : Int), .int .i64 (stamp : Int)] 51 from hA.get (A := .cells bE [.string path, .int .u64 (num : Int), .string foot, .int .i64 mode, .int .u64 (n : Int), .int .i64 (stamp : Int)] 51) sR), ?_⟩
    go_frame
    refine wpAnyH_one (i := 11) (by kernel_rfl) ?_
    refine opCall_at (i := 11) (d := some 34) rfl rfl rfl (fn := 74) (args := #[(.pointer (some ⟨b, 0, none⟩)), .string foot]) (by simp [execOp, go_sem, Act.eval, Act.put]) ((outText (hA.sep2 (A := outC b u2) (B := rowY u2 l2) sR sR) foot (by omega) (by omega)).mono (fun e w' h => OutPost.r h)) ?_
    rintro xq zq ⟨rfl, u3, hT⟩
    have hB := hA.call2 (A := outC b u2) (B := rowY u2 l2) sR sR hT
    obtain ⟨l3, he3⟩ : ∃ z, l2 ++ textB foot = z := ⟨_, rfl⟩
    have hl3 : l3.length ≤ l2.length + (10 + foot.size) := by have := hft; rw [← he3, List.length_append]; omega
    rw [he3] at hB
    have he3' := Lib.hid he3
    clear hA hT he3; have hA := hB; clear hB
    simp only [uA] at hA
    refine ⟨(show BlockIs _ bE [.string path, .int .u64 (num : Int), .string foot, .int .i64 mode, .int .u64 (n : Int), .int .i64 (stamp : Int)] 51 from hA.get (A := .cells bE [.string path, .int .u64 (num : Int), .string foot, .int .i64 mode, .int .u64 (n : Int), .int .i64 (stamp : Int)] 51) sR), ?_⟩
    go_frame
    refine wpAnyH_one (i := 15) (by kernel_rfl) ?_
    refine opCall_at (i := 15) (d := some 38) rfl rfl rfl (fn := 77) (args := #[(.pointer (some ⟨b, 0, none⟩)), .int .u8 mode]) (by simp [execOp, go_sem, Act.eval, Act.put]) ((outByte (hA.sep2 (A := outC b u3) (B := rowY u3 l3) sR sR) mode (by omega)).mono (fun e w' h => OutPost.r h)) ?_
    rintro xq zq ⟨rfl, u4, hT⟩
    have hB := hA.call2 (A := outC b u3) (B := rowY u3 l3) sR sR hT
    obtain ⟨l4, he4⟩ : ∃ z, l3 ++ [mode] = z := ⟨_, rfl⟩
    have hl4 : l4.length ≤ l3.length + 1 := by have := (show ([mode] : List Int).length ≤ 1 from Nat.le_refl _); rw [← he4, List.length_append]; omega
    rw [he4] at hB
    have he4' := Lib.hid he4
    clear hA hT he4; have hA := hB; clear hB
    simp only [uA] at hA
    refine ⟨(show BlockIs _ bE [.string path, .int .u64 (num : Int), .string foot, .int .i64 mode, .int .u64 (n : Int), .int .i64 (stamp : Int)] 51 from hA.get (A := .cells bE [.string path, .int .u64 (num : Int), .string foot, .int .i64 mode, .int .u64 (n : Int), .int .i64 (stamp : Int)] 51) sR), ?_⟩
    go_frame
    refine wpAnyH_one (i := 18) (by kernel_rfl) ?_
    refine opCall_at (i := 18) (d := some 41) rfl rfl rfl (fn := 73) (args := #[(.pointer (some ⟨b, 0, none⟩)), .int .u64 (n : Int)]) (by simp [execOp, go_sem, Act.eval, Act.put]) ((outFixed (hA.sep2 (A := outC b u4) (B := rowY u4 l4) sR sR) n hk64 (by omega)).mono (fun e w' h => OutPost.r h)) ?_
    rintro xq zq ⟨rfl, u5, hT⟩
    have hB := hA.call2 (A := outC b u4) (B := rowY u4 l4) sR sR hT
    obtain ⟨l5, he5⟩ : ∃ z, l4 ++ fixL n = z := ⟨_, rfl⟩
    have hl5 : l5.length ≤ l4.length + 8 := by have := (show (fixL n).length ≤ 8 from by simp [fixL]); rw [← he5, List.length_append]; omega
    rw [he5] at hB
    have he5' := Lib.hid he5
    clear hA hT he5; have hA := hB; clear hB
    simp only [uA] at hA
    refine ⟨(show BlockIs _ bE [.string path, .int .u64 (num : Int), .string foot, .int .i64 mode, .int .u64 (n : Int), .int .i64 (stamp : Int)] 51 from hA.get (A := .cells bE [.string path, .int .u64 (num : Int), .string foot, .int .i64 mode, .int .u64 (n : Int), .int .i64 (stamp : Int)] 51) sR), ?_⟩
    go_frame
    refine wpAnyH_one (i := 22) (by kernel_rfl) ?_
    refine opCall_at (i := 22) (d := some 45) rfl rfl rfl (fn := 72) (args := #[(.pointer (some ⟨b, 0, none⟩)), .int .u64 (stamp : Int)]) (by simp [execOp, go_sem, Act.eval, Act.put]) ((outShort (hA.sep2 (A := outC b u5) (B := rowY u5 l5) sR sR) stamp (by omega) (by omega)).mono (fun e w' h => OutPost.r h)) ?_
    rintro xq zq ⟨rfl, u6, hT⟩
    have hB := hA.call2 (A := outC b u5) (B := rowY u5 l5) sR sR hT
    obtain ⟨l6, he6⟩ : ∃ z, l5 ++ shortN stamp = z := ⟨_, rfl⟩
    have hl6 : l6.length ≤ l5.length + 10 := by have := short_len 9 stamp (by omega); rw [← he6, List.length_append]; omega
    rw [he6] at hB
    have he6' := Lib.hid he6
    clear hA hT he6; have hA := hB; clear hB
    simp only [uA] at hA
    refine ⟨(show BlockIs _ bE [.string path, .int .u64 (num : Int), .string foot, .int .i64 mode, .int .u64 (n : Int), .int .i64 (stamp : Int)] 51 from hA.get (A := .cells bE [.string path, .int .u64 (num : Int), .string foot, .int .i64 mode, .int .u64 (n : Int), .int .i64 (stamp : Int)] 51) sR), ?_⟩
    go_frame
    refine wpAnyH_done (by kernel_rfl) ?_ _
    try go_frame
    have hF := hA.facts; (try simp only [uZ] at hA hF)
    go_wp2_with fail
    go_roundg (gk - 1)
    case measure => omega
    case rel =>
     have hS := hA.row_shut (e := 51) (size := 6) (n := L.length) (cap := lcap) (xs := L.flatMap Ent.cells) (g := g) (c := c) sR cl cp1 cm ct
     refine ⟨i + 1, u6, l6, by simp, by omega, ?_, by omega, hS.pick pZ⟩
     rw [htk.out, ← he6'.out, ← he5'.out, ← he4'.out, ← he3'.out, ← he2'.out, ← he1'.out, hle'.out]
     simp only [List.flatMap_append, List.flatMap_cons, List.flatMap_nil, List.append_nil, encE, Int.toNat_natCast, List.append_assoc]
  · have hle2 := hle'.out
    rw [List.take_of_length_le (by omega)] at hle2
    have hle3 := Lib.hid hle2
    have hl7 : l0.length ≤ l00.length + 3000000000 := by
     have : i * 2100000 ≤ 1000 * 2100000 := Nat.mul_le_mul_right _ (by omega)
     omega
    clear hle2 hle' hll hik
    have hB := open0 hA (b := a.at s) sR
    simp only [Pl.at] at hB
    clear hA; have hA := hB; clear hB
    have hF := hA.facts; (try simp only [uZ] at hA hF)
    go_wp2_with fail
    refine (callsIn_wide.1 (Txt.keys_in Fence.wide 1 trivial rfl (some a.c) wr)).mono ?_
    rintro e _ ⟨rfl, rfl⟩
    have hB := hA.alloc [.map (some a.c)] 91
    have hnd : (s.cs.map (·.1)).Nodup := List.pairwise_map.2 hI'.out.ckeys
    have hkm := Lib.hid (show (ctrs s.cs).map (·.1) = (s.cs.map (·.1)).map Txt.seV from by simp [ctrs, ctrE, Txt.seV])
    go_wp2_with fail
    refine (Txt.sorted_any wr.heap.size a.c (ctrs s.cs) (s.cs.map (·.1)) hkm.out hnd _ (by simp) ((BlockIs.alloc wr [.map (some a.c)] 91).cell 0) (hB.get (A := ctrC a.c (ctrs s.cs)) sR) (by simp; omega)
     (fun k hk => by obtain ⟨c, hc, rfl⟩ := List.mem_map.1 hk; exact hI'.out.cright c hc) (fun k hk => by obtain ⟨c, hc, rfl⟩ := List.mem_map.1 hk; have := hI'.out.cpath c hc; omega)).mono ?_
    clear hkm
    rintro e w4 ⟨vm, M, rfl, hMp, hMw, hown, hbw⟩
    have hC := hB.row_new hbw hown
    clear hB hown hbw hA hF
    have hA := hC
    clear hC
    have hMl : M.length ≤ 1000 := by rw [hMp.length_eq, List.length_map]; exact hcl0
    have hMp' := Lib.hid hMp
    have hMw' := Lib.hid hMw
    clear hMp hMw hnd
    obtain ⟨mx, mcap, rfl, hmx, hmcap, _⟩ := hA.row_form (v := vm) (n := M.length) (xs := M.flatMap Txt.seL) sR
    have hwM : IntKind.u64.wrap (M.length : Int) = (M.length : Int) := by rw [IntKind.wrap_u64]; omega
    have hF := hA.facts; (try simp only [uZ] at hA hF)
    go_wp2_with fail
    refine (outShort (hA.sep2 (A := outC b u0) (B := rowY u0 l0) sR sR) M.length (by omega) (by omega)).mono ?_
    rintro e w5 ⟨u9, rfl, hT⟩
    have hB := hA.call2 (A := outC b u0) (B := rowY u0 l0) sR sR hT
    have hsl := short_len 9 M.length (by omega)
    clear hF hA hT; have hA := hB; clear hB
    simp only [uA] at hA
    have hF := hA.facts; (try simp only [uZ] at hA hF)
    go_wp2_with fail
    try go_frame
    go_loopg [60] M.length (PvRel w a s b 0 u00 l00 l0 (.slice mx M.length mcap) M)
    case atStart => exact ⟨0, u9, l0 ++ shortN M.length, rfl, by simp, by simp, by rw [List.length_append]; omega, hA.pick pZ⟩
    case round =>
     obtain ⟨j, u20, l20, rfl, hjk, hje, hjl, hB⟩ := hrel
     have hje' := Lib.hid hje
     clear hF hA hje hsl; have hA := hB; clear hB
     by_cases hj : j < M.length
     · have hjm : j < (M.map (withC s.cs)).length := by rw [List.length_map]; exact hj
       have hpm : M[j] ∈ s.cs.map (·.1) := hMp'.out.mem_iff.1 (List.getElem_mem hj)
       obtain ⟨q, hq, hqp⟩ := List.mem_map.1 hpm
       have hcq := ctr_of_mem hI'.out.ckeys hq
       have hoq := hokC.out q hq
       obtain ⟨⟨q0, q1⟩, qp⟩ := hoq
       have hgj : (M.map (withC s.cs))[j] = (M[j], q.2) := by rw [List.getElem_map]; unfold withC; rw [← hqp, hcq]; rfl
       obtain ⟨p, n⟩ := q
       simp only at hqp hcq q0 q1 qp hgj
       obtain ⟨g, c, rfl, cp1, cm, cl, ct, hB⟩ := hA.row_open (ax := mx) (cap := mcap) (n := M.length) (xs := M.flatMap Txt.seL) sR (by omega)
       have c0 : c[j]? = some (.string M[j]) := by have := cells_at seL_len ct (List.getElem?_eq_getElem hj) 0 (by omega); simpa [Txt.seL] using this
       rw [← hqp] at c0 hgj
       obtain ⟨n, rfl⟩ : ∃ k : Nat, n = k := ⟨n.toNat, by omega⟩
       have hn64 : n < 18446744073709551616 := by omega
       have hmem' := Lib.hid (ctr_mem hcq)
       have htj := Lib.hid (show (M.map (withC s.cs)).take (j + 1) = (M.map (withC s.cs)).take j ++ [(p, (n : Int))] from by rw [List.take_succ_eq_append_getElem hjm, hgj])
       obtain ⟨kl, hkl⟩ := keyT (p := p) (by unfold maxLen; omega)
       have hpt := textB_le p (by omega)
       have hjb : j * 200 ≤ 1000 * 200 := Nat.mul_le_mul_right _ (by omega)
       clear hA hq hqp hcq hgj hpm q0 q1 hjm; have hA := hB; clear hB
       have hF := hA.facts; (try simp only [uZ] at hA hF)
       go_wp2_with fail
       try go_frame
       have hAd := hA.drew
       clear hF hA
       have hA := hAd
       clear hAd
       refine wp_region_held (S := fun w' => BlockIs w' a.p [.int .u64 s.first, .map (some a.m), .map (some a.c)] 93 ∧ MapAt Tryz.prog 9 w' a.c (ctrs s.cs)) hm ?_
       change wpAnyH _ _ _ _ _ 10 _ _ (World.drew _)
       generalize World.drew _ = w2 at *
       have hS0 := (show BlockIs _ a.p [.int .u64 s.first, .map (some a.m), .map (some a.c)] 93 ∧ MapAt Tryz.prog 9 _ a.c (ctrs s.cs) from ⟨hA.get (A := headC a.p a.m a.c s.first) sR, hA.get (A := ctrC a.c (ctrs s.cs)) sR⟩)
       refine tZ 0 64 ((.pointer (some ⟨b, 0, none⟩))) (r := (fun w' hS => by simp [execOp, go_sem, Act.eval, Act.put])) (s := hS0) (h := ?_)
       go_frame
       refine tZ 1 65 ((.string p)) (r := (fun w' hS => by simp [execOp, go_sem, Act.eval, Act.put])) (s := hS0) (h := ?_)
       go_frame
       refine tZ 3 67 ((.pointer (some ⟨a.p, 0, none⟩))) (r := (fun w' hS => by simp [execOp, go_sem, Act.eval, Act.put])) (s := hS0) (h := ?_)
       go_frame
       refine tZ 4 68 ((.pointer (some ⟨a.p, 0, none⟩))) (r := (fun w' hS => by kernel_rfl)) (s := hS0) (h := ?_)
       go_frame
       refine tZ 5 69 ((.pointer (some ⟨a.p, 2, none⟩))) (r := (fun w' hS => by kernel_rfl)) (s := hS0) (h := ?_)
       go_frame
       refine tZ 6 70 ((.map (some a.c))) (r := (fun w' hS => run_load_one (b := a.p) (j := 2) rfl (by exact rfl) hS.1 (by kernel_rfl) rfl)) (s := hS0) (h := ?_)
       go_frame
       refine tZ 7 71 ((.string p)) (r := (fun w' hS => by simp [execOp, go_sem, Act.eval, Act.put])) (s := hS0) (h := ?_)
       go_frame
       refine tZ 8 72 ((.int .u64 (n : Int))) (r := (fun w' hS => by have q := MapAt.look_some hS.2 lawT Tryz.underlying91 hkl hmem'.out false; simp only [Bool.false_eq_true, if_false] at q; simp [execOp, go_sem, Act.eval, Act.put, q, Result.andThen])) (s := hS0) (h := ?_)
       go_frame
       clear hS0
       refine wpAnyH_one (i := 2) (by kernel_rfl) ?_
       refine opCall_at (i := 2) (d := some 66) rfl rfl rfl (fn := 74) (args := #[(.pointer (some ⟨b, 0, none⟩)), .string p]) (by simp [execOp, go_sem, Act.eval, Act.put]) ((outText (hA.sep2 (A := outC b u20) (B := rowY u20 l20) sR sR) p (by omega) (by omega)).mono (fun e w' h => OutPost.r h)) ?_
       rintro xq zq ⟨rfl, u21, hT⟩
       have hB := hA.call2 (A := outC b u20) (B := rowY u20 l20) sR sR hT
       obtain ⟨l21, he21⟩ : ∃ z, l20 ++ textB p = z := ⟨_, rfl⟩
       have hl21 : l21.length ≤ l20.length + (10 + p.size) := by have := hpt; rw [← he21, List.length_append]; omega
       rw [he21] at hB
       have he21' := Lib.hid he21
       clear hA hT he21; have hA := hB; clear hB
       simp only [uA] at hA
       refine ⟨(show BlockIs _ a.p [.int .u64 s.first, .map (some a.m), .map (some a.c)] 93 ∧ MapAt Tryz.prog 9 _ a.c (ctrs s.cs) from ⟨hA.get (A := headC a.p a.m a.c s.first) sR, hA.get (A := ctrC a.c (ctrs s.cs)) sR⟩), ?_⟩
       go_frame
       refine wpAnyH_one (i := 9) (by kernel_rfl) ?_
       refine opCall_at (i := 9) (d := some 73) rfl rfl rfl (fn := 73) (args := #[(.pointer (some ⟨b, 0, none⟩)), .int .u64 (n : Int)]) (by simp [execOp, go_sem, Act.eval, Act.put]) ((outFixed (hA.sep2 (A := outC b u21) (B := rowY u21 l21) sR sR) n hn64 (by omega)).mono (fun e w' h => OutPost.r h)) ?_
       rintro xq zq ⟨rfl, u22, hT⟩
       have hB := hA.call2 (A := outC b u21) (B := rowY u21 l21) sR sR hT
       obtain ⟨l22, he22⟩ : ∃ z, l21 ++ fixL n = z := ⟨_, rfl⟩
       have hl22 : l22.length ≤ l21.length + 8 := by have := (show (fixL n).length ≤ 8 from by simp [fixL]); rw [← he22, List.length_append]; omega
       rw [he22] at hB
       have he22' := Lib.hid he22
       clear hA hT he22; have hA := hB; clear hB
       simp only [uA] at hA
       refine ⟨(show BlockIs _ a.p [.int .u64 s.first, .map (some a.m), .map (some a.c)] 93 ∧ MapAt Tryz.prog 9 _ a.c (ctrs s.cs) from ⟨hA.get (A := headC a.p a.m a.c s.first) sR, hA.get (A := ctrC a.c (ctrs s.cs)) sR⟩), ?_⟩
       go_frame
       refine wpAnyH_done (by kernel_rfl) ?_ _
       try go_frame
       have hF := hA.facts; (try simp only [uZ] at hA hF)
       go_wp2_with fail
       go_roundg (gk - 1)
       case measure => omega
       case rel =>
        have hS := hA.row_shut (e := 9) (size := 1) (n := M.length) (cap := mcap) (xs := M.flatMap Txt.seL) (g := g) (c := c) sR cl cp1 cm ct
        refine ⟨j + 1, u22, l22, by simp, by omega, ?_, by omega, hS.pick pZ⟩
        rw [htj.out, ← he22'.out, ← he21'.out, hje'.out]
        simp only [List.flatMap_append, List.flatMap_cons, List.flatMap_nil, List.append_nil, encC, Int.toNat_natCast, List.append_assoc]
     · have hje2 := hje'.out
       rw [List.take_of_length_le (by rw [List.length_map]; omega)] at hje2
       have hF := hA.facts; (try simp only [uZ] at hA hF)
       go_wp2_with fail
       first | go_ret | go_end0
       refine ⟨L, M.map (withC s.cs), u20, rfl, hperm'.out, hpw'.out, withC_perm hI'.out.ckeys hMp'.out, List.pairwise_map.2 hMw'.out, ?_⟩
       have hE := fold0 (a.at s) hA sZ sZ sZ
       have hE2 := hE.pick (K := [bookS a s, outC b u20, rowY u20 l20]) pZ
       rw [hje2, hle3.out] at hE2
       have e : l00 ++ shortN L.length ++ L.flatMap encE ++ shortN M.length ++ (M.map (withC s.cs)).flatMap encC = l00 ++ encB L (M.map (withC s.cs)) := by
        unfold encB
        rw [List.length_map]
        simp only [List.append_assoc]
       rw [e] at hE2
       exact hE2
end Go.Proofs.YtpebabaigakagaaGreatDoor.Lock
end
section
namespace Go.Proofs.YtpebabaigakagaaGreatDoor.Tab
open Go.RowKit
open Path (bl rightB overB aboveB)
open Lease (Ses Ans fresh Turned)
open Lock (S3 Ent)
open Cmd (Cm rightC)
attribute [-go_sem] run_eql_struct run_neq_struct run_eqGuard_agg
open Lease (SR Rel encL)
open Lock (encB ltE ltC)
open Wire (outC rowY)
theorem flat_le {α : Type} {f : α → List Int} {P : α → Prop} {k : Nat} (hf : ∀ a, P a → (f a).length ≤ k) : ∀ l : List α, (∀ a ∈ l, P a) → (l.flatMap f).length ≤ l.length * k
 | [], _ => by simp
 | x :: l, h => by
  have q1 := hf x (h x (by simp))
  have q2 := flat_le hf l (fun a ha => h a (by simp [ha]))
  rw [List.flatMap_cons, List.length_append, List.length_cons, Nat.add_mul]
  omega
theorem encA_len {a : Lease.AR} (h : 0 ≤ a.r ∧ a.r < Lease.big64) : (Lease.encA a).length ≤ 29 := by
 have q1 := Wire.short_len 9 a.r.toNat (by unfold Lease.big64 at h; omega)
 have q2 := Wire.short_len 9 (Lease.wrN a.e) (by unfold Lease.wrN; omega)
 have q3 : (Wire.fixL a.n.toNat).length = 8 := by simp [Wire.fixL]
 have q4 : (Lease.bB a.g).length = 1 := rfl
 unfold Lease.encA
 simp only [List.length_append]
 omega
structure SrOk (s : SR) : Prop where
 foot : s.foot.size ≤ 2000000
 dl : s.dl ≤ 2199023255552
 ttl : s.ttl ≤ 2199023255552
 tl : s.told.length ≤ 256
 bd : ∀ x ∈ s.told, 0 ≤ x.r ∧ x.r < Lease.big64
theorem encS_len {s : SR} (h : SrOk s) : (Lease.encS s).length ≤ 2100000 := by
 have q1 : (Wire.fixL s.num.toNat).length = 8 := by simp [Wire.fixL]
 have q2 := Lease.textB_len s.foot (by have := h.foot; omega)
 have q3 : (Lease.bB s.op).length = 1 := rfl
 have q4 : (Lease.bB s.dead).length = 1 := rfl
 have q5 := Wire.short_len 9 s.dl.toNat (by have := h.dl; omega)
 have q6 := Wire.short_len 9 s.ttl.toNat (by have := h.ttl; omega)
 have q7 := Wire.short_len 9 s.told.length (by have := h.tl; omega)
 have q8 := flat_le (f := Lease.encA) (P := fun a => 0 ≤ a.r ∧ a.r < Lease.big64) (k := 29) (fun a ha => encA_len ha) s.told h.bd
 have q9 := h.foot
 have q10 := h.tl
 unfold Lease.encS
 simp only [List.length_append]
 omega
theorem encL_len {L : List SR} (h : ∀ a ∈ L, SrOk a) (hl : L.length ≤ 1000) : (encL L).length ≤ 3000000000 := by
 have q1 := Wire.short_len 9 L.length (by omega)
 have q2 := flat_le (f := Lease.encS) (P := SrOk) (k := 2100000) (fun a ha => encS_len ha) L h
 unfold Lease.encL
 rw [List.length_append]
 omega
theorem sr_ok {S : List Ses} {L : List SR} {m : Nat} (h : Rel S L) (hi : SInv S m) : ∀ a ∈ L, SrOk a := fun a ha => by
 have hb := (Rel.bounds h hi).1 a ha
 obtain ⟨s, hs, hk⟩ := List.mem_map.1 (h.keys.mem_iff.2 (List.mem_map.2 ⟨a, ha, rfl⟩))
 have e := h.each s hs a ha hk
 exact ⟨hb.2.2, e.db.2, e.tb.2, e.told.len, e.told.bd⟩
theorem encE_len {e : Ent} (hp : e.path.size ≤ 100) (hf : e.foot.size ≤ 2000000) (hs : e.stamp ≤ 1000) : (Lock.encE e).length ≤ 2100000 := by
 have q1 := Lock.textB_le e.path (by omega)
 have q2 := Lock.textB_le e.foot (by omega)
 have q3 : (Wire.fixL e.num.toNat).length = 8 := by simp [Wire.fixL]
 have q4 : (Wire.fixL e.n.toNat).length = 8 := by simp [Wire.fixL]
 have q5 := Wire.short_len 9 e.stamp.toNat (by omega)
 unfold Lock.encE
 simp only [List.length_append, List.length_cons, List.length_nil]
 omega
theorem encC_len {c : ByteArray × Int} (hp : c.1.size ≤ 100) : (Lock.encC c).length ≤ 200 := by
 have q1 := Lock.textB_le c.1 (by omega)
 have q3 : (Wire.fixL c.2.toNat).length = 8 := by simp [Wire.fixL]
 unfold Lock.encC
 simp only [List.length_append]
 omega
theorem encB_len {T : TS} {k : Nat} (hi : Lock.Inv T.L k) (hf : Lock.Feet T.L) (hk : k ≤ 1000) {es : List Ent} {cs : List (ByteArray × Int)} (h1 : es.Perm T.L.es) (h2 : cs.Perm T.L.cs) : (encB es cs).length ≤ 3000000000 := by
 have l1 : es.length ≤ 1000 := by rw [h1.length_eq]; have := hi.len; omega
 have l2 : cs.length ≤ 1000 := by rw [h2.length_eq]; have := hi.clen; omega
 have q1 := Wire.short_len 9 es.length (by omega)
 have q2 := flat_le (f := Lock.encE) (P := fun e => e ∈ T.L.es) (k := 2100000) (fun a ha => encE_len (hi.path a ha) (hf a ha) (by have := hi.stamp1 a ha; omega)) es (fun a ha => h1.mem_iff.1 ha)
 have q3 := Wire.short_len 9 cs.length (by omega)
 have q4 := flat_le (f := Lock.encC) (P := fun c => c ∈ T.L.cs) (k := 200) (fun a ha => encC_len (hi.cpath a ha)) cs (fun a ha => h2.mem_iff.1 ha)
 unfold Lock.encB
 simp only [List.length_append]
 omega
theorem sorted_oneC {l r : List (ByteArray × Int)} (h1 : l.Pairwise ltC) (h2 : r.Pairwise ltC) (hp : l.Perm r) : l = r :=
 hp.eq_of_pairwise (le := ltC) (fun a b _ _ h3 h4 => absurd (Txt.ltP_trans h3 h4) (Txt.ltP_irrefl _)) h1 h2
def BytesOf (T : TS) (L : List SR) (l : List Int) : Prop := ∃ (es : List Ent) (cs : List (ByteArray × Int)), (es.Perm T.L.es ∧ es.Pairwise ltE ∧ cs.Perm T.L.cs ∧ cs.Pairwise ltC) ∧ l = encL L ++ encB es cs
theorem bytes_same {T T' : TS} (h : LEq T.L T'.L) {L : List SR} {l l' : List Int} (h1 : BytesOf T L l) (h2 : BytesOf T' L l') : l = l' := by
 obtain ⟨es, cs, ⟨a1, a2, a3, a4⟩, rfl⟩ := h1
 obtain ⟨fs, ds, ⟨b1, b2, b3, b4⟩, rfl⟩ := h2
 rw [Lock.sorted_one a2 b2 (a1.trans (h.es.trans b1.symm)), sorted_oneC a4 b4 (a3.trans (h.cs.trans b3.symm))]
def BytesP (w : World) (t p m : Nat) (ss : List Ses) (b : Lock.Bk) (T : TS) (L : List SR) (e : Ending) (w' : World) : Prop :=
 ∃ (v : Value) (l : List Int), e = .returned v ∧ BytesOf T L l ∧ l.length ≤ 100000000000 ∧ At [TabP t p m ss b] w [rowY v l, TabP t p m ss b] w'
theorem bytes_any {w : World} {t p m : Nat} {ss : List Ses} {b : Lock.Bk} (h : Sep [TabP t p m ss b] w) {T : TS} (hR : TRel ss b T) {L : List SR} (hL : Rel T.S L) {k : Nat} (hi : TInv T k) (hf : Lock.Feet T.L) (hk : k ≤ 400) :
 Calls Tryz.prog 24 #[.pointer (some ⟨t, 0, none⟩)] w (BytesP w t p m ss b T L) := by
 have hb := Rel.bounds hL hi.s
 have hLl : (encL L).length ≤ 3000000000 := encL_len (sr_ok hL hi.s) (by omega)
 have hRs : Rel ss L := Rel.zs (by rw [hR.S]; exact hL)
 have hbs : (⟨b.p, b.m, b.c⟩ : Lock.Pl).at b.st = b := rfl
 have hli : Lock.Inv b.st k := by rw [hR.L]; exact hi.lock
 have hlf : Lock.Feet b.st := by rw [hR.L]; exact hf
 have hB0 := fun (es : List Ent) (cs : List (ByteArray × Int)) (h1 : es.Perm b.st.es) (h2 : cs.Perm b.st.cs) => encB_len (T := T) hi.lock hf (by omega) (es := es) (cs := cs) (by rw [← hR.L]; exact h1) (by rw [← hR.L]; exact h2)
 have hRL := Lib.hid hR.L
 have hb' := Lib.hid hb
 have hLl' := Lib.hid hLl
 have hRs' := Lib.hid hRs
 have hli' := Lib.hid hli
 have hlf' := Lib.hid hlf
 have hB0' := Lib.hid hB0
 clear hR hL hi hf hb hLl hRs hli hlf hB0 hbs
 have hA := tab_begin h
 clear h
 have hF := hA.facts; (try simp only [uZ] at hA hF)
 go_enter Tryz.func24, Tryz.ntmps24
 go_wp2_with ((with_reducible refine gbx ?_); refine wH 113 [.slice none 0 0] hA ?_; clear hF hA; intro b5 w1 hA hb5 hF; (try simp only [uZ] at hA hF))
 have hC := Wire.rowY_nil hA
 refine (Lease.put_any (hC.sep3 (A := Lease.BookP p m ss) (B := outC b5 (.slice none 0 0)) (C := rowY (.slice none 0 0) []) sZ sZ sZ) hRs'.out hb'.out.1 (by have := hb'.out.2; omega) (by simp)).mono ?_
 rintro e w1 ⟨rfl, u1, hT⟩
 have hB := hC.call3 (A := Lease.BookP p m ss) (B := outC b5 (.slice none 0 0)) (C := rowY (.slice none 0 0) []) sZ sZ sZ hT
 clear hT hC
 clear hF hA; have hA := hB; clear hB
 try simp only [uA] at hA
 have hF := hA.facts; (try simp only [uZ] at hA hF)
 go_wp2_with fail
 refine (Lock.put_any (a := ⟨b.p, b.m, b.c⟩) (s := b.st) (hA.sep3 (A := Lock.BookP b) (B := outC b5 u1) (C := rowY u1 (encL L)) sZ sZ sZ) hli'.out hlf'.out (by omega) (by have := hLl'.out; omega)).mono ?_
 rintro e w1 ⟨es, cs, u2, rfl, p1, p2, p3, p4, hT⟩
 have hB := hA.call3 (A := Lock.BookP b) (B := outC b5 u1) (C := rowY u1 (encL L)) sZ sZ sZ hT
 clear hT
 clear hF hA; have hA := hB; clear hB
 try simp only [uA] at hA
 have hF := hA.facts; (try simp only [uZ] at hA hF)
 have hll : (encL L ++ encB es cs).length ≤ 100000000000 := by
  have h1 := hB0'.out es cs p1 p3
  have h2 := hLl'.out
  rw [List.length_append]
  omega
 have hbo : BytesOf T L (encL L ++ encB es cs) := ⟨es, cs, ⟨by rw [← hRL.out]; exact p1, p2, by rw [← hRL.out]; exact p3, p4⟩, rfl⟩
 have hll' := Lib.hid hll
 have hbo' := Lib.hid hbo
 clear hll hbo p1 p2 p3 p4
 generalize encL L ++ encB es cs = l at *
 go_wp2_with fail
 refine (Wire.outBytes (hA.sep2 (A := outC b5 u2) (B := rowY u2 l) sZ sZ) (by have := hll'.out; omega)).mono ?_
 rintro e w1 ⟨v, rfl, hT⟩
 have hB := hA.call2 (A := outC b5 u2) (B := rowY u2 l) sZ sZ hT
 clear hT
 clear hF hA; have hA := hB; clear hB
 try simp only [uA] at hA
 have hF := hA.facts; (try simp only [uZ] at hA hF)
 go_wp2_with fail
 go_ret
 exact ⟨v, l, rfl, hbo'.out, hll'.out, (tab_in (ss := ss) (b := b) hA sZ sZ sZ).pick pZ⟩
end Go.Proofs.YtpebabaigakagaaGreatDoor.Tab
end
section
namespace Go.Proofs.YtpebabaigakagaaGreatDoor.Tab
open Go.RowKit
open Path (bl rightB overB aboveB)
open Lease (Ses Ans fresh Turned)
open Lock (S3 Ent)
open Cmd (Cm rightC)
attribute [-go_sem] run_eql_struct run_neq_struct run_eqGuard_agg
def okS (c : Cm) : Bool := !decide (100 < c.path.size) && !decide (100 < c.foot.size)
def smallB (l : List Cm) (most : Int) : Bool := l.all okS && decide ((l.length : Int) ≤ most)
def SmRel (w : World) (R : Part) (l : List Cm) (k : Nat) (u : Value) (wr : World) : Prop :=
 ∃ i : Nat, u = .int .i64 i ∧ i + k = l.length ∧ (l.take i).all okS = true ∧ At [R] w [R] wr
theorem small_any {w : World} {R : Part} (h : Sep [R] w) {v : Value} {l : List Cm} (hr : ReadsC R v l) (hl : l.length ≤ 9223372036854775807) (hsz : ∀ c ∈ l, c.path.size ≤ maxLen ∧ c.foot.size ≤ maxLen) (most : Int) :
 Calls Tryz.prog 9 #[v, .int .i64 most] w fun e w' => e = .returned (.bool (smallB l most)) ∧ At [R] w [R] w' := by
 have hA := At.start h
 obtain ⟨ax, cap, rfl, _, _⟩ := hr w (hA.get .here)
 have hr' := Lib.hid hr
 have hsz' := Lib.hid hsz
 clear h hr hsz
 have hF := hA.facts; (try simp only [uZ] at hA hF)
 go_enter Tryz.func9, Tryz.ntmps9
 go_wp2_with fail
 try go_frame
 clear hF
 go_loopg [9] l.length (SmRel w R l)
 case atStart => exact ⟨0, rfl, by omega, rfl, hA⟩
 case round =>
  obtain ⟨i, rfl, hik, hal, hB⟩ := hrel
  clear hA; have hA := hB; clear hB
  have hal' := Lib.hid hal
  clear hal
  by_cases hi : i < l.length
  · skip
    have hiI : (i : Int) < l.length := by omega
    obtain ⟨c, hc⟩ : ∃ c, l[i]? = some c := ⟨_, List.getElem?_eq_getElem hi⟩
    have hcm := List.mem_of_getElem? hc
    have hcs := hsz'.out c hcm
    have htk : l.take (i + 1) = l.take i ++ [c] := by rw [List.take_add_one, hc]; rfl
    have hnx := Lib.hid (show (l.take (i + 1)).all okS = okS c by rw [htk, List.all_append, hal'.out]; simp)
    have hbad := Lib.hid (show okS c = false → smallB l most = false from fun q => by
     unfold smallB
     rw [show l.all okS = false from by
      cases h : l.all okS with
      | false => rfl
      | true => rw [List.all_eq_true.1 h c hcm] at q; cases q]
     rfl)
    obtain ⟨bl0, ofl, hax⟩ : ∃ b0 o0, ax = some ⟨b0, o0, none⟩ := by
     obtain ⟨ax2, c2, e2, _, hr2⟩ := hr'.out _ (hA.get (A := R) sZ)
     cases e2
     have hf := flat_at Cm.cells 8 (fun _ => rfl) l i c hc 0 (by omega)
     obtain ⟨b0, o0, e3, _⟩ := hr2 (i * 8 + 0) _ hf
     exact ⟨b0, o0, e3⟩
    subst hax
    have hrc := reads_cm hr'.out hc _ (hA.get (A := R) sZ)
    clear htk hc hcm
    obtain ⟨kind, num, foot, req, path, mode, n, time⟩ := c
    have hrc' := Lib.hid (show ∀ (k : Nat) u, ([.int .i64 kind, .int .u64 num, .string foot, .int .u64 req, .string path, .int .i64 mode, .int .u64 n, .int .i64 time] : List Value)[k]? = some u → wr.cell? ⟨bl0, ofl + i * 8 + k, none⟩ = some u from hrc)
    clear hrc
    simp only [okS] at hnx hbad hcs
    obtain ⟨d1, hd1⟩ : ∃ d, decide (100 < path.size) = d := ⟨_, rfl⟩
    obtain ⟨d2, hd2⟩ : ∃ d, decide (100 < foot.size) = d := ⟨_, rfl⟩
    simp only [hd1, hd2] at hnx hbad
    have hI1 : decide ((100 : Int) < (path.size : Int)) = d1 := by rw [← hd1, decide_eq_decide]; omega
    have hI2 : decide ((100 : Int) < (foot.size : Int)) = d2 := by rw [← hd2, decide_eq_decide]; omega
    have hF := hA.facts; (try simp only [uZ] at hA hF)
    cases d1
    · cases d2
      · have hp1 : ¬ (100 : Int) < path.size := of_decide_eq_false hI1
        have hp2 : ¬ (100 : Int) < foot.size := of_decide_eq_false hI2
        go_wp2_with (first | ((with_reducible refine gal ?_); refine wG 29 [.int .i64 0, .int .u64 0, .string .empty, .int .u64 0, .string .empty, .int .i64 0, .int .u64 0, .int .i64 0] hA ?_; clear hF hA; intro b6 w1 hA hb6 hF; (try simp only [uZ] at hA hF)) | ((with_reducible show wpList _ _ _ ({ dst := some 12, op := Op.load _ _, type := _, pos := _, after := _, guard := _ } :: _) _ _); refine wpList_loadRow_at (vs := [.int .i64 kind, .int .u64 num, .string foot, .int .u64 req, .string path, .int .i64 mode, .int .u64 n, .int .i64 time]) rfl rfl (by (try simp only [Act.eval, eV]) <;> exact rfl) hrc'.out (by kernel_rfl) (by kernel_rfl) ?_) | ((with_reducible refine gst ?_); refine wT hA ?_; clear hF hA; intro w1 hA hF; (try simp only [uZ] at hA hF)))
        go_roundg (gk - 1)
        case measure => omega
        case rel => exact ⟨i + 1, by simp, by omega, by rw [hnx.out]; rfl, hA.pick pZ⟩
      · have hp1 : ¬ (100 : Int) < path.size := of_decide_eq_false hI1
        have hp2 : (100 : Int) < foot.size := of_decide_eq_true hI2
        go_wp2_with (first | ((with_reducible refine gal ?_); refine wG 29 [.int .i64 0, .int .u64 0, .string .empty, .int .u64 0, .string .empty, .int .i64 0, .int .u64 0, .int .i64 0] hA ?_; clear hF hA; intro b6 w1 hA hb6 hF; (try simp only [uZ] at hA hF)) | ((with_reducible show wpList _ _ _ ({ dst := some 12, op := Op.load _ _, type := _, pos := _, after := _, guard := _ } :: _) _ _); refine wpList_loadRow_at (vs := [.int .i64 kind, .int .u64 num, .string foot, .int .u64 req, .string path, .int .i64 mode, .int .u64 n, .int .i64 time]) rfl rfl (by (try simp only [Act.eval, eV]) <;> exact rfl) hrc'.out (by kernel_rfl) (by kernel_rfl) ?_) | ((with_reducible refine gst ?_); refine wT hA ?_; clear hF hA; intro w1 hA hF; (try simp only [uZ] at hA hF)))
        go_ret
        exact ⟨by rw [hbad.out rfl]; rfl, hA.pick pZ⟩
    · have hp1 : (100 : Int) < path.size := of_decide_eq_true hI1
      go_wp2_with (first | ((with_reducible refine gal ?_); refine wG 29 [.int .i64 0, .int .u64 0, .string .empty, .int .u64 0, .string .empty, .int .i64 0, .int .u64 0, .int .i64 0] hA ?_; clear hF hA; intro b6 w1 hA hb6 hF; (try simp only [uZ] at hA hF)) | ((with_reducible show wpList _ _ _ ({ dst := some 12, op := Op.load _ _, type := _, pos := _, after := _, guard := _ } :: _) _ _); refine wpList_loadRow_at (vs := [.int .i64 kind, .int .u64 num, .string foot, .int .u64 req, .string path, .int .i64 mode, .int .u64 n, .int .i64 time]) rfl rfl (by (try simp only [Act.eval, eV]) <;> exact rfl) hrc'.out (by kernel_rfl) (by kernel_rfl) ?_) | ((with_reducible refine gst ?_); refine wT hA ?_; clear hF hA; intro w1 hA hF; (try simp only [uZ] at hA hF)))
      go_ret
      exact ⟨by rw [hbad.out (by cases d2 <;> rfl)]; rfl, hA.pick pZ⟩
  · have hi2 : i = l.length := by omega
    subst hi2
    rw [List.take_of_length_le (Nat.le_refl _)] at hal'
    have hF := hA.facts; (try simp only [uZ] at hA hF)
    go_wp2_with fail
    go_ret
    refine ⟨?_, hA.pick pZ⟩
    unfold smallB
    rw [hal'.out, Bool.true_and]
    rfl
end Go.Proofs.YtpebabaigakagaaGreatDoor.Tab
end
