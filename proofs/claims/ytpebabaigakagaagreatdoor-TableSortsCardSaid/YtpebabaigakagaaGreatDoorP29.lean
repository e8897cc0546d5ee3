/- PutL, LockS, joined. -/
import Derived.Test.YtpebabaigakagaaGreatDoorP27
import Derived.Test.YtpebabaigakagaaGreatDoorP19
import Derived.Test.YtpebabaigakagaaGreatDoorP28
import Derived.Test.YtpebabaigakagaaGreatDoorP9
set_option linter.unusedSimpArgs false
set_option linter.unusedVariables false
set_option maxRecDepth 100000
set_option maxHeartbeats 16000000
section
namespace Go.Proofs.YtpebabaigakagaaGreatDoor.Lease
open Go.RowKit
open _root_.Go.Proofs.YtpebabaigakagaaGreatDoor.Wire
open _root_.Go.Proofs.YtpebabaigakagaaGreatDoor.Sess (seL sortS)
attribute [-go_sem] run_eql_struct run_neq_struct run_eqGuard_agg
def wrN (e : Int) : Nat := (e % 18446744073709551616).toNat
def bB (t : Bool) : List Int := [if t then (1 : Int) else 0]
def encA (a : AR) : List Int := shortN a.r.toNat ++ shortN (wrN a.e) ++ fixL a.n.toNat ++ bB a.g
def encS (s : SR) : List Int := fixL s.num.toNat ++ textB s.foot ++ bB s.op ++ bB s.dead ++ shortN s.dl.toNat ++ shortN s.ttl.toNat ++ shortN s.told.length ++ s.told.flatMap encA
def encL (L : List SR) : List Int := shortN L.length ++ L.flatMap encS
theorem OutPost.r {w w' : World} {b : Nat} {u : Value} {l m : List Int} {e : Ending} (h : OutPost w b u l m e w') : ∃ x, e = .returned x ∧ (x = .pointer (some ⟨b, 0, none⟩) ∧ ∃ u', At [outC b u, rowY u l] w [outC b u', rowY u' (l ++ m)] w') := by
 obtain ⟨u', rfl, hT⟩ := h
 exact ⟨_, rfl, rfl, u', hT⟩
theorem textB_len (s : ByteArray) (h : s.size ≤ 20000000000000) : (textB s).length ≤ 10 + s.size := by
 have h1 := short_len 9 s.size (by omega)
 unfold textB
 rw [List.length_append, textL_len]
 omega
def PvRel (w : World) (p m b g bI bK : Nat) (ss : List Ses) (c cI cK : List Value) (u00 : Value) (l00 : List Int) (l7 : List Int) (told : List AR) (vq : Value) (k : Nat) (x : Value) (wr : World) : Prop :=
 ∃ (j : Nat) (u : Value) (l : List Int), x = .int .i64 j ∧ j + k = told.length ∧ l = l7 ++ (told.take j).flatMap encA ∧ l.length ≤ l7.length + j * 29 ∧ At [BookP p m ss, outC b u00, rowY u00 l00] w [Part.row 22 1 vq told.length ((told.map (·.r)).flatMap Unt.seL), outC b u, rowY u l, .cells bI cI 38, BookP p m ss, .cells bK cK 25, .cells g c 25] wr
def PuRel (w : World) (p m b : Nat) (ss : List Ses) (L : List SR) (u0 : Value) (l0 : List Int) (vl : Value) (k : Nat) (x : Value) (wr : World) : Prop :=
 ∃ (i : Nat) (u : Value) (l : List Int), x = .int .i64 i ∧ i + k = L.length ∧ l = l0 ++ shortN L.length ++ (L.take i).flatMap encS ∧ l.length ≤ l0.length + 10 + i * 2100000 ∧ At [BookP p m ss, outC b u0, rowY u0 l0] w [Part.row 25 2 vl L.length ((L.map keyR).flatMap seL), BookP p m ss, outC b u, rowY u l] wr
theorem put_any {w : World} {p m b : Nat} {ss : List Ses} {L : List SR} {u00 : Value} {l00 : List Int} (h : Sep [BookP p m ss, outC b u00, rowY u00 l00] w) (hR : Rel ss L) (hk : ∀ s ∈ L, 0 ≤ s.num ∧ s.num < big64 ∧ s.foot.size ≤ 2000000) (hl : L.length ≤ 100000) (hl0 : l00.length ≤ 1000000000000) :
 Calls Tryz.prog 48 #[.pointer (some ⟨p, 0, none⟩), .pointer (some ⟨b, 0, none⟩)] w fun e w' => e = .returned (.tuple #[]) ∧ ∃ u, At [BookP p m ss, outC b u00, rowY u00 l00] w [BookP p m ss, outC b u, rowY u (l00 ++ encL L)] w' := by
 have hm : Tryz.prog.follows .mixedOrders = true := by kernel_rfl
 have hA := At.start h
 have hF := hA.facts
 clear h
 have hR' := Lib.hid hR
 have hk' := Lib.hid hk
 have hss : ss.length ≤ 1000000 := by rw [hR.len]; omega
 clear hR hk
 have hF := hA.facts; (try simp only [uZ] at hA hF)
 go_enter Tryz.func48, Tryz.ntmps48
 go_wp2_with fail
 refine (sessions_all (hA.sep1 (A := BookP p m ss) sR) hss).mono ?_
 rintro e w1 ⟨vl, rfl, hT⟩
 have hB := hA.call1 (A := BookP p m ss) sR hT
 rw [hR'.out.sessions] at hB
 simp only [uA] at hB
 clear hF hA hT
 have hA : At _ w (Part.row 25 2 vl (L.map keyR).length ((L.map keyR).flatMap seL) :: _) _ := hB
 clear hB
 rw [List.length_map] at hA
 obtain ⟨lx, lcap, rfl, hlx, hlcap, _⟩ := hA.row_form (v := vl) (n := L.length) (xs := (L.map keyR).flatMap seL) sR
 have hwL : IntKind.u64.wrap (L.length : Int) = (L.length : Int) := by rw [IntKind.wrap_u64]; omega
 have hF := hA.facts; (try simp only [uZ] at hA hF)
 go_wp2_with fail
 refine (outShort (hA.sep2 (A := outC b u00) (B := rowY u00 l00) sR sR) L.length (by omega) (by omega)).mono ?_
 rintro e w2 ⟨u1, rfl, hT⟩
 have hB := hA.call2 (A := outC b u00) (B := rowY u00 l00) sR sR hT
 have hsl := short_len 9 L.length (by omega)
 clear hF hA hT; have hA := hB; clear hB
 simp only [uA] at hA
 have hF := hA.facts; (try simp only [uZ] at hA hF)
 go_wp2_with fail
 try go_frame
 go_loopg [21] L.length (PuRel w p m b ss L u00 l00 (.slice lx L.length lcap))
 case atStart => exact ⟨0, u1, l00 ++ shortN L.length, rfl, by simp, by simp, by rw [List.length_append]; omega, hA.pick pZ⟩
 case round =>
  obtain ⟨i, u0, l0, rfl, hik, hle, hll, hB⟩ := hrel
  have hle' := Lib.hid hle
  clear hF hA hle hsl; have hA := hB; clear hB
  by_cases hi : i < L.length
  · have hmem := List.getElem_mem hi
    obtain ⟨n0, n1, hfz⟩ := hk'.out _ hmem
    have hrs := hR'.out.mine hmem
    have htk := Lib.hid (List.take_succ_eq_append_getElem hi)
    obtain ⟨g, c, rfl, cp1, cm, cl, ct, hB⟩ := hA.row_open (ax := lx) (cap := lcap) (n := L.length) (xs := (L.map keyR).flatMap seL) sR (by omega)
    have hx : (L.map keyR)[i]? = some (keyR L[i]) := by rw [List.getElem?_map, List.getElem?_eq_getElem hi]; rfl
    have ct2 : c.take ((L.map keyR).length * 2) = (L.map keyR).flatMap seL := by rw [List.length_map]; exact ct
    have c0 : c[i * 2]? = some (.int .u64 L[i].num) := cells_at Sess.seL_len ct2 hx 0 (by omega)
    have c1 : c[i * 2 + 1]? = some (.string L[i].foot) := cells_at Sess.seL_len ct2 hx 1 (by omega)
    obtain ⟨s, hs⟩ : ∃ s, L[i] = s := ⟨_, rfl⟩
    rw [hs] at hrs htk c0 c1 n0 n1 hfz
    clear hA hx hs hmem; have hA := hB; clear hB
    obtain ⟨num, foot, op, dead, dl, ttl, sax, scap, told⟩ := s
    simp only at hrs c0 c1 n0 n1 hfz
    have htb := hrs.tb
    have hdb := hrs.db
    have htl := hrs.told.len
    simp only at htb hdb htl
    obtain ⟨num, rfl⟩ : ∃ k : Nat, num = k := ⟨num.toNat, by omega⟩
    obtain ⟨dl, rfl⟩ : ∃ k : Nat, dl = k := ⟨dl.toNat, by omega⟩
    obtain ⟨ttl, rfl⟩ : ∃ k : Nat, ttl = k := ⟨ttl.toNat, by omega⟩
    have hn64 : num < 18446744073709551616 := by unfold big64 at n1; omega
    have hwd : IntKind.u64.wrap (dl : Int) = (dl : Int) := by rw [IntKind.wrap_u64]; omega
    have hwt : IntKind.u64.wrap (ttl : Int) = (ttl : Int) := by rw [IntKind.wrap_u64]; omega
    have hws : IntKind.u64.wrap (told.length : Int) = (told.length : Int) := by rw [IntKind.wrap_u64]; omega
    have hft := textB_len foot (by omega)
    have hmx : foot.size ≤ maxLen := by unfold maxLen; omega
    have hrs' := Lib.hid hrs
    have hib : i * 2100000 ≤ 100000 * 2100000 := Nat.mul_le_mul_right _ (by omega)
    clear hrs
    have hF := hA.facts; (try simp only [uZ] at hA hF)
    go_wp2_with (first | ((with_reducible refine gal ?_); refine wG 25 [.int .u64 0, .string .empty] hA ?_; clear hF hA; intro bK w1 hA hbK hF; (try simp only [uZ] at hA hF)) | ((with_reducible refine gst ?_); refine wT hA ?_; clear hF hA; intro w1 hA hF; (try simp only [uZ] at hA hF)))
    refine (info_look (hA.sep1 (A := BookP p m ss) sR) n0 n1 hmx hrs'.out).mono ?_
    rintro e w3 ⟨rfl, hT⟩
    have hB := hA.call1 (A := BookP p m ss) sR hT
    clear hF hA hT; have hA := hB; clear hB
    simp only [uA] at hA
    have hF := hA.facts; (try simp only [uZ] at hA hF)
    go_wp2_with (first | ((with_reducible refine gal ?_); refine wG 38 [.bool false, .bool false, .int .i64 0, .int .i64 0, .int .i64 0] hA ?_; clear hF hA; intro bI w1 hA hbI hF; (try simp only [uZ] at hA hF)) | ((with_reducible refine gst ?_); refine wT hA ?_; clear hF hA; intro w1 hA hF; (try simp only [uZ] at hA hF)))
    try go_frame
    have hAd := hA.drew
    clear hF hA
    have hA := hAd
    clear hAd
    refine wp_region_held (S := fun w' => BlockIs w' bK [.int .u64 (num : Int), .string foot] 25 ∧ BlockIs w' bI [.bool op, .bool dead, .int .i64 (dl : Int), .int .i64 (ttl : Int), .int .i64 (told.length : Int)] 38) hm ?_
    change wpAnyH _ _ _ _ _ 25 _ _ (World.drew _)
    generalize World.drew _ = w2 at *
    have hS0 := (show BlockIs _ bK [.int .u64 (num : Int), .string foot] 25 ∧ BlockIs _ bI [.bool op, .bool dead, .int .i64 (dl : Int), .int .i64 (ttl : Int), .int .i64 (told.length : Int)] 38 from ⟨hA.get (A := .cells bK [.int .u64 (num : Int), .string foot] 25) sR, hA.get (A := .cells bI [.bool op, .bool dead, .int .i64 (dl : Int), .int .i64 (ttl : Int), .int .i64 (told.length : Int)] 38) sR⟩)
    refine tZ 0 28 ((.pointer (some ⟨b, 0, none⟩))) (r := (fun w' hS => by simp [execOp, go_sem, Act.eval, Act.put])) (s := hS0) (h := ?_)
    go_frame
    refine tZ 1 29 ((.pointer (some ⟨bK, 0, none⟩))) (r := (fun w' hS => by kernel_rfl)) (s := hS0) (h := ?_)
    go_frame
    refine tZ 2 30 ((.int .u64 (num : Int))) (r := (fun w' hS => run_load_one (b := bK) (j := 0) rfl (by exact rfl) hS.1 (by kernel_rfl) rfl)) (s := hS0) (h := ?_)
    go_frame
    refine tZ 4 32 ((.pointer (some ⟨bK, 1, none⟩))) (r := (fun w' hS => by kernel_rfl)) (s := hS0) (h := ?_)
    go_frame
    refine tZ 5 33 ((.string foot)) (r := (fun w' hS => run_load_one (b := bK) (j := 1) rfl (by exact rfl) hS.1 (by kernel_rfl) rfl)) (s := hS0) (h := ?_)
    go_frame
    refine tZ 7 35 ((.pointer (some ⟨bI, 0, none⟩))) (r := (fun w' hS => by kernel_rfl)) (s := hS0) (h := ?_)
    go_frame
    refine tZ 8 36 ((.bool op)) (r := (fun w' hS => run_load_one (b := bI) (j := 0) rfl (by exact rfl) hS.2 (by kernel_rfl) rfl)) (s := hS0) (h := ?_)
    go_frame
    refine tZ 10 38 ((.pointer (some ⟨bI, 1, none⟩))) (r := (fun w' hS => by kernel_rfl)) (s := hS0) (h := ?_)
    go_frame
    refine tZ 11 39 ((.bool dead)) (r := (fun w' hS => run_load_one (b := bI) (j := 1) rfl (by exact rfl) hS.2 (by kernel_rfl) rfl)) (s := hS0) (h := ?_)
    go_frame
    refine tZ 13 41 ((.pointer (some ⟨bI, 2, none⟩))) (r := (fun w' hS => by kernel_rfl)) (s := hS0) (h := ?_)
    go_frame
    refine tZ 14 42 ((.int .i64 (dl : Int))) (r := (fun w' hS => run_load_one (b := bI) (j := 2) rfl (by exact rfl) hS.2 (by kernel_rfl) rfl)) (s := hS0) (h := ?_)
    go_frame
    refine tZ 15 43 ((.int .u64 (dl : Int))) (r := (fun w' hS => by simp [execOp, go_sem, Act.eval, Act.put, hwd])) (s := hS0) (h := ?_)
    go_frame
    refine tZ 17 45 ((.pointer (some ⟨bI, 3, none⟩))) (r := (fun w' hS => by kernel_rfl)) (s := hS0) (h := ?_)
    go_frame
    refine tZ 18 46 ((.int .i64 (ttl : Int))) (r := (fun w' hS => run_load_one (b := bI) (j := 3) rfl (by exact rfl) hS.2 (by kernel_rfl) rfl)) (s := hS0) (h := ?_)
    go_frame
    refine tZ 19 47 ((.int .u64 (ttl : Int))) (r := (fun w' hS => by simp [execOp, go_sem, Act.eval, Act.put, hwt])) (s := hS0) (h := ?_)
    go_frame
    refine tZ 21 49 ((.pointer (some ⟨bI, 4, none⟩))) (r := (fun w' hS => by kernel_rfl)) (s := hS0) (h := ?_)
    go_frame
    refine tZ 22 50 ((.int .i64 (told.length : Int))) (r := (fun w' hS => run_load_one (b := bI) (j := 4) rfl (by exact rfl) hS.2 (by kernel_rfl) rfl)) (s := hS0) (h := ?_)
    go_frame
    refine tZ 23 51 ((.int .u64 (told.length : Int))) (r := (fun w' hS => by simp [execOp, go_sem, Act.eval, Act.put, hws])) (s := hS0) (h := ?_)
    go_frame
    clear hS0
    refine wpAnyH_one (i := 3) (by kernel_rfl) ?_
    refine opCall_at (i := 3) (d := some 31) rfl rfl rfl (fn := 73) (args := #[(.pointer (some ⟨b, 0, none⟩)), .int .u64 (num : Int)]) (by simp [execOp, go_sem, Act.eval, Act.put]) ((outFixed (hA.sep2 (A := outC b u0) (B := rowY u0 l0) sR sR) num hn64 (by omega)).mono (fun e w' h => OutPost.r h)) ?_
    rintro xq zq ⟨rfl, u1, hT⟩
    have hB := hA.call2 (A := outC b u0) (B := rowY u0 l0) sR sR hT
    obtain ⟨l1, he1⟩ : ∃ z, l0 ++ fixL num = z := ⟨_, rfl⟩
    have hl1 : l1.length ≤ l0.length + 8 := by have := (show (fixL num).length ≤ 8 from by simp [fixL]); rw [← he1, List.length_append]; omega
    rw [he1] at hB
    have he1' := Lib.hid he1
    clear hA hT he1; have hA := hB; clear hB
    simp only [uA] at hA
    refine ⟨(show BlockIs _ bK [.int .u64 (num : Int), .string foot] 25 ∧ BlockIs _ bI [.bool op, .bool dead, .int .i64 (dl : Int), .int .i64 (ttl : Int), .int .i64 (told.length : Int)] 38 from ⟨hA.get (A := .cells bK [.int .u64 (num : Int), .string foot] 25) sR, hA.get (A := .cells bI [.bool op, .bool dead, .int .i64 (dl : Int), .int .i64 (ttl : Int), .int .i64 (told.length : Int)] 38) sR⟩), ?_⟩
    go_frame
    refine wpAnyH_one (i := 6) (by kernel_rfl) ?_
    refine opCall_at (i := 6) (d := some 34) rfl rfl rfl (fn := 74) (args := #[(.pointer (some ⟨b, 0, none⟩)), .string foot]) (by simp [execOp, go_sem, Act.eval, Act.put]) ((outText (hA.sep2 (A := outC b u1) (B := rowY u1 l1) sR sR) foot (by omega) (by omega)).mono (fun e w' h => OutPost.r h)) ?_
    rintro xq zq ⟨rfl, u2, hT⟩
    have hB := hA.call2 (A := outC b u1) (B := rowY u1 l1) sR sR hT
    obtain ⟨l2, he2⟩ : ∃ z, l1 ++ textB foot = z := ⟨_, rfl⟩
    have hl2 : l2.length ≤ l1.length + (10 + foot.size) := by have := hft; rw [← he2, List.length_append]; omega
    rw [he2] at hB
    have he2' := Lib.hid he2
    clear hA hT he2; have hA := hB; clear hB
    simp only [uA] at hA
    refine ⟨(show BlockIs _ bK [.int .u64 (num : Int), .string foot] 25 ∧ BlockIs _ bI [.bool op, .bool dead, .int .i64 (dl : Int), .int .i64 (ttl : Int), .int .i64 (told.length : Int)] 38 from ⟨hA.get (A := .cells bK [.int .u64 (num : Int), .string foot] 25) sR, hA.get (A := .cells bI [.bool op, .bool dead, .int .i64 (dl : Int), .int .i64 (ttl : Int), .int .i64 (told.length : Int)] 38) sR⟩), ?_⟩
    go_frame
    refine wpAnyH_one (i := 9) (by kernel_rfl) ?_
    refine opCall_at (i := 9) (d := some 37) rfl rfl rfl (fn := 75) (args := #[(.pointer (some ⟨b, 0, none⟩)), .bool op]) (by simp [execOp, go_sem, Act.eval, Act.put]) ((outTruth (hA.sep2 (A := outC b u2) (B := rowY u2 l2) sR sR) op (by omega)).mono (fun e w' h => OutPost.r h)) ?_
    rintro xq zq ⟨rfl, u3, hT⟩
    have hB := hA.call2 (A := outC b u2) (B := rowY u2 l2) sR sR hT
    obtain ⟨l3, he3⟩ : ∃ z, l2 ++ [if op then (1 : Int) else 0] = z := ⟨_, rfl⟩
    have hl3 : l3.length ≤ l2.length + 1 := by have := (show ([if op then (1 : Int) else 0] : List Int).length ≤ 1 from Nat.le_refl _); rw [← he3, List.length_append]; omega
    rw [he3] at hB
    have he3' := Lib.hid he3
    clear hA hT he3; have hA := hB; clear hB
    simp only [uA] at hA
    refine ⟨(show BlockIs _ bK [.int .u64 (num : Int), .string foot] 25 ∧ BlockIs _ bI [.bool op, .bool dead, .int .i64 (dl : Int), .int .i64 (ttl : Int), .int .i64 (told.length : Int)] 38 from ⟨hA.get (A := .cells bK [.int .u64 (num : Int), .string foot] 25) sR, hA.get (A := .cells bI [.bool op, .bool dead, .int .i64 (dl : Int), .int .i64 (ttl : Int), .int .i64 (told.length : Int)] 38) sR⟩), ?_⟩
    go_frame
    refine wpAnyH_one (i := 12) (by kernel_rfl) ?_
    refine opCall_at (i := 12) (d := some 40) rfl rfl rfl (fn := 75) (args := #[(.pointer (some ⟨b, 0, none⟩)), .bool dead]) (by simp [execOp, go_sem, Act.eval, Act.put]) ((outTruth (hA.sep2 (A := outC b u3) (B := rowY u3 l3) sR sR) dead (by omega)).mono (fun e w' h => OutPost.r h)) ?_
    rintro xq zq ⟨rfl, u4, hT⟩
    have hB := hA.call2 (A := outC b u3) (B := rowY u3 l3) sR sR hT
    obtain ⟨l4, he4⟩ : ∃ z, l3 ++ [if dead then (1 : Int) else 0] = z := ⟨_, rfl⟩
    have hl4 : l4.length ≤ l3.length + 1 := by have := (show ([if dead then (1 : Int) else 0] : List Int).length ≤ 1 from Nat.le_refl _); rw [← he4, List.length_append]; omega
    rw [he4] at hB
    have he4' := Lib.hid he4
    clear hA hT he4; have hA := hB; clear hB
    simp only [uA] at hA
    refine ⟨(show BlockIs _ bK [.int .u64 (num : Int), .string foot] 25 ∧ BlockIs _ bI [.bool op, .bool dead, .int .i64 (dl : Int), .int .i64 (ttl : Int), .int .i64 (told.length : Int)] 38 from ⟨hA.get (A := .cells bK [.int .u64 (num : Int), .string foot] 25) sR, hA.get (A := .cells bI [.bool op, .bool dead, .int .i64 (dl : Int), .int .i64 (ttl : Int), .int .i64 (told.length : Int)] 38) sR⟩), ?_⟩
    go_frame
    refine wpAnyH_one (i := 16) (by kernel_rfl) ?_
    refine opCall_at (i := 16) (d := some 44) rfl rfl rfl (fn := 72) (args := #[(.pointer (some ⟨b, 0, none⟩)), .int .u64 (dl : Int)]) (by simp [execOp, go_sem, Act.eval, Act.put]) ((outShort (hA.sep2 (A := outC b u4) (B := rowY u4 l4) sR sR) (dl) (by omega) (by omega)).mono (fun e w' h => OutPost.r h)) ?_
    rintro xq zq ⟨rfl, u5, hT⟩
    have hB := hA.call2 (A := outC b u4) (B := rowY u4 l4) sR sR hT
    obtain ⟨l5, he5⟩ : ∃ z, l4 ++ shortN (dl) = z := ⟨_, rfl⟩
    have hl5 : l5.length ≤ l4.length + 10 := by have := short_len 9 (dl) (by omega); rw [← he5, List.length_append]; omega
    rw [he5] at hB
    have he5' := Lib.hid he5
    clear hA hT he5; have hA := hB; clear hB
    simp only [uA] at hA
    refine ⟨(show BlockIs _ bK [.int .u64 (num : Int), .string foot] 25 ∧ BlockIs _ bI [.bool op, .bool dead, .int .i64 (dl : Int), .int .i64 (ttl : Int), .int .i64 (told.length : Int)] 38 from ⟨hA.get (A := .cells bK [.int .u64 (num : Int), .string foot] 25) sR, hA.get (A := .cells bI [.bool op, .bool dead, .int .i64 (dl : Int), .int .i64 (ttl : Int), .int .i64 (told.length : Int)] 38) sR⟩), ?_⟩
    go_frame
    refine wpAnyH_one (i := 20) (by kernel_rfl) ?_
    refine opCall_at (i := 20) (d := some 48) rfl rfl rfl (fn := 72) (args := #[(.pointer (some ⟨b, 0, none⟩)), .int .u64 (ttl : Int)]) (by simp [execOp, go_sem, Act.eval, Act.put]) ((outShort (hA.sep2 (A := outC b u5) (B := rowY u5 l5) sR sR) (ttl) (by omega) (by omega)).mono (fun e w' h => OutPost.r h)) ?_
    rintro xq zq ⟨rfl, u6, hT⟩
    have hB := hA.call2 (A := outC b u5) (B := rowY u5 l5) sR sR hT
    obtain ⟨l6, he6⟩ : ∃ z, l5 ++ shortN (ttl) = z := ⟨_, rfl⟩
    have hl6 : l6.length ≤ l5.length + 10 := by have := short_len 9 (ttl) (by omega); rw [← he6, List.length_append]; omega
    rw [he6] at hB
    have he6' := Lib.hid he6
    clear hA hT he6; have hA := hB; clear hB
    simp only [uA] at hA
    refine ⟨(show BlockIs _ bK [.int .u64 (num : Int), .string foot] 25 ∧ BlockIs _ bI [.bool op, .bool dead, .int .i64 (dl : Int), .int .i64 (ttl : Int), .int .i64 (told.length : Int)] 38 from ⟨hA.get (A := .cells bK [.int .u64 (num : Int), .string foot] 25) sR, hA.get (A := .cells bI [.bool op, .bool dead, .int .i64 (dl : Int), .int .i64 (ttl : Int), .int .i64 (told.length : Int)] 38) sR⟩), ?_⟩
    go_frame
    refine wpAnyH_one (i := 24) (by kernel_rfl) ?_
    refine opCall_at (i := 24) (d := some 52) rfl rfl rfl (fn := 72) (args := #[(.pointer (some ⟨b, 0, none⟩)), .int .u64 (told.length : Int)]) (by simp [execOp, go_sem, Act.eval, Act.put]) ((outShort (hA.sep2 (A := outC b u6) (B := rowY u6 l6) sR sR) (told.length) (by omega) (by omega)).mono (fun e w' h => OutPost.r h)) ?_
    rintro xq zq ⟨rfl, u7, hT⟩
    have hB := hA.call2 (A := outC b u6) (B := rowY u6 l6) sR sR hT
    obtain ⟨l7, he7⟩ : ∃ z, l6 ++ shortN (told.length) = z := ⟨_, rfl⟩
    have hl7 : l7.length ≤ l6.length + 10 := by have := short_len 9 (told.length) (by omega); rw [← he7, List.length_append]; omega
    rw [he7] at hB
    have he7' := Lib.hid he7
    clear hA hT he7; have hA := hB; clear hB
    simp only [uA] at hA
    refine ⟨(show BlockIs _ bK [.int .u64 (num : Int), .string foot] 25 ∧ BlockIs _ bI [.bool op, .bool dead, .int .i64 (dl : Int), .int .i64 (ttl : Int), .int .i64 (told.length : Int)] 38 from ⟨hA.get (A := .cells bK [.int .u64 (num : Int), .string foot] 25) sR, hA.get (A := .cells bI [.bool op, .bool dead, .int .i64 (dl : Int), .int .i64 (ttl : Int), .int .i64 (told.length : Int)] 38) sR⟩), ?_⟩
    go_frame
    refine wpAnyH_done (by kernel_rfl) ?_ _
    try go_frame
    have hF := hA.facts; (try simp only [uZ] at hA hF)
    go_wp2_with fail
    refine (requests_look (hA.sep1 (A := BookP p m ss) sR) n0 n1 hmx hrs'.out).mono ?_
    rintro e w4 ⟨vq, rfl, hT⟩
    have hB := hA.call1 (A := BookP p m ss) sR hT
    clear hF hA hT; have hA := hB; clear hB
    simp only [uA] at hA
    have hB : At _ w (Part.row 22 1 vq (told.map (·.r)).length ((told.map (·.r)).flatMap Unt.seL) :: _) _ := hA
    rw [List.length_map] at hB
    clear hA; have hA := hB; clear hB
    obtain ⟨qx, qcap, rfl, hqx, hqcap, _⟩ := hA.row_form (v := vq) (n := told.length) (xs := (told.map (·.r)).flatMap Unt.seL) sR
    have hF := hA.facts; (try simp only [uZ] at hA hF)
    go_wp2_with fail
    try go_frame
    go_loopg [57] told.length (PvRel w p m b g bI bK ss c [.bool op, .bool dead, .int .i64 (dl : Int), .int .i64 (ttl : Int), .int .i64 (told.length : Int)] [.int .u64 (num : Int), .string foot] u00 l00 l7 told (.slice qx told.length qcap))
    case atStart => exact ⟨0, u7, l7, rfl, by simp, by simp, by omega, hA.pick pZ⟩
    case round =>
     obtain ⟨j, u20, l20, rfl, hjk, hje, hjl, hB⟩ := hrel
     have hje' := Lib.hid hje
     clear hF hA hje; have hA := hB; clear hB
     by_cases hj : j < told.length
     · have hxm := List.getElem_mem hj
       have hxb := hrs'.out.told.bd _ hxm
       have hxa := hrs'.out.told.an _ hxm
       have htj := Lib.hid (List.take_succ_eq_append_getElem hj)
       obtain ⟨gq, cq, rfl, qp1, qm, ql, qt, hB⟩ := hA.row_open (ax := qx) (cap := qcap) (n := told.length) (xs := (told.map (·.r)).flatMap Unt.seL) sR (by omega)
       have hx : (told.map (·.r))[j]? = some told[j].r := by rw [List.getElem?_map, List.getElem?_eq_getElem hj]; rfl
       have qt2 : cq.take ((told.map (·.r)).length * 1) = (told.map (·.r)).flatMap Unt.seL := by rw [List.length_map]; exact qt
       have d0 : cq[j * 1]? = some (.int .u64 told[j].r) := cells_at (enc := Unt.seL) (size := 1) (fun _ => rfl) qt2 hx 0 (by omega)
       rw [Nat.mul_one] at d0
       obtain ⟨y, hy⟩ : ∃ y, told[j] = y := ⟨_, rfl⟩
       rw [hy] at hxm hxb hxa htj d0
       clear hA hx hy; have hA := hB; clear hB
       obtain ⟨r, e, n, gg⟩ := y
       unfold okA at hxa
       simp only at hxb hxa d0
       obtain ⟨⟨xe0, xe1⟩, xn0, xn1⟩ := hxa
       obtain ⟨xr0, xr1⟩ := hxb
       obtain ⟨r, rfl⟩ : ∃ k : Nat, r = k := ⟨r.toNat, by omega⟩
       obtain ⟨n, rfl⟩ : ∃ k : Nat, n = k := ⟨n.toNat, by omega⟩
       have hr64 : r < 18446744073709551616 := by unfold big64 at xr1; omega
       have hn64a : n < 18446744073709551616 := by unfold big64 at xn1; omega
       obtain ⟨eN, heNe⟩ : ∃ k : Nat, wrN e = k := ⟨_, rfl⟩
       have heN : eN < 18446744073709551616 := by rw [← heNe]; unfold wrN; omega
       have hwe : IntKind.u64.wrap e = (eN : Int) := by rw [← heNe, IntKind.wrap_u64]; unfold wrN; omega
       have heNe' := Lib.hid heNe
       have hjb : j * 29 ≤ 256 * 29 := Nat.mul_le_mul_right _ (by omega)
       have htold := told_look (n := (num : Int)) (f := foot) (hA.sep1 (A := BookP p m ss) sR) n0 n1 hmx hrs'.out hxm
       simp only at htold
       clear heNe xe0 xe1 hxm
       have hF := hA.facts; (try simp only [uZ] at hA hF)
       go_wp2_with fail
       refine htold.mono ?_
       clear htold
       rintro e' w5 ⟨rfl, hT⟩
       have hB := hA.call1 (A := BookP p m ss) sR hT
       clear hF hA hT; have hA := hB; clear hB
       simp only [uA] at hA
       have hF := hA.facts; (try simp only [uZ] at hA hF)
       go_wp2_with (first | ((with_reducible refine gal ?_); refine wG 48 [.int .i64 0, .int .u64 0, .bool false] hA ?_; clear hF hA; intro bA w1 hA hbA hF; (try simp only [uZ] at hA hF)) | ((with_reducible refine gst ?_); refine wT hA ?_; clear hF hA; intro w1 hA hF; (try simp only [uZ] at hA hF)))
       try go_frame
       have hAd := hA.drew
       clear hF hA
       have hA := hAd
       clear hAd
       refine wp_region_held (S := fun w' => BlockIs w' bA [.int .i64 e, .int .u64 (n : Int), .bool gg] 48) hm ?_
       change wpAnyH _ _ _ _ _ 13 _ _ (World.drew _)
       generalize World.drew _ = w2 at *
       have hS0 := (show BlockIs _ bA [.int .i64 e, .int .u64 (n : Int), .bool gg] 48 from hA.get (A := .cells bA [.int .i64 e, .int .u64 (n : Int), .bool gg] 48) sR)
       refine tZ 0 68 ((.pointer (some ⟨b, 0, none⟩))) (r := (fun w' hS => by simp [execOp, go_sem, Act.eval, Act.put])) (s := hS0) (h := ?_)
       go_frame
       refine tZ 1 69 ((.int .u64 (r : Int))) (r := (fun w' hS => by simp [execOp, go_sem, Act.eval, Act.put])) (s := hS0) (h := ?_)
       go_frame
       refine tZ 3 71 ((.pointer (some ⟨bA, 0, none⟩))) (r := (fun w' hS => by kernel_rfl)) (s := hS0) (h := ?_)
       go_frame
       refine tZ 4 72 ((.int .i64 e)) (r := (fun w' hS => run_load_one (b := bA) (j := 0) rfl (by exact rfl) hS (by kernel_rfl) rfl)) (s := hS0) (h := ?_)
       go_frame
       refine tZ 5 73 ((.int .u64 (eN : Int))) (r := (fun w' hS => by simp [execOp, go_sem, Act.eval, Act.put, hwe])) (s := hS0) (h := ?_)
       go_frame
       refine tZ 7 75 ((.pointer (some ⟨bA, 1, none⟩))) (r := (fun w' hS => by kernel_rfl)) (s := hS0) (h := ?_)
       go_frame
       refine tZ 8 76 ((.int .u64 (n : Int))) (r := (fun w' hS => run_load_one (b := bA) (j := 1) rfl (by exact rfl) hS (by kernel_rfl) rfl)) (s := hS0) (h := ?_)
       go_frame
       refine tZ 10 78 ((.pointer (some ⟨bA, 2, none⟩))) (r := (fun w' hS => by kernel_rfl)) (s := hS0) (h := ?_)
       go_frame
       refine tZ 11 79 ((.bool gg)) (r := (fun w' hS => run_load_one (b := bA) (j := 2) rfl (by exact rfl) hS (by kernel_rfl) rfl)) (s := hS0) (h := ?_)
       go_frame
       clear hS0
       refine wpAnyH_one (i := 2) (by kernel_rfl) ?_
       refine opCall_at (i := 2) (d := some 70) rfl rfl rfl (fn := 72) (args := #[(.pointer (some ⟨b, 0, none⟩)), .int .u64 (r : Int)]) (by simp [execOp, go_sem, Act.eval, Act.put]) ((outShort (hA.sep2 (A := outC b u20) (B := rowY u20 l20) sR sR) r hr64 (by omega)).mono (fun e w' h => OutPost.r h)) ?_
       rintro xq zq ⟨rfl, u21, hT⟩
       have hB := hA.call2 (A := outC b u20) (B := rowY u20 l20) sR sR hT
       obtain ⟨l21, he21⟩ : ∃ z, l20 ++ shortN r = z := ⟨_, rfl⟩
       have hl21 : l21.length ≤ l20.length + 10 := by have := short_len 9 r (by omega); rw [← he21, List.length_append]; omega
       rw [he21] at hB
       have he21' := Lib.hid he21
       clear hA hT he21; have hA := hB; clear hB
       simp only [uA] at hA
       refine ⟨(show BlockIs _ bA [.int .i64 e, .int .u64 (n : Int), .bool gg] 48 from hA.get (A := .cells bA [.int .i64 e, .int .u64 (n : Int), .bool gg] 48) sR), ?_⟩
       go_frame
       refine wpAnyH_one (i := 6) (by kernel_rfl) ?_
       refine opCall_at (i := 6) (d := some 74) rfl rfl rfl (fn := 72) (args := #[(.pointer (some ⟨b, 0, none⟩)), .int .u64 (eN : Int)]) (by simp [execOp, go_sem, Act.eval, Act.put]) ((outShort (hA.sep2 (A := outC b u21) (B := rowY u21 l21) sR sR) eN heN (by omega)).mono (fun e w' h => OutPost.r h)) ?_
       rintro xq zq ⟨rfl, u22, hT⟩
       have hB := hA.call2 (A := outC b u21) (B := rowY u21 l21) sR sR hT
       obtain ⟨l22, he22⟩ : ∃ z, l21 ++ shortN eN = z := ⟨_, rfl⟩
       have hl22 : l22.length ≤ l21.length + 10 := by have := short_len 9 eN (by omega); rw [← he22, List.length_append]; omega
       rw [he22] at hB
       have he22' := Lib.hid he22
       clear hA hT he22; have hA := hB; clear hB
       simp only [uA] at hA
       refine ⟨(show BlockIs _ bA [.int .i64 e, .int .u64 (n : Int), .bool gg] 48 from hA.get (A := .cells bA [.int .i64 e, .int .u64 (n : Int), .bool gg] 48) sR), ?_⟩
       go_frame
       refine wpAnyH_one (i := 9) (by kernel_rfl) ?_
       refine opCall_at (i := 9) (d := some 77) rfl rfl rfl (fn := 73) (args := #[(.pointer (some ⟨b, 0, none⟩)), .int .u64 (n : Int)]) (by simp [execOp, go_sem, Act.eval, Act.put]) ((outFixed (hA.sep2 (A := outC b u22) (B := rowY u22 l22) sR sR) n hn64a (by omega)).mono (fun e w' h => OutPost.r h)) ?_
       rintro xq zq ⟨rfl, u23, hT⟩
       have hB := hA.call2 (A := outC b u22) (B := rowY u22 l22) sR sR hT
       obtain ⟨l23, he23⟩ : ∃ z, l22 ++ fixL n = z := ⟨_, rfl⟩
       have hl23 : l23.length ≤ l22.length + 8 := by have := (show (fixL n).length ≤ 8 from by simp [fixL]); rw [← he23, List.length_append]; omega
       rw [he23] at hB
       have he23' := Lib.hid he23
       clear hA hT he23; have hA := hB; clear hB
       simp only [uA] at hA
       refine ⟨(show BlockIs _ bA [.int .i64 e, .int .u64 (n : Int), .bool gg] 48 from hA.get (A := .cells bA [.int .i64 e, .int .u64 (n : Int), .bool gg] 48) sR), ?_⟩
       go_frame
       refine wpAnyH_one (i := 12) (by kernel_rfl) ?_
       refine opCall_at (i := 12) (d := some 80) rfl rfl rfl (fn := 75) (args := #[(.pointer (some ⟨b, 0, none⟩)), .bool gg]) (by simp [execOp, go_sem, Act.eval, Act.put]) ((outTruth (hA.sep2 (A := outC b u23) (B := rowY u23 l23) sR sR) gg (by omega)).mono (fun e w' h => OutPost.r h)) ?_
       rintro xq zq ⟨rfl, u24, hT⟩
       have hB := hA.call2 (A := outC b u23) (B := rowY u23 l23) sR sR hT
       obtain ⟨l24, he24⟩ : ∃ z, l23 ++ [if gg then (1 : Int) else 0] = z := ⟨_, rfl⟩
       have hl24 : l24.length ≤ l23.length + 1 := by have := (show ([if gg then (1 : Int) else 0] : List Int).length ≤ 1 from Nat.le_refl _); rw [← he24, List.length_append]; omega
       rw [he24] at hB
       have he24' := Lib.hid he24
       clear hA hT he24; have hA := hB; clear hB
       simp only [uA] at hA
       refine ⟨(show BlockIs _ bA [.int .i64 e, .int .u64 (n : Int), .bool gg] 48 from hA.get (A := .cells bA [.int .i64 e, .int .u64 (n : Int), .bool gg] 48) sR), ?_⟩
       go_frame
       refine wpAnyH_done (by kernel_rfl) ?_ _
       try go_frame
       have hF := hA.facts; (try simp only [uZ] at hA hF)
       go_wp2_with fail
       go_roundg (gk - 1)
       case measure => omega
       case rel =>
        have hS := hA.row_shut (e := 22) (size := 1) (n := told.length) (cap := qcap) (xs := (told.map (·.r)).flatMap Unt.seL) (g := gq) (c := cq) sR ql qp1 qm qt
        refine ⟨j + 1, u24, l24, by simp, by omega, ?_, by omega, hS.pick pZ⟩
        rw [htj.out, ← he24'.out, ← he23'.out, ← he22'.out, ← he21'.out, hje'.out]
        simp only [List.flatMap_append, List.flatMap_cons, List.flatMap_nil, List.append_nil, encA, bB, heNe'.out, Int.toNat_natCast, List.append_assoc]
     · have hjt : told.take j = told := List.take_of_length_le (by omega)
       have hje2 := hje'.out
       rw [hjt] at hje2
       have hje3 := Lib.hid hje2
       clear hje2 hjt hje'
       have hF := hA.facts; (try simp only [uZ] at hA hF)
       go_wp2_with fail
       go_roundg (L.length - (i + 1))
       case measure => omega
       case rel =>
        have hS := hA.row_shut (e := 25) (size := 2) (n := L.length) (cap := lcap) (xs := (L.map keyR).flatMap seL) (g := g) (c := c) sR cl cp1 cm ct
        refine ⟨i + 1, u20, l20, by simp, by omega, ?_, by omega, hS.pick pZ⟩
        rw [hje3.out, htk.out, ← he7'.out, ← he6'.out, ← he5'.out, ← he4'.out, ← he3'.out, ← he2'.out, ← he1'.out, hle'.out]
        simp only [List.flatMap_append, List.flatMap_cons, List.flatMap_nil, List.append_nil, encS, bB, Int.toNat_natCast, List.append_assoc]
  · have hle2 := hle'.out
    rw [List.take_of_length_le (by omega)] at hle2
    have hF := hA.facts; (try simp only [uZ] at hA hF)
    go_wp2_with fail
    first | go_ret | go_end0
    refine ⟨rfl, u0, ?_⟩
    have hE := hA.pick (K := [BookP p m ss, outC b u0, rowY u0 l0]) pZ
    rw [hle2, List.append_assoc] at hE
    exact hE
end Go.Proofs.YtpebabaigakagaaGreatDoor.Lease
end
section
namespace Go.Proofs.YtpebabaigakagaaGreatDoor.Lock
open Go.Sort Go.Shelf
open Go.Lib (compareBytes compareInt)
open _root_.Go.Proofs.YtpebabaigakagaaGreatDoor.Mark (orI)
open Path (bl rightB overB splits cmpL cmpP)
def keyL (e : Ent) : List Path.Bs := splits (bl e.path)
def ltE (x y : Ent) : Prop := cmpL (keyL x) (keyL y) < 0 ∨ (keyL x = keyL y ∧ x.stamp < y.stamp)
instance (x y : Ent) : Decidable (ltE x y) := by unfold ltE; infer_instance
def cmpE (x y : Ent) : Int := orI (cmpP (bl x.path) (bl y.path)) (compareInt x.stamp y.stamp)
theorem bl_inj {a b : ByteArray} (h : bl a = bl b) : a = b := by
 unfold bl at h
 have : a.data = b.data := by rw [← Array.toList_inj]; exact h
 cases a; cases b; simp_all
theorem key_path {x y : Ent} (h : keyL x = keyL y) : x.path = y.path := bl_inj (Path.splits_inj h)
theorem cmpE_lt {x y : Ent} (hx : rightB (bl x.path) = true) (hy : rightB (bl y.path) = true) : decide (cmpE x y < 0) = decide (ltE x y) := by
 have hcp : cmpP (bl x.path) (bl y.path) = cmpL (splits (bl x.path)) (splits (bl y.path)) := by simp [cmpP, hx, hy]
 unfold cmpE orI compareInt ltE
 rw [hcp]
 show _ = decide (cmpL (splits (bl x.path)) (splits (bl y.path)) < 0 ∨ (splits (bl x.path) = splits (bl y.path) ∧ x.stamp < y.stamp))
 generalize hp : splits (bl x.path) = p
 generalize hq : splits (bl y.path) = q
 by_cases h0 : cmpL p q = 0
 · have e := Path.cl_eq h0
   subst e
   rw [Path.cl_self]
   by_cases h1 : x.stamp < y.stamp
   · simp [h1]
   · by_cases h2 : y.stamp < x.stamp <;> simp [h1, h2]
 · have hne : p ≠ q := fun e => h0 (by rw [e]; exact Path.cl_self q)
   simp [h0, hne]
theorem ltE_irrefl (x : Ent) : ¬ ltE x x := by
 unfold ltE
 rw [Path.cl_self]
 omega
theorem ltE_trans {x y z : Ent} (h1 : ltE x y) (h2 : ltE y z) : ltE x z := by
 unfold ltE at *
 rcases h1 with h1 | ⟨h1, h1'⟩
 · rcases h2 with h2 | ⟨h2, _⟩
   · exact .inl (Path.cl_trans h1 h2)
   · exact .inl (by rw [← h2]; exact h1)
 · rcases h2 with h2 | ⟨h2, h2'⟩
   · exact .inl (by rw [h1]; exact h2)
   · exact .inr ⟨h1.trans h2, by omega⟩
theorem ltE_tri (x y : Ent) : ltE x y ∨ (keyL x = keyL y ∧ x.stamp = y.stamp) ∨ ltE y x := by
 unfold ltE
 have h := Path.cl_anti (keyL x) (keyL y)
 by_cases h0 : cmpL (keyL x) (keyL y) = 0
 · have e := Path.cl_eq h0
   rcases Int.lt_trichotomy x.stamp y.stamp with q | q | q
   · exact .inl (.inr ⟨e, q⟩)
   · exact .inr (.inl ⟨e, q⟩)
   · exact .inr (.inr (.inr ⟨e.symm, q⟩))
 · by_cases h1 : cmpL (keyL x) (keyL y) < 0
   · exact .inl (.inl h1)
   · exact .inr (.inr (.inl (by omega)))
abbrev EntI (es : List Ent) := {e : Ent // e ∈ es}
def cmpI (es : List Ent) (x y : EntI es) : Int := cmpE x.1 y.1
def encI (es : List Ent) (x : EntI es) : List Value := x.1.cells
structure Sortable (es : List Ent) : Prop where
 right : ∀ e ∈ es, rightB (bl e.path) = true
 one : ∀ a ∈ es, ∀ b ∈ es, a.path = b.path → a.stamp = b.stamp → a = b
theorem Inv.sortable {s : S3} {k : Nat} (h : Inv s k) : Sortable s.es := ⟨h.right, fun a ha b hb hp hs => by
 obtain ⟨i, hi⟩ := List.mem_iff_getElem?.1 ha
 obtain ⟨j, hj⟩ := List.mem_iff_getElem?.1 hb
 obtain ⟨hi1, hi2⟩ := List.getElem?_eq_some_iff.1 hi
 obtain ⟨hj1, hj2⟩ := List.getElem?_eq_some_iff.1 hj
 have hp' := List.pairwise_iff_getElem.1 h.order
 have ho : overB (bl a.path) (bl a.path) = true := Path.over_self (h.right a ha)
 rcases Nat.lt_trichotomy i j with q | q | q
 · have := hp' i j hi1 hj1 q
   rw [hi2, hj2, ← hp] at this
   have := this ho
   omega
 · subst q; rw [hi] at hj; exact Option.some.inj hj
 · have := hp' j i hj1 hi1 q
   rw [hi2, hj2, ← hp] at this
   have := this ho
   omega⟩
section
variable {es : List Ent} (H : Sortable es)
include H
theorem cmpI_lt (x y : EntI es) : ltOf (cmpI es) x y = decide (ltE x.1 y.1) := cmpE_lt (H.right _ x.2) (H.right _ y.2)
theorem totI (x y : EntI es) (h1 : ltOf (cmpI es) x y = false) (h2 : ltOf (cmpI es) y x = false) : x = y := by
 rw [cmpI_lt H] at *
 rcases ltE_tri x.1 y.1 with q | q | q
 · exact absurd q (of_decide_eq_false h1)
 · exact Subtype.ext (H.one _ x.2 _ y.2 (key_path q.1) q.2)
 · exact absurd q (of_decide_eq_false h2)
theorem swoI : SWO (ltOf (cmpI es)) where
 irrefl x := by rw [cmpI_lt H]; exact decide_eq_false (ltE_irrefl _)
 trans x y z h1 h2 := by rw [cmpI_lt H] at *; exact decide_eq_true (ltE_trans (of_decide_eq_true h1) (of_decide_eq_true h2))
 ntrans x y z h1 h2 := by
  rw [cmpI_lt H] at *
  refine decide_eq_false fun h => ?_
  have n1 := of_decide_eq_false h1
  have n2 := of_decide_eq_false h2
  rcases ltE_tri x.1 y.1 with q | q | q
  · exact n1 q
  · have e : x = y := Subtype.ext (H.one _ x.2 _ y.2 (key_path q.1) q.2)
    subst e; exact n2 h
  · exact n2 (ltE_trans q h)
def sortI (_ : Sortable es) (l : List (EntI es)) : List (EntI es) := l.mergeSort fun x y => !ltOf (cmpI es) y x
omit H in
theorem sortI_len (H : Sortable es) (l : List (EntI es)) : (sortI H l).length = l.length := List.length_mergeSort l
omit H in
theorem sortI_perm (H : Sortable es) (l : List (EntI es)) : (sortI H l).Perm l := List.mergeSort_perm l _
omit H in
theorem sortI_le (H : Sortable es) (l : List (EntI es)) : (sortI H l).Pairwise (fun a b => (!ltOf (cmpI es) b a) = true) := by
 refine List.pairwise_mergeSort ?_ ?_ l
 · intro a b c h1 h2
   rw [cmpI_lt H] at *
   simp only [Bool.not_eq_true', decide_eq_false_iff_not] at *
   intro h
   rcases ltE_tri b.1 a.1 with q | q | q
   · exact h1 q
   · have e : b = a := Subtype.ext (H.one _ b.2 _ a.2 (key_path q.1) q.2)
     subst e; exact h2 h
   · exact h2 (ltE_trans h q)
 · intro a b
   rw [cmpI_lt H, cmpI_lt H]
   simp only [Bool.or_eq_true, Bool.not_eq_true', decide_eq_false_iff_not]
   by_cases h : ltE b.1 a.1
   · right
     intro h'
     exact ltE_irrefl _ (ltE_trans h h')
   · exact .inl h
end
theorem sortI_lt {es : List Ent} (H : Sortable es) (l : List (EntI es)) (hn : l.Nodup) : ((sortI H l).map (·.1)).Pairwise ltE := by
 have h2 : (sortI H l).Nodup := (sortI_perm H l).nodup_iff.2 hn
 rw [List.pairwise_map]
 refine ((sortI_le H l).and h2).imp ?_
 rintro a b ⟨h, hne⟩
 rw [cmpI_lt H] at h
 simp only [Bool.not_eq_true', decide_eq_false_iff_not] at h
 rcases ltE_tri a.1 b.1 with q | q | q
 · exact q
 · exact absurd (Subtype.ext (H.one _ a.2 _ b.2 (key_path q.1) q.2)) hne
 · exact absurd q h
theorem sorted_one {l r : List Ent} (h1 : l.Pairwise ltE) (h2 : r.Pairwise ltE) (hp : l.Perm r) : l = r :=
 hp.eq_of_pairwise (le := ltE) (fun a b _ _ h3 h4 => absurd (ltE_trans h3 h4) (ltE_irrefl _)) h1 h2
def toI {es : List Ent} : (l : List Ent) → (∀ x ∈ l, x ∈ es) → List (EntI es)
 | [], _ => []
 | x :: l, h => ⟨x, h x (by simp)⟩ :: toI l (fun y hy => h y (by simp [hy]))
theorem toI_map {es : List Ent} : ∀ (l : List Ent) (h : ∀ x ∈ l, x ∈ es), (toI l h).map (·.1) = l
 | [], _ => rfl
 | x :: l, h => by rw [toI, List.map_cons, toI_map l]
theorem encI_flat {es : List Ent} (l : List (EntI es)) : l.flatMap (encI es) = (l.map (·.1)).flatMap Ent.cells := by
 induction l with
 | nil => rfl
 | cons x l ih => rw [List.flatMap_cons, List.map_cons, List.flatMap_cons, ih]; rfl
end Go.Proofs.YtpebabaigakagaaGreatDoor.Lock
end
