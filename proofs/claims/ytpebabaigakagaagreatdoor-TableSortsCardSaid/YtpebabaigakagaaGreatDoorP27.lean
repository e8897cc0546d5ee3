/- TabG, LeaseXa, Row3, WireA, joined. -/
import Derived.Test.YtpebabaigakagaaGreatDoorP26
import Derived.Test.YtpebabaigakagaaGreatDoorP4
import Derived.Test.YtpebabaigakagaaGreatDoorP20
import Derived.Test.YtpebabaigakagaaGreatDoorP2
import Derived.Test.YtpebabaigakagaaGreatDoorShelft
import Derived.Deep.OwnRows
set_option linter.unusedSimpArgs false
set_option linter.unusedVariables false
set_option maxRecDepth 100000
set_option maxHeartbeats 16000000
section
namespace Go.Proofs.YtpebabaigakagaaGreatDoor.Tab
open Go.RowKit
open Path (bl rightB overB aboveB)
open Lease (Ses Ans fresh Turned)
open Lock (S3 Ent)
open Cmd (Cm rightC)
attribute [-go_sem] run_eql_struct run_neq_struct run_eqGuard_agg
def NewP (first : Int) (R : Part) (w : World) (e : Ending) (w' : World) : Prop := ∃ t p m b, e = .returned (.pointer (some ⟨t, 0, none⟩)) ∧ TRel [] b ⟨[], ⟨first, [], []⟩⟩ ∧ At [R] w [TabP t p m [] b, R] w'
theorem new_any {w : World} {R : Part} (h : Sep [R] w) (first : Int) : Calls Tryz.prog 29 #[.int .u64 first] w (NewP first R w) := by
 have hA := At.start h
 clear h
 have hF := hA.facts; (try simp only [uZ] at hA hF)
 go_enter Tryz.func29, Tryz.ntmps29
 go_wp2_with fail
 refine (Lease.new_any _).mono ?_
 rintro e w1 ⟨p, m, rfl, hT⟩
 have hB := hA.call0 hT
 clear hT
 clear hF hA; have hA := hB; clear hB
 try simp only [uA] at hA
 have hF := hA.facts; (try simp only [uZ] at hA hF)
 go_wp2_with fail
 refine (Lock.new_any _ first).mono ?_
 rintro e w1 ⟨b, rfl, e1, e2, e3, hT⟩
 have hB := hA.call0 hT
 clear hT
 clear hF hA; have hA := hB; clear hB
 try simp only [uA] at hA
 have hF := hA.facts; (try simp only [uZ] at hA hF)
 go_wp2_with ((with_reducible refine gbx ?_); refine wH 75 [.pointer (some ⟨p, 0, none⟩), .pointer (some ⟨b.p, 0, none⟩)] hA ?_; clear hF hA; intro bt w1 hA hbt hF; (try simp only [uZ] at hA hF))
 go_ret
 refine ⟨bt, p, m, b, rfl, ⟨rfl, ?_⟩, (tab_in (ss := []) hA sZ sZ sZ).pick pZ⟩
 unfold Lock.Bk.st
 rw [e1, e2, e3]
def ansL (a : Ans) : List Value := [.int .i64 a.e, .int .u64 a.n, .bool a.g]
theorem ansL_len (a : Ans) : (ansL a).length = 3 := rfl
theorem ansL_one (a : Ans) : ∀ u ∈ ansL a, u.oneCell' = true := by
 intro u hu
 simp only [ansL, List.mem_cons, List.not_mem_nil, or_false] at hu
 rcases hu with rfl | rfl | rfl <;> rfl
abbrev rowAn (v : Value) (l : List Ans) : Part := Part.row 48 3 v l.length (l.flatMap ansL)
theorem rowAn_snoc (v : Value) (l : List Ans) (a : Ans) : Part.row 48 3 v (l.length + 1) (l.flatMap ansL ++ ansL a) = rowAn v (l ++ [a]) := by
 unfold rowAn
 rw [List.length_append]
 simp
theorem infoAn : (Tryz.prog.info? 48).map (fun i => (i.zero, i.size, i.bytes)) = some (some (.agg #[.int .i64 0, .int .u64 0, .bool false]), 3, 24) := by kernel_rfl
structure CmIn (c : Cm) : Prop where
 ok : CmOk c
 r0 : 0 ≤ c.req
 r1 : c.req < Lease.big64
 n0 : 0 ≤ c.n
abbrev ReadsC (R : Part) (v : Value) (l : List Cm) : Prop := ∀ w, R.holds w → Reads w v l.length (l.flatMap Cm.cells)
theorem reads_cm {R : Part} {b0 off0 cap i : Nat} {l : List Cm} {x : Cm} (h : ReadsC R (.slice (some ⟨b0, off0, none⟩) l.length cap) l) (hx : l[i]? = some x) : ∀ w, R.holds w → ∀ (k : Nat) u, (Cm.cells x)[k]? = some u → w.cell? ⟨b0, off0 + i * 8 + k, none⟩ = some u := by
 intro w hw k u hu
 obtain ⟨ax, c, e, _, hr⟩ := h w hw
 cases e
 have hk : k < 8 := (List.getElem?_eq_some_iff.1 hu).1
 have hf := flat_at Cm.cells 8 (fun _ => rfl) l i x hx k hk
 rw [hu] at hf
 obtain ⟨b, off, e2, hc⟩ := hr (i * 8 + k) u hf
 cases e2
 rw [Nat.add_assoc]
 exact hc
def PyRel (w : World) (R : Part) (t p m : Nat) (T0 : TS) (l : List Cm) (k : Nat) (u1 u2 : Value) (wr : World) : Prop :=
 ∃ (i : Nat) (ss : List Ses) (b : Lock.Bk), u1 = .int .i64 i ∧ i + k = l.length ∧ TRel ss b (playT T0 (l.take i)) ∧ At [R] w [rowAn u2 (toldT T0 (l.take i)), TabP t p m ss b, R] wr
def PlayP (first : Int) (l : List Cm) (R : Part) (w : World) (e : Ending) (w' : World) : Prop :=
 ∃ t p m ss b av, e = .returned (.tuple #[.pointer (some ⟨t, 0, none⟩), av]) ∧ TRel ss b (playT ⟨[], ⟨first, [], []⟩⟩ l) ∧ At [R] w [rowAn av (toldT ⟨[], ⟨first, [], []⟩⟩ l), TabP t p m ss b, R] w'
theorem told_len : ∀ (l : List Cm) (t : TS), (toldT t l).length = l.length
 | [], _ => rfl
 | c :: l, t => by simp [toldT, told_len l]
theorem play_any {w : World} {R : Part} (h : Sep [R] w) {first : Int} (f0 : 0 ≤ first) (f1 : first < Lock.big64) {v : Value} {l : List Cm} (hr : ReadsC R v l) (hl : l.length ≤ 1000) (hok : ∀ c ∈ l, CmIn c) :
 Calls Tryz.prog 12 #[.int .u64 first, v] w (PlayP first l R w) := by
 obtain ⟨i0, hi0, hz0, hz1, hz2⟩ := info_parts infoAn
 have hA := At.start h
 obtain ⟨ax, cap, rfl, _, _⟩ := hr w (hA.get .here)
 have hr' := Lib.hid hr
 have hok' := Lib.hid hok
 have hi0' := Lib.hid (new_inv f0 f1)
 clear h hr hok
 have hF := hA.facts; (try simp only [uZ] at hA hF)
 go_enter Tryz.func12, Tryz.ntmps12
 go_wp2_with fail
 refine (new_any (hA.sep1 (A := R) sZ) first).mono ?_
 rintro e w1 ⟨t, p, m, b, rfl, hR0, hT⟩
 have hB := hA.call1 (A := R) sZ hT
 clear hT
 clear hF hA; have hA := hB; clear hB
 try simp only [uA] at hA
 have hF := hA.facts; (try simp only [uZ] at hA hF)
 obtain ⟨T0, hT0⟩ : ∃ z : TS, ⟨[], ⟨first, [], []⟩⟩ = z := ⟨_, rfl⟩
 rw [hT0] at hR0 hi0'
 have hT0' := Lib.hid hT0
 have hR0' := Lib.hid hR0
 clear hT0 hR0
 go_wp2_with fail
 try go_frame
 have hB := hA.row_nil 48 3
 clear hF hA
 go_loopg [14, 7] l.length (PyRel w R t p m T0 l)
 case atStart => exact ⟨0, [], b, rfl, by omega, hR0'.out, hB.pick pZ⟩
 case round =>
  obtain ⟨i, ss, b, rfl, hik, hRi, hA⟩ := hrel
  clear hB
  have hRi' := Lib.hid hRi
  clear hRi
  by_cases hi : i < l.length
  · skip
    obtain ⟨c, hc⟩ : ∃ c, l[i]? = some c := ⟨_, List.getElem?_eq_getElem hi⟩
    have hci := hok'.out c (List.mem_of_getElem? hc)
    have hti : TInv (playT T0 (l.take i)) (0 + (l.take i).length) := play_inv (fun x hx => (hok'.out x (List.take_subset _ _ hx)).ok) hi0'.out
    have htk : l.take (i + 1) = l.take i ++ [c] := by rw [List.take_add_one, hc]; rfl
    have hp1 := Lib.hid (show playT T0 (l.take (i + 1)) = (applyT (playT T0 (l.take i)) c).1 by rw [htk, playT_snoc])
    have hp2 := Lib.hid (show toldT T0 (l.take (i + 1)) = toldT T0 (l.take i) ++ [(applyT (playT T0 (l.take i)) c).2] by rw [htk, toldT_snoc])
    have htl := told_len (l.take i) T0
    have hlt : (l.take i).length ≤ 1000 := by rw [List.length_take]; omega
    obtain ⟨bl0, ofl, hax⟩ : ∃ b0 o0, ax = some ⟨b0, o0, none⟩ := by
     obtain ⟨ax2, c2, e2, _, hr2⟩ := hr'.out _ (hA.get (A := R) sZ)
     cases e2
     have hf := flat_at Cm.cells 8 (fun _ => rfl) l i c hc 0 (by omega)
     obtain ⟨b0, o0, e3, _⟩ := hr2 (i * 8 + 0) _ hf
     exact ⟨b0, o0, e3⟩
    subst hax
    have hrc := reads_cm hr'.out hc _ (hA.get (A := R) sZ)
    have hap := fun (w1 : World) (q : Sep [TabP t p m ss b] w1) => apply_any q c.kind c.num c.foot c.req c.path c.mode c.n c.time hRi'.out hti (by omega) hci.ok hci.r0 hci.r1 hci.n0
    obtain ⟨T1, hT1⟩ : ∃ z, applyT (playT T0 (l.take i)) c = z := ⟨_, rfl⟩
    have hcc : (⟨c.kind, c.num, c.foot, c.req, c.path, c.mode, c.n, c.time⟩ : Cm) = c := rfl
    simp only [hcc, hT1] at hap
    rw [hT1] at hp1 hp2
    clear hT1 hcc hc htk hci hti
    obtain ⟨T1, ⟨le, ln, lg⟩⟩ := T1
    obtain ⟨kind, num, foot, req, path, mode, n, time⟩ := c
    simp only at hap
    have hap' := Lib.hid hap
    have hrc' := Lib.hid (show ∀ (k : Nat) u, ([.int .i64 kind, .int .u64 num, .string foot, .int .u64 req, .string path, .int .i64 mode, .int .u64 n, .int .i64 time] : List Value)[k]? = some u → wr.cell? ⟨bl0, ofl + i * 8 + k, none⟩ = some u from hrc)
    clear hap hrc
    generalize toldT T0 (l.take i) = TL at *
    generalize l.take i = li at *
    obtain ⟨axa, capa, hva, _, hcpa, _⟩ := hA.row_form (e := 48) (size := 3) (n := TL.length) (xs := TL.flatMap ansL) .here
    subst hva
    have hTL : TL.length ≤ 1000 := by omega
    clear htl
    have hF := hA.facts; (try simp only [uZ] at hA hF)
    go_wp2_with (first | ((with_reducible refine gal ?_); refine wG 29 [.int .i64 0, .int .u64 0, .string .empty, .int .u64 0, .string .empty, .int .i64 0, .int .u64 0, .int .i64 0] hA ?_; clear hF hA; intro b9 w1 hA hb9 hF; (try simp only [uZ] at hA hF)) | ((with_reducible show wpList _ _ _ ({ dst := some 17, op := Op.load _ _, type := _, pos := _, after := _, guard := _ } :: _) _ _); refine wpList_loadRow_at (vs := [.int .i64 kind, .int .u64 num, .string foot, .int .u64 req, .string path, .int .i64 mode, .int .u64 n, .int .i64 time]) rfl rfl (by (try simp only [Act.eval, eV]) <;> exact rfl) hrc'.out (by kernel_rfl) (by kernel_rfl) ?_) | ((with_reducible refine gst ?_); refine wT hA ?_; clear hF hA; intro w1 hA hF; (try simp only [uZ] at hA hF)))
    refine (hap'.out _ (hA.sep1 (A := TabP t p m ss b) sZ)).mono ?_
    rintro e w2 ⟨ss2, b2, rfl, hR2, hT⟩
    have hB := hA.call1 (A := TabP t p m ss b) sZ hT
    clear hT
    clear hF hA; have hA := hB; clear hB
    try simp only [uA] at hA
    have hF := hA.facts; (try simp only [uZ] at hA hF)
    have hR2' := Lib.hid hR2
    clear hR2 hap'
    simp only [Lease.Ans.val]
    go_wp2_with (first | ((with_reducible show wpList _ _ _ ({ dst := _, op := Op.buildSlice _ _ _, type := _, pos := _, after := _, guard := _ } :: _) _ _); refine wpList_one_at (e := 48) (vs := ansL ⟨le, ln, lg⟩) rfl rfl (by (try simp only [Act.eval, eV]) <;> exact rfl) (fun _ => by kernel_rfl) hA ?_; intro b22 w1 hB hb22; clear hF hA; have hA := hB; clear hB; have hF := hA.facts; (try simp only [uZ] at hA hF)) | ((with_reducible show wpList _ _ _ ({ dst := _, op := Op.call { callee := Callee.builtin Builtin.append, args := _, argTypes := _ }, type := _, pos := _, after := _, guard := _ } :: _) _ _); refine wpList_append_at (e := 48) (size := 3) (v := .slice axa TL.length capa) (xs := TL.flatMap ansL) (n := TL.length) (m := 1) (news := ansL ⟨le, ln, lg⟩) rfl _ _ 34 rfl Tryz.underlying34 hi0 hz0 hz1 hz2 rfl (by omega) hA sZ (by (try simp only [Act.eval, eV]) <;> exact rfl) (by (try simp only [Act.eval, eV]) <;> exact rfl) rfl (hA.cells_reads sZ _ _) (ansL_one _) (by unfold maxLen; omega) (by omega) ?_; intro v23 w1 hB; rw [rowAn_snoc] at hB; clear hF hA; have hA := hB; clear hB; have hF := hA.facts; (try simp only [uZ] at hA hF)))
    go_roundg (gk - 1)
    case measure => omega
    case rel => exact ⟨i + 1, ss2, b2, by simp, by omega, by rw [hp1.out]; exact hR2'.out, by rw [hp2.out]; exact hA.pick pZ⟩
  · have hi2 : i = l.length := by omega
    subst hi2
    rw [List.take_of_length_le (Nat.le_refl _)] at hA hRi'
    have hF := hA.facts; (try simp only [uZ] at hA hF)
    go_wp2_with fail
    refine bodyPost_ret (v := .tuple #[.pointer (some ⟨t, 0, none⟩), u7]) (by simp [results, Tryz.results12, go_sem, hF]) rfl ?_
    exact ⟨t, p, m, ss, b, _, rfl, by rw [hT0'.out]; exact hRi'.out, by rw [hT0'.out]; exact hA.pick pZ⟩
end Go.Proofs.YtpebabaigakagaaGreatDoor.Tab
end
section
namespace Go.Proofs.YtpebabaigakagaaGreatDoor.Lease
open Go.RowKit
open _root_.Go.Proofs.YtpebabaigakagaaGreatDoor.SortU (rowI sortI sortI_perm)
theorem Rel.mine {ss : List Ses} {L : List SR} (h : Rel ss L) {x : SR} (hx : x ∈ L) : RelS (Lease.look ss x.num x.foot) x := by
 rcases h.both x.num x.foot with ⟨_, h2, _⟩ | ⟨s, a, h1, _⟩
 · have := h2 x hx
   simp [SR.is] at this
 · obtain ⟨l1, l2, e, en, ef, _⟩ := find_split h1
   have e2 : Lease.look ss x.num x.foot = s := by unfold Lease.look; rw [h1]; rfl
   rw [e2]
   exact h.each s (by rw [e]; simp) x hx (by simp [keyE, keyR, en, ef])
theorem info_look {w : World} {p m : Nat} {ss : List Ses} (h : Sep [BookP p m ss] w) {n : Int} {f : ByteArray} (h0 : 0 ≤ n) (h1 : n < big64) (hf : f.size ≤ maxLen) {s : SR} (hrs : RelS (look ss n f) s) :
 Calls Tryz.prog 14 #[.pointer (some ⟨p, 0, none⟩), .agg #[.int .u64 n, .string f]] w fun e w' => e = .returned (.agg #[.bool s.op, .bool s.dead, .int .i64 s.dl, .int .i64 s.ttl, .int .i64 s.told.length]) ∧ At [BookP p m ss] w [BookP p m ss] w' := by
 cases hn : find ss n f with
 | none =>
  have hlk : look ss n f = fresh n f 0 0 := by unfold look; rw [hn]; rfl
  rw [hlk] at hrs
  have e := info_none h h0 h1 hf hn
  simp only [infoOf] at e
  rw [← hrs.op, ← hrs.dead, ← hrs.dl, ← hrs.ttl, ← hrs.told.size]
  exact e
 | some t =>
  have hlk : look ss n f = t := by unfold look; rw [hn]; rfl
  rw [hlk] at hrs
  have e := info_some h h0 h1 hf hn
  simp only [infoOf] at e
  rw [← hrs.op, ← hrs.dead, ← hrs.dl, ← hrs.ttl, ← hrs.told.size]
  exact e
theorem RelT.reqs {told : List (Int × Ans)} {l : List AR} (h : RelT told l) : sortI (told.map (·.1)) = l.map (·.r) := by
 have h1 : (told.map (·.1)).Perm (l.map (·.r)) := by
  have := h.perm.map (·.1)
  rw [List.map_map] at this
  exact this
 rw [sortI_perm h1]
 unfold sortI
 refine List.mergeSort_of_pairwise ?_
 rw [List.pairwise_map]
 exact h.srt.imp fun h => by simp; omega
theorem requests_look {w : World} {p m : Nat} {ss : List Ses} (h : Sep [BookP p m ss] w) {n : Int} {f : ByteArray} (h0 : 0 ≤ n) (h1 : n < big64) (hf : f.size ≤ maxLen) {s : SR} (hrs : RelS (look ss n f) s) :
 Calls Tryz.prog 76 #[.pointer (some ⟨p, 0, none⟩), .agg #[.int .u64 n, .string f]] w fun e w' => ∃ v, e = .returned v ∧ At [BookP p m ss] w [rowI v (s.told.map (·.r)), BookP p m ss] w' := by
 have hl := hrs.told.size
 have hb := hrs.told.len
 have e := requests_any h h0 h1 hf (by omega)
 unfold ReqPost at e
 rw [show Lease.reqs (look ss n f) = (look ss n f).told.map (·.1) from rfl, hrs.told.reqs] at e
 exact e
theorem told_look {w : World} {p m : Nat} {ss : List Ses} (h : Sep [BookP p m ss] w) {n : Int} {f : ByteArray} (h0 : 0 ≤ n) (h1 : n < big64) (hf : f.size ≤ maxLen) {s : SR} (hrs : RelS (look ss n f) s) {x : AR} (hx : x ∈ s.told) :
 Calls Tryz.prog 23 #[.pointer (some ⟨p, 0, none⟩), .agg #[.int .u64 n, .string f], .int .u64 x.r] w fun e w' => e = .returned (.tuple #[.agg #[.int .i64 x.e, .int .u64 x.n, .bool x.g], .bool true]) ∧ At [BookP p m ss] w [BookP p m ss] w' := by
 have e := told_any h (n := n) (f := f) h0 h1 hf (hrs.told.bd x hx).1 (hrs.told.bd x hx).2
 rw [hrs.told.said, show saidA s.told x.r = some x from ?_] at e
 · exact e
 · unfold saidA
   cases hq : s.told.find? (fun y => y.r == x.r) with
   | none => exact absurd (List.find?_eq_none.1 hq x hx) (by simp)
   | some y =>
    have h2 := List.find?_some hq
    rw [hrs.told.uniq (List.mem_of_find?_eq_some hq) hx (by simpa using h2)]
end Go.Proofs.YtpebabaigakagaaGreatDoor.Lease
end
section
namespace Go.Proofs.YtpebabaigakagaaGreatDoor
open Go.RowKit
theorem setL_mid : ∀ (vs p q r : List Value), q.length = vs.length → setL (p ++ (q ++ r)) p.length vs = p ++ (vs ++ r)
 | [], p, q, r, h => by
  have : q = [] := List.eq_nil_of_length_eq_zero (by simpa using h)
  subst this
  rfl
 | v :: vs, p, [], r, h => by simp at h
 | v :: vs, p, y :: q, r, h => by
  rw [setL]
  have e : (p ++ (y :: q ++ r)).set p.length v = (p ++ [v]) ++ (q ++ r) := by
   rw [List.set_append_right _ _ (Nat.le_refl _)]
   simp
  have := setL_mid vs (p ++ [v]) q r (by simpa using h)
  rw [List.length_append] at this
  rw [e]
  simp only [List.length_cons, List.length_nil, Nat.zero_add] at this
  rw [this]
  simp
theorem flat_set {α : Type} (enc : α → List Value) (size : Nat) (hs : ∀ x, (enc x).length = size) (l : List α) (i : Nat) (hi : i < l.length) (x : α) : setL (l.flatMap enc) (i * size) (enc x) = (l.set i x).flatMap enc := by
 have e1 : l = l.take i ++ l[i] :: l.drop (i + 1) := by rw [← List.drop_eq_getElem_cons hi, List.take_append_drop]
 have hl : (l.take i).length = i := by rw [List.length_take]; omega
 have e2 : l.set i x = l.take i ++ x :: l.drop (i + 1) := by
  rw [List.set_eq_take_append_cons_drop, if_pos hi]
 have e3 : l.flatMap enc = (l.take i).flatMap enc ++ (enc l[i] ++ (l.drop (i + 1)).flatMap enc) := by
  have := congrArg (fun m => m.flatMap enc) e1
  simp only [List.flatMap_append, List.flatMap_cons] at this
  exact this
 have hf : ((l.take i).flatMap enc).length = i * size := by rw [flat_len enc size hs, hl]
 rw [e2, e3, ← hf, setL_mid _ _ _ _ (by rw [hs, hs])]
 simp
theorem take_setL : ∀ (vs c : List Value) (o m : Nat), (setL c o vs).take m = setL (c.take m) o vs
 | [], _, _, _ => rfl
 | v :: vs, c, o, m => by rw [setL, setL, take_setL vs, List.take_set]
theorem write_row {α : Type} {enc : α → List Value} {size : Nat} (hs : ∀ x, (enc x).length = size) {c : List Value} {l : List α} (ht : c.take (l.length * size) = l.flatMap enc) {i : Nat} (hi : i < l.length) (x : α) :
 (setL c (i * size) (enc x)).take ((l.set i x).length * size) = (l.set i x).flatMap enc := by
 rw [List.length_set, take_setL, ht, flat_set enc size hs l i hi]
section
variable {P : Program} {ops : Array Oper} {rest : List Oper} {o : Oper} {a : Act} {Q : Exit → Act → World → Prop} {L0 L F : List Part} {w0 w : World} {e : TypeId}
end
end Go.Proofs.YtpebabaigakagaaGreatDoor
end
section
namespace Go.Proofs.YtpebabaigakagaaGreatDoor.Wire
open Go.RowKit
def encY (x : Int) : List Value := [.int .u8 x]
theorem encY_len (x : Int) : (encY x).length = 1 := rfl
theorem encY_one (x : Int) : ∀ v ∈ encY x, v.oneCell' = true := by intro u hu; simp only [encY, List.mem_cons, List.not_mem_nil, or_false] at hu; subst hu; rfl
abbrev flatY (l : List Int) : List Value := l.flatMap encY
abbrev rowY (v : Value) (l : List Int) : Part := .row 5 1 v l.length (flatY l)
theorem rowY_snoc (v : Value) (l : List Int) (x : Int) : Part.row 5 1 v (l.length + 1) (flatY l ++ encY x) = rowY v (l ++ [x]) := rows_snoc (enc := encY) _ v l x
theorem rowY_app (v : Value) (l r : List Int) : Part.row 5 1 v (l.length + r.length) (flatY l ++ flatY r) = rowY v (l ++ r) := rows_app (enc := encY) _ v l r
theorem rowY_nil {L0 L : List Part} {w0 w : World} (h : At L0 w0 L w) : At L0 w0 (rowY (.slice none 0 0) [] :: L) w := h.row_nil 5 1
theorem infoY : (Tryz.prog.info? 5).map (fun i => (i.zero, i.size, i.bytes)) = some (some (.int .u8 0), 1, 1) := by kernel_rfl
def shortN : Nat → List Int
 | v => if h : v < 128 then [(v : Int)] else ((v % 128 + 128 : Nat) : Int) :: shortN (v / 128)
termination_by v => v
decreasing_by omega
theorem short_lo {v : Nat} (h : v < 128) : shortN v = [(v : Int)] := by rw [shortN, dif_pos h]
theorem short_hi {v : Nat} (h : 128 ≤ v) : shortN v = ((v % 128 + 128 : Nat) : Int) :: shortN (v / 128) := by rw [shortN, dif_neg (by omega)]
theorem short_len : ∀ (k v : Nat), v < 128 ^ (k + 1) → (shortN v).length ≤ k + 1
 | 0, v, h => by rw [short_lo (by simpa using h)]; simp
 | k + 1, v, h => by
  by_cases q : v < 128
  · rw [short_lo q]; simp
  · rw [short_hi (by omega), List.length_cons]
    have := short_len k (v / 128) (by rw [Nat.pow_succ] at h; exact Nat.div_lt_of_lt_mul (by rw [Nat.mul_comm]; exact h))
    omega
theorem or_fin : ∀ n : Fin 256, bits .or .u8 (n.val : Int) 128 = ((n.val % 128 + 128 : Nat) : Int) := by decide +kernel
theorem or_more (x : Nat) : bits .or .u8 ((x : Int) % 256) 128 = ((x % 128 + 128 : Nat) : Int) := by
 have := or_fin ⟨x % 256, Nat.mod_lt _ (by omega)⟩
 simp only at this
 rw [show ((x : Int) % 256) = ((x % 256 : Nat) : Int) from by omega, this]
 omega
def ShRel (w : World) (v : Nat) (k : Nat) (u0 u3 : Value) (wr : World) : Prop :=
 ∃ (x : Nat) (pre : List Int), u0 = .int .u64 x ∧ x < 128 ^ k ∧ pre.length + k = 10 ∧ shortN v = pre ++ shortN x ∧ At [] w [rowY u3 pre] wr
theorem short_any (v : Nat) (w : World) (hv : v < 18446744073709551616) : Calls Tryz.prog 113 #[.int .u64 v] w fun e w' => ∃ u, e = .returned u ∧ At [] w [rowY u (shortN v)] w' := by
 obtain ⟨i0, hi0, hz0, hz1, hz2⟩ := info_parts infoY
 have hA : At [] w [] w := At.start (L0 := []) trivial
 have hB := rowY_nil hA
 clear hA; have hA := hB; clear hB
 have hF := hA.facts; (try simp only [uZ] at hA hF)
 go_enter Tryz.func113, Tryz.ntmps113
 go_wp2_with fail
 try go_frame
 go_loopg [0, 3] 10 (ShRel w v)
 case atStart => exact ⟨v, [], rfl, by omega, by simp, by simp, hA⟩
 case round =>
  obtain ⟨x, pre, rfl, hx, hk, hs, hB⟩ := hrel
  clear hF hA; have hA := hB; clear hB
  obtain ⟨ax, n, cap, hpv, hpn⟩ := hA.row_hid (v := u3) (n := pre.length) (xs := flatY pre) sR
  subst hpv
  have hpn2 := hpn.out
  subst hpn2
  clear hpn
  have hF := hA.facts; (try simp only [uZ] at hA hF)
  have hone : ∀ (y : Int) w, (Instr.buildSlice 62 1 #[(0, .int .u8 y)]).run Tryz.prog w = .ok (.slice (some ⟨w.heap.size, 0, none⟩) 1 1) (w.alloc (.cells (encY y).toArray 5)) := fun y w => by kernel_rfl
  have hpl : pre.length ≤ 10 := by omega
  by_cases hq : x < 128
  · have hq' : (x : Int) < 128 := by omega
    have hm : (x : Int) % 256 = x := by omega
    have hs' := Lib.hid (hs.trans (by rw [short_lo hq]))
    clear hs
    go_wp2_with (first
     | ((with_reducible show wpList _ _ _ ({ dst := _, op := Op.buildSlice _ _ _, type := _, pos := _, after := _, guard := _ } :: _) _ _); refine wpList_one_at (e := 5) (vs := encY x) rfl rfl (by (try simp only [Act.eval, eV]) <;> exact rfl) (hone x) hA ?_; intro b2 w5 hB hb2; clear hF hA; have hA := hB; clear hB; have hF := hA.facts; (try simp only [uZ] at hA hF))
     | ((with_reducible show wpList _ _ _ ({ dst := _, op := Op.call { callee := Callee.builtin Builtin.append, args := _, argTypes := _ }, type := _, pos := _, after := _, guard := _ } :: _) _ _); refine wpList_append_at (e := 5) (size := 1) (v := .slice ax pre.length cap) (xs := flatY pre) (n := pre.length) (m := 1) (news := encY x) rfl _ _ 62 rfl Tryz.underlying62 hi0 hz0 hz1 hz2 rfl (by omega) hA sR (by (try simp only [Act.eval, eV]) <;> exact rfl) (by (try simp only [Act.eval, eV]) <;> exact rfl) rfl (hA.cells_reads sR _ _) (encY_one _) (by unfold maxLen; omega) (by omega) ?_; intro v2 w7 hB; rw [rowY_snoc] at hB; clear hF hA; have hA := hB; clear hB; have hF := hA.facts; (try simp only [uZ] at hA hF)))
    go_ret
    exact ⟨v2, rfl, by rw [hs'.out]; exact hA.pick pZ⟩
  · have hq' : ¬ (x : Int) < 128 := by omega
    have hg0 : 0 < gk := by
     rcases Nat.eq_zero_or_pos gk with q | q
     · subst q; simp at hx; omega
     · exact q
    have hx' := Lib.hid hx
    clear hx
    have hor := or_more x
    have hs' := Lib.hid (hs.trans (by rw [short_hi (by omega)]))
    clear hs
    obtain ⟨y, hy⟩ : ∃ y : Int, ((x % 128 + 128 : Nat) : Int) = y := ⟨_, rfl⟩
    rw [hy] at hor hs'
    go_wp2_with (first
     | ((with_reducible show wpList _ _ _ ({ dst := _, op := Op.buildSlice _ _ _, type := _, pos := _, after := _, guard := _ } :: _) _ _); refine wpList_one_at (e := 5) (vs := encY y) rfl rfl (by (try simp only [Act.eval, eV]) <;> exact rfl) (hone y) hA ?_; intro b2 w5 hB hb2; clear hF hA; have hA := hB; clear hB; have hF := hA.facts; (try simp only [uZ] at hA hF))
     | ((with_reducible show wpList _ _ _ ({ dst := _, op := Op.call { callee := Callee.builtin Builtin.append, args := _, argTypes := _ }, type := _, pos := _, after := _, guard := _ } :: _) _ _); refine wpList_append_at (e := 5) (size := 1) (v := .slice ax pre.length cap) (xs := flatY pre) (n := pre.length) (m := 1) (news := encY y) rfl _ _ 62 rfl Tryz.underlying62 hi0 hz0 hz1 hz2 rfl (by omega) hA sR (by (try simp only [Act.eval, eV]) <;> exact rfl) (by (try simp only [Act.eval, eV]) <;> exact rfl) rfl (hA.cells_reads sR _ _) (encY_one _) (by unfold maxLen; omega) (by omega) ?_; intro v2 w7 hB; rw [rowY_snoc] at hB; clear hF hA; have hA := hB; clear hB; have hF := hA.facts; (try simp only [uZ] at hA hF)))
    go_roundg (gk - 1)
    case measure => omega
    case rel =>
     refine ⟨x / 128, pre ++ [y], by simp, ?_, by simp; omega, by rw [hs'.out]; simp, hA.pick pZ⟩
     have hx := hx'.out
     have hg1 : gk = (gk - 1) + 1 := by omega
     rw [hg1, Nat.pow_succ, Nat.mul_comm] at hx
     exact Nat.div_lt_of_lt_mul hx
def byteN (v k : Nat) : Int := ((v / 2 ^ k % 256 : Nat) : Int)
def fixL (v : Nat) : List Int := [byteN v 56, byteN v 48, byteN v 40, byteN v 32, byteN v 24, byteN v 16, byteN v 8, byteN v 0]
theorem wpList_make_at {P : Program} {ops : Array Oper} {rest : List Oper} {o : Oper} {a : Act} {Q : Exit → Act → World → Prop} {L0 L : List Part} {w0 w : World} {t e : TypeId} {i : TypeInfo} {z : Value} {kl kc : IntKind} (hg : o.guard = none) (l c : Operand) (hop : o.op = .makeSlice t l c)
 (ht : P.underlying t = some (.slice e)) (hi : P.info? e = some i) (hz : i.zero = some z) (hsize : i.size = 1) (hz1 : z.cells = #[z]) (n : Nat) (hl : a.eval l = .int kl (n : Int)) (hc : a.eval c = .int kc (n : Int)) (hbytes : i.bytes * n ≤ 281474976710656) (h63 : n ≤ 9223372036854775807)
 (h : At L0 w0 L w) (hK : ∀ b w', At L0 w0 (Part.cells b (List.replicate n z) e :: L) w' → w0.heap.size ≤ b → wpList P ops Q rest (a.put o.dst (.slice (some ⟨b, 0, none⟩) n n)) w') : wpList P ops Q (o :: rest) a w := by
 have hr := run_make_row t e i z ht hi hz hsize hz1 kl kc n hbytes h63 w
 have hA := h.alloc (List.replicate n z) e
 rw [show (List.replicate n z).toArray = madeCells #[z] n from by rw [← toList_madeCells_one z n]] at hA
 refine wpList_val hg ?_ (hK _ _ hA h.size)
 simp [execOp, hop, hl, hc, hr, Result.andThen]
def partL (v i : Nat) : List Int := (fixL v).take i ++ List.replicate (8 - i) 0
def ByRel (w : World) (g v : Nat) (k : Nat) (u : Value) (wr : World) : Prop := ∃ i : Nat, u = .int .i64 i ∧ i + k = 8 ∧ At [] w [Part.cells g (flatY (partL v i)) 5] wr
theorem bytes8_any (v : Nat) (w : World) (hv : v < 18446744073709551616) : Calls Tryz.prog 114 #[.int .u64 v, .int .i64 8] w fun e w' => ∃ u, e = .returned u ∧ At [] w [rowY u (fixL v)] w' := by
 obtain ⟨i0, hi0, hz0, hz1, hz2⟩ := info_parts infoY
 have hA : At [] w [] w := At.start (L0 := []) trivial
 have hF := hA.facts
 go_enter Tryz.func114, Tryz.ntmps114
 go_wp2_with (refine wpList_make_at rfl _ _ rfl Tryz.underlying62 hi0 hz0 hz1 rfl 8 (by (try simp only [Act.eval, eV]) <;> exact rfl) (by (try simp only [Act.eval, eV]) <;> exact rfl) (by rw [hz2]; omega) (by omega) hA ?_; intro g w1 hB hg; clear hF hA; have hA := hB; clear hB; have hF := hA.facts; (try simp only [uZ] at hA hF))
 try go_frame
 go_loopg [14] 8 (ByRel w g v)
 case atStart => exact ⟨0, rfl, by simp, hA⟩
 case round =>
  obtain ⟨i, rfl, hk, hB⟩ := hrel
  clear hF hA
  by_cases hi : i < 8
  · have hcase : i = 0 ∨ i = 1 ∨ i = 2 ∨ i = 3 ∨ i = 4 ∨ i = 5 ∨ i = 6 ∨ i = 7 := by omega
    rcases hcase with rfl | rfl | rfl | rfl | rfl | rfl | rfl | rfl
    · have hA : At [] w [Part.cells g [.int .u8 0, .int .u8 0, .int .u8 0, .int .u8 0, .int .u8 0, .int .u8 0, .int .u8 0, .int .u8 0] 5] wr := hB
      clear hB
      have hF := hA.facts
      have hmm : min (max (8 : Int) 0) 8 = 8 := by omega
      have hF := hA.facts; (try simp only [uZ] at hA hF)
      go_wp2_with ((with_reducible refine gst ?_); refine wT hA ?_; clear hF hA; intro w1 hA hF; (try simp only [uZ] at hA hF))
      have hbb : (v : Int) / 72057594037927936 = byteN v 56 := by unfold byteN; omega
      rw [hbb] at hA
      go_roundg (gk - 1)
      case measure => omega
      case rel => exact ⟨1, by simp, by omega, hA⟩
    · have hA : At [] w [Part.cells g [.int .u8 (byteN v 56), .int .u8 0, .int .u8 0, .int .u8 0, .int .u8 0, .int .u8 0, .int .u8 0, .int .u8 0] 5] wr := hB
      clear hB
      have hF := hA.facts
      have hmm : min (max (8 : Int) 0) 8 = 8 := by omega
      have hF := hA.facts; (try simp only [uZ] at hA hF)
      go_wp2_with ((with_reducible refine gst ?_); refine wT hA ?_; clear hF hA; intro w1 hA hF; (try simp only [uZ] at hA hF))
      have hbb : (v : Int) / 281474976710656 % 256 = byteN v 48 := by unfold byteN; omega
      rw [hbb] at hA
      go_roundg (gk - 1)
      case measure => omega
      case rel => exact ⟨2, by simp, by omega, hA⟩
    · have hA : At [] w [Part.cells g [.int .u8 (byteN v 56), .int .u8 (byteN v 48), .int .u8 0, .int .u8 0, .int .u8 0, .int .u8 0, .int .u8 0, .int .u8 0] 5] wr := hB
      clear hB
      have hF := hA.facts
      have hmm : min (max (8 : Int) 0) 8 = 8 := by omega
      have hF := hA.facts; (try simp only [uZ] at hA hF)
      go_wp2_with ((with_reducible refine gst ?_); refine wT hA ?_; clear hF hA; intro w1 hA hF; (try simp only [uZ] at hA hF))
      have hbb : (v : Int) / 1099511627776 % 256 = byteN v 40 := by unfold byteN; omega
      rw [hbb] at hA
      go_roundg (gk - 1)
      case measure => omega
      case rel => exact ⟨3, by simp, by omega, hA⟩
    · have hA : At [] w [Part.cells g [.int .u8 (byteN v 56), .int .u8 (byteN v 48), .int .u8 (byteN v 40), .int .u8 0, .int .u8 0, .int .u8 0, .int .u8 0, .int .u8 0] 5] wr := hB
      clear hB
      have hF := hA.facts
      have hmm : min (max (8 : Int) 0) 8 = 8 := by omega
      have hF := hA.facts; (try simp only [uZ] at hA hF)
      go_wp2_with ((with_reducible refine gst ?_); refine wT hA ?_; clear hF hA; intro w1 hA hF; (try simp only [uZ] at hA hF))
      have hbb : (v : Int) / 4294967296 % 256 = byteN v 32 := by unfold byteN; omega
      rw [hbb] at hA
      go_roundg (gk - 1)
      case measure => omega
      case rel => exact ⟨4, by simp, by omega, hA⟩
    · have hA : At [] w [Part.cells g [.int .u8 (byteN v 56), .int .u8 (byteN v 48), .int .u8 (byteN v 40), .int .u8 (byteN v 32), .int .u8 0, .int .u8 0, .int .u8 0, .int .u8 0] 5] wr := hB
      clear hB
      have hF := hA.facts
      have hmm : min (max (8 : Int) 0) 8 = 8 := by omega
      have hF := hA.facts; (try simp only [uZ] at hA hF)
      go_wp2_with ((with_reducible refine gst ?_); refine wT hA ?_; clear hF hA; intro w1 hA hF; (try simp only [uZ] at hA hF))
      have hbb : (v : Int) / 16777216 % 256 = byteN v 24 := by unfold byteN; omega
      rw [hbb] at hA
      go_roundg (gk - 1)
      case measure => omega
      case rel => exact ⟨5, by simp, by omega, hA⟩
    · have hA : At [] w [Part.cells g [.int .u8 (byteN v 56), .int .u8 (byteN v 48), .int .u8 (byteN v 40), .int .u8 (byteN v 32), .int .u8 (byteN v 24), .int .u8 0, .int .u8 0, .int .u8 0] 5] wr := hB
      clear hB
      have hF := hA.facts
      have hmm : min (max (8 : Int) 0) 8 = 8 := by omega
      have hF := hA.facts; (try simp only [uZ] at hA hF)
      go_wp2_with ((with_reducible refine gst ?_); refine wT hA ?_; clear hF hA; intro w1 hA hF; (try simp only [uZ] at hA hF))
      have hbb : (v : Int) / 65536 % 256 = byteN v 16 := by unfold byteN; omega
      rw [hbb] at hA
      go_roundg (gk - 1)
      case measure => omega
      case rel => exact ⟨6, by simp, by omega, hA⟩
    · have hA : At [] w [Part.cells g [.int .u8 (byteN v 56), .int .u8 (byteN v 48), .int .u8 (byteN v 40), .int .u8 (byteN v 32), .int .u8 (byteN v 24), .int .u8 (byteN v 16), .int .u8 0, .int .u8 0] 5] wr := hB
      clear hB
      have hF := hA.facts
      have hmm : min (max (8 : Int) 0) 8 = 8 := by omega
      have hF := hA.facts; (try simp only [uZ] at hA hF)
      go_wp2_with ((with_reducible refine gst ?_); refine wT hA ?_; clear hF hA; intro w1 hA hF; (try simp only [uZ] at hA hF))
      have hbb : (v : Int) / 256 % 256 = byteN v 8 := by unfold byteN; omega
      rw [hbb] at hA
      go_roundg (gk - 1)
      case measure => omega
      case rel => exact ⟨7, by simp, by omega, hA⟩
    · have hA : At [] w [Part.cells g [.int .u8 (byteN v 56), .int .u8 (byteN v 48), .int .u8 (byteN v 40), .int .u8 (byteN v 32), .int .u8 (byteN v 24), .int .u8 (byteN v 16), .int .u8 (byteN v 8), .int .u8 0] 5] wr := hB
      clear hB
      have hF := hA.facts
      have hmm : min (max (8 : Int) 0) 8 = 8 := by omega
      have hF := hA.facts; (try simp only [uZ] at hA hF)
      go_wp2_with ((with_reducible refine gst ?_); refine wT hA ?_; clear hF hA; intro w1 hA hF; (try simp only [uZ] at hA hF))
      have hbb : (v : Int) % 256 = byteN v 0 := by unfold byteN; omega
      rw [hbb] at hA
      go_roundg (gk - 1)
      case measure => omega
      case rel => exact ⟨8, by simp, by omega, hA⟩
  · have h8 : i = 8 := by omega
    subst h8
    have hA : At [] w [Part.cells g (flatY (fixL v)) 5] wr := hB
    clear hB
    have hA2 : At [] w [rowY (.slice (some ⟨g, 0, none⟩) 8 8) (fixL v)] wr := hA.row_shut (e := 5) (size := 1) (n := 8) (cap := 8) (xs := flatY (fixL v)) .here rfl (by omega) (by unfold maxLen; omega) rfl
    have hmm : min (max (8 : Int) 0) 8 = 8 := by omega
    go_wp2_with fail
    go_ret
    exact ⟨_, rfl, hA2⟩
end Go.Proofs.YtpebabaigakagaaGreatDoor.Wire
end
