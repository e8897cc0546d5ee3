/- TabY, TabZa, joined. -/
import Derived.Test.YtpebabaigakagaaGreatDoorP20
import Derived.Test.YtpebabaigakagaaGreatDoorP33
import Derived.Test.YtpebabaigakagaaGreatDoorP34
set_option linter.unusedSimpArgs false
set_option linter.unusedVariables false
set_option maxRecDepth 100000
set_option maxHeartbeats 16000000
section
namespace Go.Proofs.YtpebabaigakagaaGreatDoor.Tab
open Path (bl rightB overB aboveB)
open Lease (Ses Ans fresh)
open Lock (S3 Ent)
open Cmd (Cm rightC)
def TMono (l l' : List (Int × Ans)) : Prop := (∃ e, l' = l ++ e) ∧ (256 ≤ l.length → l' = l)
theorem TMono.refl (l : List (Int × Ans)) : TMono l l := ⟨⟨[], by simp⟩, fun _ => rfl⟩
theorem TMono.trans {a b c : List (Int × Ans)} (h : TMono a b) (k : TMono b c) : TMono a c := by
 obtain ⟨⟨e, rfl⟩, h2⟩ := h
 obtain ⟨⟨f, rfl⟩, k2⟩ := k
 refine ⟨⟨e ++ f, by simp⟩, fun q => ?_⟩
 have h3 := h2 q
 rw [k2 (by rw [h3]; exact q), h3]
theorem TMono.said {l l' : List (Int × Ans)} (h : TMono l l') {r : Int} {a : Ans} (hs : Lease.said l r = some a) : Lease.said l' r = some a := by
 obtain ⟨⟨e, rfl⟩, _⟩ := h
 unfold Lease.said at *
 rw [List.find?_append]
 obtain ⟨x, hx, rfl⟩ := Option.map_eq_some_iff.1 hs
 rw [hx]
 rfl
theorem upd_mono {g : Ses → Ses} {m : Int} {k : ByteArray} (hg : KeyG g) (S : List Ses) (ht : TMono (lookA S m k).told (g (lookA S m k)).told) (n : Int) (f : ByteArray) : TMono (lookA S n f).told (lookA (updA g m k S) n f).told := by
 by_cases h : n = m ∧ f = k
 · obtain ⟨rfl, rfl⟩ := h
   rw [look_upd hg]
   exact ht
 · rw [look_other hg h]
   exact TMono.refl _
theorem opT_mono {t : TS} {c : Cm} {g : Ses → Ses} {e : Int} (hg : KeyG g) (ht : e = 0 → TMono (lookA t.S c.num c.foot).told (g (lookA t.S c.num c.foot)).told) (n : Int) (f : ByteArray) : TMono (lookA t.S n f).told (lookA (opT t c g e).S n f).told := by
 unfold opT
 split
 · rename_i q
   exact upd_mono hg t.S (ht q) n f
 · exact TMono.refl _
theorem endT_mono (t : TS) (c : Cm) (e : Int) (n : Int) (f : ByteArray) : TMono (lookA t.S n f).told (lookA (endT t c e).S n f).told := by
 unfold endT
 split
 · exact upd_mono (g := Ses.ended) (fun s => rfl) t.S (TMono.refl _) n f
 · exact TMono.refl _
theorem opT_told {t : TS} {c : Cm} {g : Ses → Ses} {e : Int} (hg : KeyG g) (ht : ∀ s, (g s).told = s.told) : (lookA (opT t c g e).S c.num c.foot).told = (lookA t.S c.num c.foot).told := by
 unfold opT
 by_cases h : e = 0
 · rw [if_pos h]
   show (lookA (updA g c.num c.foot t.S) c.num c.foot).told = _
   rw [look_upd hg, ht]
 · rw [if_neg h]
theorem endT_told (t : TS) (c : Cm) (e : Int) : (lookA (endT t c e).S c.num c.foot).told = (lookA t.S c.num c.foot).told := by
 unfold endT
 by_cases h : e = 0
 · rw [if_pos h]
   show (lookA (updA Ses.ended c.num c.foot t.S) c.num c.foot).told = _
   rw [look_upd (g := Ses.ended) (fun s => rfl)]
   rfl
 · rw [if_neg h]
theorem tellE_lt {s : Ses} {r : Int} (h : Lease.tellE s r = 0) : s.told.length < 256 := by
 unfold Lease.tellE at h
 rcases Nat.lt_or_ge s.told.length 256 with q | q
 · exact q
 · simp [q] at h
theorem tell_mono {s : Ses} {r : Int} (a : Ans) (h : Lease.tellE s r = 0) : TMono s.told (s.tell r a).told := ⟨⟨[(r, a)], rfl⟩, fun q => by have := tellE_lt h; omega⟩
theorem locks_S (t : TS) (c : Cm) : (locksT t c).1.S = t.S := by
 unfold locksT
 split
 · rfl
 split
 · rfl
 split
 · unfold tryT
   split
   · rfl
   split <;> rfl
 split <;> rfl
theorem doT_mono (t : TS) (c : Cm) (n : Int) (f : ByteArray) : TMono (lookA t.S n f).told (lookA (doT t c).1.S n f).told := by
 unfold doT
 split
 · exact opT_mono (t := t) (c := c) (g := fun s => s.opened c.n c.time) (fun s => rfl) (fun _ => TMono.refl _) n f
 split
 · exact endT_mono t c _ n f
 split
 · exact opT_mono (t := t) (c := c) (g := fun s => s.kept c.time) (fun s => rfl) (fun _ => TMono.refl _) n f
 · rw [locks_S]
   exact TMono.refl _
theorem apply_mono (t : TS) (c : Cm) (n : Int) (f : ByteArray) : TMono (lookA t.S n f).told (lookA (applyT t c).1.S n f).told := by
 unfold applyT
 split
 · exact TMono.refl _
 split
 · exact endT_mono t c _ n f
 split
 · exact TMono.refl _
 split
 · exact TMono.refl _
 · refine (doT_mono t c n f).trans ?_
   unfold tellT
   exact opT_mono (t := (doT t c).1) (c := c) (g := fun s => s.tell c.req (doT t c).2) (fun s => rfl) (fun e => tell_mono _ e) n f
theorem play_mono (n : Int) (f : ByteArray) : ∀ (l : List Cm) (t : TS), TMono (lookA t.S n f).told (lookA (playT t l).S n f).told
 | [], t => TMono.refl _
 | c :: l, t => (apply_mono t c n f).trans (play_mono n f l (applyT t c).1)
theorem client_kind {c : Cm} (h : rightC c = true) (hr : c.req ≠ 0) : c.kind ≠ 0 ∧ c.kind ≠ 8 := by
 unfold rightC at h
 unfold Cmd.hasOf at h
 constructor
 · intro e
   simp [e, Cmd.rightH, Cmd.bareC] at h
   have := congrArg Cm.req h.1
   exact hr this
 · intro e
   simp [e, Cmd.rightH, Cmd.bareC] at h
   have := congrArg Cm.req h.1.1
   exact hr this
theorem apply_said {t : TS} {c : Cm} (h : rightC c = true) (hr : c.req ≠ 0) {a : Ans} (hs : Lease.said (lookA t.S c.num c.foot).told c.req = some a) : applyT t c = (t, a) := by
 obtain ⟨k0, k8⟩ := client_kind h hr
 unfold applyT
 rw [if_neg (by rw [h]; simp [k0]), if_neg k8, hs]
theorem apply_full {t : TS} {c : Cm} (h : rightC c = true) (hr : c.req ≠ 0) (hs : Lease.said (lookA t.S c.num c.foot).told c.req = none) (hf : 256 ≤ (lookA t.S c.num c.foot).told.length) : applyT t c = (t, ansE 14) := by
 obtain ⟨k0, k8⟩ := client_kind h hr
 unfold applyT
 rw [if_neg (by rw [h]; simp [k0]), if_neg k8, hs]
 simp only
 rw [if_pos hf]
theorem apply_tells {t : TS} {c : Cm} (h : rightC c = true) (hr : c.req ≠ 0) (hw : (Lease.said (lookA t.S c.num c.foot).told c.req).isSome = true ∨ (lookA t.S c.num c.foot).told.length < 256) : Lease.said (lookA (applyT t c).1.S c.num c.foot).told c.req = some (applyT t c).2 := by
 obtain ⟨k0, k8⟩ := client_kind h hr
 cases hs : Lease.said (lookA t.S c.num c.foot).told c.req with
 | some a => rw [apply_said h hr hs]; exact hs
 | none =>
  have hl : (lookA t.S c.num c.foot).told.length < 256 := by
   rcases hw with q | q
   · rw [hs] at q; cases q
   · exact q
  have e : applyT t c = (tellT (doT t c).1 c (doT t c).2, (doT t c).2) := by
   unfold applyT
   rw [if_neg (by rw [h]; simp [k0]), if_neg k8, hs]
   simp only
   rw [if_neg (by omega)]
  rw [e]
  simp only
  have hd : (lookA (doT t c).1.S c.num c.foot).told = (lookA t.S c.num c.foot).told := by
   unfold doT
   split
   · exact opT_told (g := fun s => s.opened c.n c.time) (fun s => rfl) (fun s => rfl)
   split
   · exact endT_told t c _
   split
   · exact opT_told (g := fun s => s.kept c.time) (fun s => rfl) (fun s => rfl)
   · rw [locks_S]
  have ht : Lease.tellE (lookA (doT t c).1.S c.num c.foot) c.req = 0 := by
   unfold Lease.tellE
   rw [hd, hs, if_neg (by simp), if_neg (by omega)]
  unfold tellT opT
  rw [if_pos ht]
  simp only
  rw [look_upd (g := fun s => s.tell c.req (doT t c).2) (fun s => rfl)]
  show Lease.said ((lookA (doT t c).1.S c.num c.foot).told ++ [(c.req, (doT t c).2)]) c.req = _
  rw [hd]
  unfold Lease.said at hs ⊢
  rw [Option.map_eq_none_iff] at hs
  rw [List.find?_append, hs]
  simp
end Go.Proofs.YtpebabaigakagaaGreatDoor.Tab
end
section
namespace Go
open _root_.Go.Proofs.YtpebabaigakagaaGreatDoor
open Go.RowKit
section
variable {P : Program} {ops : Array Oper} {Q : Exit → Act → World → Prop} {md : Region.Mode} {S : World → Prop}
theorem wpAnyH_three {i j k fuel : Nat} {listed : Array Bool} {a : Act} {w : World} (hr : Region.ready md ops listed = [i, j, k]) (h1 : wpOp P ops Q i (fun a' w' => S w' ∧ wpAnyH P md ops Q S fuel (listed.setIfInBounds i true) a' w') a w)
 (h2 : wpOp P ops Q j (fun a' w' => S w' ∧ wpAnyH P md ops Q S fuel (listed.setIfInBounds j true) a' w') a w) (h3 : wpOp P ops Q k (fun a' w' => S w' ∧ wpAnyH P md ops Q S fuel (listed.setIfInBounds k true) a' w') a w) : wpAnyH P md ops Q S (fuel + 1) listed a w :=
 wpAnyH_all hr (by simp) (fun x hx => by
  rcases List.mem_cons.1 hx with rfl | hx
  · exact h1
  rcases List.mem_cons.1 hx with rfl | hx
  · exact h2
  · rw [List.mem_singleton.1 hx]; exact h3)
end
end Go
namespace Go.Proofs.YtpebabaigakagaaGreatDoor.Tab
open Go.RowKit
open Path (bl rightB overB aboveB)
open Lease (Ses Ans fresh Turned)
open Lock (S3 Ent)
open Cmd (Cm rightC)
attribute [-go_sem] run_eql_struct run_neq_struct run_eqGuard_agg
attribute [local go_sem] guardAn eqlAn neqAn guardSe neqSe
theorem cells8 {w : World} {b : Nat} {c0 c1 c2 c3 c4 c5 c6 c7 : Value} {T : TypeId} (h : BlockIs w b [c0, c1, c2, c3, c4, c5, c6, c7] T) : w.cell? ⟨b, 0, none⟩ = some c0 ∧ w.cell? ⟨b, 1, none⟩ = some c1 ∧ w.cell? ⟨b, 2, none⟩ = some c2 ∧ w.cell? ⟨b, 3, none⟩ = some c3 ∧ w.cell? ⟨b, 4, none⟩ = some c4 ∧ w.cell? ⟨b, 5, none⟩ = some c5 ∧ w.cell? ⟨b, 6, none⟩ = some c6 ∧ w.cell? ⟨b, 7, none⟩ = some c7 :=
 ⟨h.cell 0, h.cell 1, h.cell 2, h.cell 3, h.cell 4, h.cell 5, h.cell 6, h.cell 7⟩
theorem cells3 {w : World} {b : Nat} {c0 c1 c2 : Value} {T : TypeId} (h : BlockIs w b [c0, c1, c2] T) : w.cell? ⟨b, 0, none⟩ = some c0 ∧ w.cell? ⟨b, 1, none⟩ = some c1 ∧ w.cell? ⟨b, 2, none⟩ = some c2 := ⟨h.cell 0, h.cell 1, h.cell 2⟩
theorem feet_ab {t : TS} (h : Ab t) : Lock.Feet t.L := fun e he => by
 have h1 := h e he
 rw [Path.aboveB_parts] at h1
 simp only [Bool.and_eq_true] at h1
 have h2 := h1.1.1
 unfold Path.rightB at h2
 simp only [Bool.and_eq_true, decide_eq_true_eq] at h2
 have h3 : (bl e.foot).length = e.foot.size := by unfold Path.bl; exact Array.length_toList
 omega
def TQ (t p m : Nat) (ss : List Ses) (b : Lock.Bk) (T : TS) (x : Value) (w : World) (u : Value) (w' : World) : Prop := ∃ (ss' : List Ses) (b' : Lock.Bk), u = x ∧ TRel ss' b' T ∧ At [TabP t p m ss b] w [TabP t p m ss' b'] w'
theorem TPost.q {P : Program} {f : FuncId} {args : Array Value} {t p m : Nat} {ss : List Ses} {b : Lock.Bk} {w : World} {T : TS} {x1 x2 : Int} {x3 : Bool} (h : Calls P f args w (TPost t p m ss b w T ⟨x1, x2, x3⟩)) : Calls P f args w fun e w' => ∃ u, e = .returned u ∧ TQ t p m ss b T (.agg #[.int .i64 x1, .int .u64 x2, .bool x3]) w u w' :=
 h.mono fun e w' ⟨ss', b', he, hR, hT⟩ => ⟨_, he, ss', b', rfl, hR, hT⟩
theorem client_any (w : World) (kc nc : Int) (fc : ByteArray) (rc : Int) (pc : ByteArray) (mc nnc tc : Int) (hf : fc.size ≤ 1000) (hp : pc.size ≤ 1000) (hr : 0 ≤ rc) :
 Calls Tryz.prog 20 #[.agg #[.int .i64 kc, .int .u64 nc, .string fc, .int .u64 rc, .string pc, .int .i64 mc, .int .u64 nnc, .int .i64 tc]] w fun e w' => e = .returned (.bool (rightC ⟨kc, nc, fc, rc, pc, mc, nnc, tc⟩ && !decide (rc = 0))) ∧ Ext w w' := by
 have hA : At [] w [] w := At.start (L0 := []) trivial
 have hrt := fun w1 => Cmd.right_any ⟨kc, nc, fc, rc, pc, mc, nnc, tc⟩ w1 hf hp
 obtain ⟨rr, hrr⟩ : ∃ z, rightC ⟨kc, nc, fc, rc, pc, mc, nnc, tc⟩ = z := ⟨_, rfl⟩
 simp only [hrr, Cmd.Cm.val] at hrt
 rw [hrr]
 have hrt' := Lib.hid hrt
 clear hrt hrr
 have hF := hA.facts; (try simp only [uZ] at hA hF)
 go_enter Tryz.func20, Tryz.ntmps20
 go_wp2_with (first | ((with_reducible refine gbx ?_); refine wH 29 [.int .i64 kc, .int .u64 nc, .string fc, .int .u64 rc, .string pc, .int .i64 mc, .int .u64 nnc, .int .i64 tc] hA ?_; clear hF hA; intro b1 w1 hA hb1 hF; (try simp only [uZ] at hA hF)) | ((with_reducible show wpList _ _ _ ({ dst := some 3, op := Op.load 29 _, type := _, pos := _, after := _, guard := _ } :: _) _ _); refine wpList_loadRow_at (vs := [.int .i64 kc, .int .u64 nc, .string fc, .int .u64 rc, .string pc, .int .i64 mc, .int .u64 nnc, .int .i64 tc]) rfl rfl (by (try simp only [Act.eval, eV]) <;> exact rfl) (fun k u hk => by rw [Nat.zero_add]; exact ((hA.get (A := Part.cells b1 [.int .i64 kc, .int .u64 nc, .string fc, .int .u64 rc, .string pc, .int .i64 mc, .int .u64 nnc, .int .i64 tc] 29) sZ : BlockIs _ _ _ _).cell k).trans hk) (by kernel_rfl) (by kernel_rfl) ?_))
 refine (hrt'.out _).mono ?_
 rintro e w1 ⟨rfl, hx⟩
 have hB := hA.ext hx
 clear hx
 clear hF hA; have hA := hB; clear hB
 try simp only [uA] at hA
 have hF := hA.facts; (try simp only [uZ] at hA hF)
 obtain ⟨a0, a1, a2, a3, a4, a5, a6, a7⟩ := cells8 (hA.get (A := Part.cells b1 [.int .i64 kc, .int .u64 nc, .string fc, .int .u64 rc, .string pc, .int .i64 mc, .int .u64 nnc, .int .i64 tc] 29) sZ)
 cases rr
 · go_wp2_with fail
   refine bodyPost_ret (v := .bool false) (by simp [results, Tryz.results20, go_sem, hF]) rfl ?_
   exact ⟨rfl, hA.toExt⟩
 · by_cases hz : rc = 0
   · subst hz
     go_wp2_with fail
     refine bodyPost_ret (v := .bool false) (by simp [results, Tryz.results20, go_sem, hF]) rfl ?_
     exact ⟨rfl, hA.toExt⟩
   · have hgt : decide ((0 : Int) < rc) = true := decide_eq_true (by omega)
     go_wp2_with fail
     refine bodyPost_ret (v := .bool true) (by simp [results, Tryz.results20, go_sem, hF]) rfl ?_
     exact ⟨by rw [decide_eq_false hz]; rfl, hA.toExt⟩
section
variable {w : World} {t p m : Nat} {ss : List Ses} {b : Lock.Bk} (h : Sep [TabP t p m ss b] w)
include h
theorem troom_any {n : Int} {f : ByteArray} (h0 : 0 ≤ n) (h1 : n < Lease.big64) (hf : f.size ≤ maxLen) :
 Calls Tryz.prog 22 #[.pointer (some ⟨p, 0, none⟩), .agg #[.int .u64 n, .string f]] w fun e w' => e = .returned (.bool (decide ((Lease.look ss n f).told.length < 256))) ∧ At [TabP t p m ss b] w [TabP t p m ss b] w' := by
 have hA := tab_begin h
 have hc : Calls Tryz.prog 22 #[.pointer (some ⟨p, 0, none⟩), .agg #[.int .u64 n, .string f]] w fun e w' => e = .returned (.bool (decide ((Lease.look ss n f).told.length < 256))) ∧ At [Lease.BookP p m ss] w [Lease.BookP p m ss] w' := by
  by_cases q : (Lease.look ss n f).told.length < 256
  · rw [decide_eq_true q]; exact Lease.room_yes (hA.sep1 (A := Lease.BookP p m ss) sZ) h0 h1 hf q
  · rw [decide_eq_false q]; exact Lease.room_no (hA.sep1 (A := Lease.BookP p m ss) sZ) h0 h1 hf q
 refine hc.mono ?_
 rintro e w1 ⟨rfl, hT⟩
 have hB := hA.call1 (A := Lease.BookP p m ss) sZ hT
 simp only [uA] at hB
 exact ⟨rfl, tab_close (hB.pick pZ)⟩
theorem ttold_any {n : Int} {f : ByteArray} (h0 : 0 ≤ n) (h1 : n < Lease.big64) (hf : f.size ≤ maxLen) {r : Int} (r0 : 0 ≤ r) (r1 : r < Lease.big64) :
 Calls Tryz.prog 23 #[.pointer (some ⟨p, 0, none⟩), .agg #[.int .u64 n, .string f], .int .u64 r] w fun e w' => e = .returned (Lease.toldV (Lease.said (Lease.look ss n f).told r)) ∧ At [TabP t p m ss b] w [TabP t p m ss b] w' := by
 have hA := tab_begin h
 refine (Lease.told_any (hA.sep1 (A := Lease.BookP p m ss) sZ) h0 h1 hf r0 r1).mono ?_
 rintro e w1 ⟨rfl, hT⟩
 have hB := hA.call1 (A := Lease.BookP p m ss) sZ hT
 simp only [uA] at hB
 exact ⟨rfl, tab_close (hB.pick pZ)⟩
end
end Go.Proofs.YtpebabaigakagaaGreatDoor.Tab
end
