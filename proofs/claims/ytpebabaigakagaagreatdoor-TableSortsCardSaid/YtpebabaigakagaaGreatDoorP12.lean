/- TabM, TabN, TabE, joined. -/
import Derived.Test.YtpebabaigakagaaGreatDoorP5
import Derived.Test.YtpebabaigakagaaGreatDoorP9
import Derived.Test.YtpebabaigakagaaGreatDoorP11
set_option linter.unusedSimpArgs false
set_option linter.unusedVariables false
set_option maxRecDepth 100000
set_option maxHeartbeats 16000000
section
namespace Go.Proofs.YtpebabaigakagaaGreatDoor.Tab
open Go.RowKit
open Path (bl rightB overB aboveB)
open Lease (Ses Ans fresh Turned)
open Lock (S3 Ent)
open Cmd (Cm rightC)
def zs (s : Ses) : Ses := { s with blk := 0, tm := 0 }
theorem zs_is (s : Ses) (n : Int) (f : ByteArray) : (zs s).is n f = s.is n f := rfl
def lookA (S : List Ses) (n : Int) (f : ByteArray) : Ses := (Lease.find S n f).getD (fresh n f 0 0)
def updA (g : Ses → Ses) (n : Int) (f : ByteArray) : List Ses → List Ses
 | [] => [g (fresh n f 0 0)]
 | s :: S => if s.is n f then g s :: S else s :: updA g n f S
structure TS where
 S : List Ses
 L : S3
def ans0 : Ans := ⟨0, 0, false⟩
def ansE (e : Int) : Ans := ⟨e, 0, false⟩
def mayT (t : TS) (c : Cm) : Int := if (lookA t.S c.num c.foot).op = false then 50 else if aboveB (bl c.foot) (bl c.path) = false then 55 else 0
def addT (t : TS) (c : Cm) : TS × Ans :=
 (⟨t.S, t.L.add c.path c.num c.foot c.mode⟩, if t.L.may c.path c.num c.foot c.mode = 0 then ⟨0, (t.L.newE c.path c.num c.foot c.mode).n, Lock.couldD t.L.es c.path c.mode⟩ else ansE (t.L.may c.path c.num c.foot c.mode))
def tryT (t : TS) (c : Cm) : TS × Ans :=
 if Lock.couldD t.L.es c.path c.mode then addT t c else if t.L.may c.path c.num c.foot c.mode = 0 then (t, ansE 51) else (t, ansE (t.L.may c.path c.num c.foot c.mode))
def locksT (t : TS) (c : Cm) : TS × Ans :=
 if mayT t c ≠ 0 then (t, ansE (mayT t c))
 else if c.kind = 4 then addT t c
 else if c.kind = 5 then tryT t c
 else if c.kind = 6 then (⟨t.S, t.L.remove c.path c.num c.foot⟩, ansE (if (Lock.find t.L.es c.path c.num c.foot).isSome then 0 else 52))
 else (t, ansE (if Lock.checkD t.L.es c.path c.n then 0 else 52))
def opT (t : TS) (c : Cm) (g : Ses → Ses) (e : Int) : TS := if e = 0 then ⟨updA g c.num c.foot t.S, t.L⟩ else t
def endT (t : TS) (c : Cm) (e : Int) : TS := if e = 0 then ⟨updA Ses.ended c.num c.foot t.S, t.L.dropAll c.num c.foot⟩ else t
def doT (t : TS) (c : Cm) : TS × Ans :=
 if c.kind = 1 then (opT t c (fun s => s.opened c.n c.time) (Lease.openE (lookA t.S c.num c.foot) (Lease.cnt t.S c.foot)), ansE (Lease.openE (lookA t.S c.num c.foot) (Lease.cnt t.S c.foot)))
 else if c.kind = 2 then (endT t c (if (lookA t.S c.num c.foot).op then 0 else 50), ansE (if (lookA t.S c.num c.foot).op then 0 else 50))
 else if c.kind = 3 then (opT t c (fun s => s.kept c.time) (if (lookA t.S c.num c.foot).op then 0 else 50), ansE (if (lookA t.S c.num c.foot).op then 0 else 50))
 else locksT t c
def tellT (t : TS) (c : Cm) (a : Ans) : TS := opT t c (fun s => s.tell c.req a) (Lease.tellE (lookA t.S c.num c.foot) c.req)
def applyT (t : TS) (c : Cm) : TS × Ans :=
 if rightC c = false ∨ c.kind = 0 then (t, ans0)
 else if c.kind = 8 then (endT t c (Lease.expB (lookA t.S c.num c.foot) c.time), ansE (Lease.expB (lookA t.S c.num c.foot) c.time))
 else match Lease.said (lookA t.S c.num c.foot).told c.req with
  | some a => (t, a)
  | none => if 256 ≤ (lookA t.S c.num c.foot).told.length then (t, ansE 14) else (tellT (doT t c).1 c (doT t c).2, (doT t c).2)
theorem find_zs (ss : List Ses) (n : Int) (f : ByteArray) : Lease.find (ss.map zs) n f = (Lease.find ss n f).map zs := by
 unfold Lease.find
 induction ss with
 | nil => rfl
 | cons s ss ih =>
  rw [List.map_cons, List.find?_cons, List.find?_cons, zs_is]
  cases s.is n f
  · exact ih
  · rfl
theorem look_zs (ss : List Ses) (n : Int) (f : ByteArray) : lookA (ss.map zs) n f = zs (Lease.look ss n f) := by
 unfold lookA Lease.look
 rw [find_zs]
 cases Lease.find ss n f <;> rfl
theorem cnt_zs (ss : List Ses) (f : ByteArray) : Lease.cnt (ss.map zs) f = Lease.cnt ss f := by
 unfold Lease.cnt
 rw [List.filter_map, List.length_map]
 rfl
def keyE (s : Ses) : Int × ByteArray := (s.num, s.foot)
theorem is_key {s : Ses} {n : Int} {f : ByteArray} : s.is n f = true ↔ keyE s = (n, f) := by unfold Lease.Ses.is keyE; simp
theorem upd_none {g : Ses → Ses} {n : Int} {f : ByteArray} : ∀ {S : List Ses}, Lease.find S n f = none → updA g n f S = S ++ [g (fresh n f 0 0)]
 | [], _ => rfl
 | s :: S, h => by
  unfold Lease.find at h
  rw [List.find?_cons] at h
  cases hq : s.is n f with
  | true => rw [hq] at h; cases h
  | false =>
   rw [hq] at h
   unfold updA
   rw [hq, if_neg (by decide), upd_none (S := S) h]
   rfl
theorem upd_mid {g : Ses → Ses} {n : Int} {f : ByteArray} {s : Ses} {l2 : List Ses} (hs : s.is n f = true) : ∀ {l1 : List Ses}, (∀ x ∈ l1, x.is n f = false) → updA g n f (l1 ++ s :: l2) = l1 ++ g s :: l2
 | [], _ => by simp [updA, hs]
 | x :: l1, h => by
  have h1 := h x (by simp)
  have ih := upd_mid (g := g) (l2 := l2) hs (l1 := l1) fun y hy => h y (by simp [hy])
  simp [updA, h1, ih]
def Kn (ss : List Ses) : Prop := (ss.map keyE).Nodup
theorem turned_upd {ss ss' : List Ses} {n : Int} {f : ByteArray} {g : Ses → Ses} (hk : Kn ss) (ht : Turned ss n f g ss') (hg : ∀ s, zs (g s) = g (zs s)) : ss'.map zs = updA g n f (ss.map zs) := by
 rcases ht with ⟨l1, s, l2, hf, rfl, rfl⟩ | ⟨hf, b, t, rfl⟩
 · have hs : s.is n f = true := by unfold Lease.find at hf; simpa using List.find?_some hf
   have hl : ∀ x ∈ l1.map zs, x.is n f = false := fun x hx => by
    obtain ⟨y, hy, rfl⟩ := List.mem_map.1 hx
    cases q : (zs y).is n f with
    | false => rfl
    | true =>
     unfold Kn at hk
     rw [List.map_append, List.map_cons] at hk
     have h1 := (List.nodup_append.1 hk).2.2 (keyE y) (List.mem_map.2 ⟨y, hy, rfl⟩) (keyE s) (by simp)
     exact absurd ((is_key.1 q).trans (is_key.1 hs).symm) h1
   rw [List.map_append, List.map_cons, List.map_append, List.map_cons, upd_mid (s := zs s) (by rw [zs_is]; exact hs) hl, hg]
 · rw [List.map_append, List.map_cons, List.map_nil, hg, upd_none (by rw [find_zs, hf]; rfl)]
   rfl
abbrev headT (t p q : Nat) : Part := Part.cells t [.pointer (some ⟨p, 0, none⟩), .pointer (some ⟨q, 0, none⟩)] 75
def TabP (t p m : Nat) (ss : List Ses) (b : Lock.Bk) : Part := Part.all [headT t p b.p, Lease.BookP p m ss, Lock.BookP b]
theorem tab_eqv (t p m : Nat) (ss : List Ses) (b : Lock.Bk) (F : List Part) : Eqv (TabP t p m ss b :: F) (headT t p b.p :: Lease.BookP p m ss :: Lock.BookP b :: F) := Eqv.all [headT t p b.p, Lease.BookP p m ss, Lock.BookP b] F
theorem tab_begin {w : World} {t p m : Nat} {ss : List Ses} {b : Lock.Bk} (h : Sep [TabP t p m ss b] w) : At [TabP t p m ss b] w [headT t p b.p, Lease.BookP p m ss, Lock.BookP b] w := (At.start h).to (tab_eqv t p m ss b [])
theorem tab_close {L0 : List Part} {w0 w : World} {t p m : Nat} {ss : List Ses} {b : Lock.Bk} (h : At L0 w0 [headT t p b.p, Lease.BookP p m ss, Lock.BookP b] w) : At L0 w0 [TabP t p m ss b] w := h.to (tab_eqv t p m ss b []).symm
structure TRel (ss : List Ses) (b : Lock.Bk) (t : TS) : Prop where
 S : ss.map zs = t.S
 L : b.st = t.L
structure SInv (S : List Ses) (m : Nat) : Prop where
 keys : Kn S
 num : ∀ s ∈ S, 0 ≤ s.num ∧ s.num < Lease.big64
 foot : ∀ s ∈ S, s.foot.size ≤ 1000
 len : S.length ≤ m
structure TInv (t : TS) (k : Nat) : Prop where
 s : SInv t.S (2 * k)
 lock : Lock.Inv t.L k
structure CmOk (c : Cm) : Prop where
 num : 0 ≤ c.num ∧ c.num < Lease.big64
 foot : c.foot.size ≤ 100
 path : c.path.size ≤ 100
theorem upd_key {g : Ses → Ses} {n : Int} {f : ByteArray} (hg : ∀ s, keyE (g s) = keyE s) : ∀ {S : List Ses} {x : Ses}, x ∈ updA g n f S → keyE x = (n, f) ∨ ∃ y ∈ S, keyE y = keyE x
 | [], x, h => by rw [List.mem_singleton.1 h, hg]; exact .inl rfl
 | s :: S, x, h => by
  unfold updA at h
  split at h
  · rcases List.mem_cons.1 h with rfl | h
    · exact .inr ⟨s, by simp, (hg s).symm⟩
    · exact .inr ⟨x, by simp [h], rfl⟩
  · rcases List.mem_cons.1 h with rfl | h
    · exact .inr ⟨x, by simp, rfl⟩
    · rcases upd_key hg h with q | ⟨y, h1, h2⟩
      · exact .inl q
      · exact .inr ⟨y, by simp [h1], h2⟩
theorem upd_len (g : Ses → Ses) (n : Int) (f : ByteArray) : ∀ S : List Ses, (updA g n f S).length ≤ S.length + 1
 | [] => by simp [updA]
 | s :: S => by
  unfold updA
  split
  · simp
  · have := upd_len g n f S
    simp only [List.length_cons]
    omega
theorem upd_kn {g : Ses → Ses} {n : Int} {f : ByteArray} (hg : ∀ s, keyE (g s) = keyE s) : ∀ {S : List Ses}, Kn S → Kn (updA g n f S)
 | [], _ => by simp [updA, Kn]
 | s :: S, h => by
  unfold Kn at h
  rw [List.map_cons, List.nodup_cons] at h
  unfold updA
  split
  · unfold Kn
    rw [List.map_cons, hg, List.nodup_cons]
    exact h
  · rename_i hq
    unfold Kn
    rw [List.map_cons, List.nodup_cons]
    refine ⟨fun q => ?_, upd_kn hg h.2⟩
    obtain ⟨x, hx, e⟩ := List.mem_map.1 q
    rcases upd_key hg hx with q2 | ⟨y, h1, h2⟩
    · exact hq (is_key.2 (e.symm.trans q2))
    · exact h.1 (List.mem_map.2 ⟨y, h1, h2.trans e⟩)
theorem keyE_num {x y : Ses} (h : keyE x = keyE y) : x.num = y.num ∧ x.foot = y.foot := ⟨congrArg Prod.fst h, congrArg Prod.snd h⟩
theorem SInv.mono {S : List Ses} {m j : Nat} (h : SInv S m) (hj : m ≤ j) : SInv S j := { h with len := Nat.le_trans h.len hj }
theorem SInv.upd {S : List Ses} {m : Nat} {c : Cm} {g : Ses → Ses} (h : SInv S m) (hc : CmOk c) (hg : ∀ s, keyE (g s) = keyE s) : SInv (updA g c.num c.foot S) (m + 1) := by
 refine ⟨upd_kn hg h.keys, fun s hs => ?_, fun s hs => ?_, Nat.le_trans (upd_len g c.num c.foot S) (Nat.succ_le_succ h.len)⟩
 · rcases upd_key hg hs with q | ⟨y, q1, q2⟩
   · rw [show s.num = c.num from congrArg Prod.fst q]; exact hc.num
   · rw [← (keyE_num q2).1]; exact h.num y q1
 · rcases upd_key hg hs with q | ⟨y, q1, q2⟩
   · rw [show s.foot = c.foot from congrArg Prod.snd q]; exact Nat.le_trans hc.foot (by omega)
   · rw [← (keyE_num q2).2]; exact h.foot y q1
theorem op_ok {c : Cm} (hc : CmOk c) (kind mode : Int) : (⟨kind, mode, c.path, c.num, c.foot⟩ : Lock.Op).ok := ⟨hc.path, hc.num.1, hc.num.2, Nat.le_trans hc.foot (by unfold maxLen; omega)⟩
theorem inv_add {l : S3} {k : Nat} {c : Cm} (h : Lock.Inv l k) (hc : CmOk c) : Lock.Inv (l.add c.path c.num c.foot c.mode) (k + 1) := Lock.inv_step h (op_ok hc 1 c.mode)
theorem inv_remove {l : S3} {k : Nat} {c : Cm} (h : Lock.Inv l k) (hc : CmOk c) : Lock.Inv (l.remove c.path c.num c.foot) (k + 1) := Lock.inv_step h (op_ok hc 2 c.mode)
theorem inv_drop {l : S3} {k : Nat} {c : Cm} (h : Lock.Inv l k) (hc : CmOk c) : Lock.Inv (l.dropAll c.num c.foot) (k + 1) := Lock.inv_step h (op_ok hc 3 c.mode)
theorem opT_inv {t : TS} {m : Nat} {c : Cm} {g : Ses → Ses} (e : Int) (h : SInv t.S m) (hc : CmOk c) (hg : ∀ s, keyE (g s) = keyE s) : SInv (opT t c g e).S (m + 1) ∧ (opT t c g e).L = t.L := by
 unfold opT
 split
 · exact ⟨h.upd hc hg, rfl⟩
 · exact ⟨h.mono (by omega), rfl⟩
theorem endT_inv {t : TS} {m k : Nat} {c : Cm} (e : Int) (h : SInv t.S m) (hl : Lock.Inv t.L k) (hc : CmOk c) : SInv (endT t c e).S (m + 1) ∧ Lock.Inv (endT t c e).L (k + 1) := by
 unfold endT
 split
 · exact ⟨h.upd hc fun s => rfl, inv_drop hl hc⟩
 · exact ⟨h.mono (by omega), hl.mono (by omega)⟩
theorem addT_inv {t : TS} {m k : Nat} {c : Cm} (h : SInv t.S m) (hl : Lock.Inv t.L k) (hc : CmOk c) : SInv (addT t c).1.S (m + 1) ∧ Lock.Inv (addT t c).1.L (k + 1) := ⟨h.mono (by omega), inv_add hl hc⟩
theorem doT_inv {t : TS} {m k : Nat} {c : Cm} (h : SInv t.S m) (hl : Lock.Inv t.L k) (hc : CmOk c) : SInv (doT t c).1.S (m + 1) ∧ Lock.Inv (doT t c).1.L (k + 1) := by
 have h0 : SInv t.S (m + 1) ∧ Lock.Inv t.L (k + 1) := ⟨h.mono (by omega), hl.mono (by omega)⟩
 unfold doT
 split
 · obtain ⟨q1, q2⟩ := opT_inv (Lease.openE (lookA t.S c.num c.foot) (Lease.cnt t.S c.foot)) (g := fun s => s.opened c.n c.time) h hc fun s => rfl
   exact ⟨q1, by rw [q2]; exact h0.2⟩
 split
 · exact endT_inv _ h hl hc
 split
 · obtain ⟨q1, q2⟩ := opT_inv (if (lookA t.S c.num c.foot).op then 0 else 50) (g := fun s => s.kept c.time) h hc fun s => rfl
   exact ⟨q1, by rw [q2]; exact h0.2⟩
 · unfold locksT
   split
   · exact h0
   split
   · exact addT_inv h hl hc
   split
   · unfold tryT
     split
     · exact addT_inv h hl hc
     split
     · exact h0
     · exact h0
   split
   · exact ⟨h0.1, inv_remove hl hc⟩
   · exact h0
theorem apply_inv {t : TS} {k : Nat} {c : Cm} (h : TInv t k) (hc : CmOk c) : TInv (applyT t c).1 (k + 1) := by
 have h0 : TInv t (k + 1) := ⟨h.s.mono (by omega), h.lock.mono (by omega)⟩
 unfold applyT
 split
 · exact h0
 split
 · obtain ⟨q1, q2⟩ := endT_inv (Lease.expB (lookA t.S c.num c.foot) c.time) h.s h.lock hc
   exact ⟨q1.mono (by omega), q2⟩
 split
 · exact h0
 split
 · exact h0
 · obtain ⟨q1, q2⟩ := doT_inv h.s h.lock hc
   obtain ⟨q3, q4⟩ := opT_inv (t := (doT t c).1) (Lease.tellE (lookA (doT t c).1.S c.num c.foot) c.req) (g := fun s => s.tell c.req (doT t c).2) q1 hc fun s => rfl
   exact ⟨q3.mono (by omega), by
    show Lock.Inv (opT _ _ _ _).L _
    rw [q4]; exact q2⟩
def playT (t : TS) (l : List Cm) : TS := l.foldl (fun t c => (applyT t c).1) t
def toldT : TS → List Cm → List Ans
 | _, [] => []
 | t, c :: l => (applyT t c).2 :: toldT (applyT t c).1 l
theorem playT_snoc (t : TS) (l : List Cm) (c : Cm) : playT t (l ++ [c]) = (applyT (playT t l) c).1 := by unfold playT; rw [List.foldl_append]; rfl
theorem toldT_snoc : ∀ (l : List Cm) (t : TS) (c : Cm), toldT t (l ++ [c]) = toldT t l ++ [(applyT (playT t l) c).2]
 | [], _, _ => rfl
 | x :: l, t, c => by
  show (applyT t x).2 :: toldT _ (l ++ [c]) = _
  rw [toldT_snoc l]
  rfl
theorem play_inv {l : List Cm} (hl : ∀ c ∈ l, CmOk c) : ∀ {t : TS} {k : Nat}, TInv t k → TInv (playT t l) (k + l.length) := by
 induction l with
 | nil => exact fun h => h
 | cons c l ih =>
  intro t k h
  have h1 := ih (fun x hx => hl x (by simp [hx])) (apply_inv h (hl c (by simp)))
  have e : k + 1 + l.length = k + (c :: l).length := by simp only [List.length_cons]; omega
  rw [← e]
  exact h1
theorem new_inv {first : Int} (h0 : 0 ≤ first) (h1 : first < Lock.big64) : TInv ⟨[], ⟨first, [], []⟩⟩ 0 := ⟨⟨by simp [Kn], nofun, nofun, by simp⟩, Lock.inv_new h0 h1⟩
end Go.Proofs.YtpebabaigakagaaGreatDoor.Tab
end
section
namespace Go.Proofs.YtpebabaigakagaaGreatDoor.Tab
open Path (bl rightB overB aboveB)
open Lease (Ses Ans fresh)
open Lock (S3 Ent)
open Cmd (Cm rightC)
theorem above_over {f p q : List UInt8} (h : aboveB f p = true) (ho : overB p q = true) : overB f q = true := by
 have hr := Path.over_right ho
 rw [Path.aboveB_parts] at h
 simp only [Bool.and_eq_true, decide_eq_true_eq] at h
 unfold overB at ho ⊢
 rw [Path.aboveB_parts, Path.aboveB_parts] at ho ⊢
 simp only [hr.1, hr.2, h.1.1, Bool.true_and, Bool.or_eq_true, decide_eq_true_eq] at ho ⊢
 rcases ho with ho | ho
 · exact .inl (h.2.trans ho)
 · rcases List.prefix_or_prefix_of_prefix h.2 ho with q1 | q1
   · exact .inl q1
   · exact .inr q1
theorem bl_inj {p q : ByteArray} (h : bl p = bl q) : p = q := by
 unfold Path.bl at h
 cases p; cases q
 congr 1
 exact Array.toList_inj.1 h
def updO (g : Option (Ses → Ses)) (n : Int) (f : ByteArray) (S : List Ses) : List Ses := match g with
 | some g => updA g n f S
 | none => S
def KeyG (g : Ses → Ses) : Prop := ∀ s, keyE (g s) = keyE s
theorem KeyG.is {g : Ses → Ses} (h : KeyG g) (s : Ses) (n : Int) (f : ByteArray) : (g s).is n f = s.is n f := by
 rw [Bool.eq_iff_iff, is_key, is_key, h]
theorem fresh_is (n : Int) (f : ByteArray) (m : Int) (k : ByteArray) (b t : Nat) : (fresh n f b t).is m k = decide (n = m ∧ f = k) := rfl
theorem upd_upd {g1 g2 : Ses → Ses} {n : Int} {f : ByteArray} (h1 : KeyG g1) : ∀ S, updA g2 n f (updA g1 n f S) = updA (fun s => g2 (g1 s)) n f S
 | [] => by simp [updA, h1.is, fresh_is]
 | s :: S => by
  unfold updA
  cases hq : s.is n f with
  | true => simp [updA, h1.is, hq]
  | false => simp [updA, hq, upd_upd h1 S]
theorem look_other {g : Ses → Ses} {n m : Int} {f k : ByteArray} (hg : KeyG g) (hne : ¬(n = m ∧ f = k)) : ∀ S, lookA (updA g m k S) n f = lookA S n f
 | [] => by
  have : ¬(m = n ∧ k = f) := fun q => hne ⟨q.1.symm, q.2.symm⟩
  simp [lookA, updA, Lease.find, hg.is, fresh_is, this]
 | s :: S => by
  unfold updA
  have ih := look_other hg hne S
  cases hq : s.is m k with
  | true =>
   have h2 : s.is n f = false := by
    cases q : s.is n f with
    | false => rfl
    | true =>
     have e := (is_key.1 q).symm.trans (is_key.1 hq)
     exact absurd ⟨congrArg Prod.fst e, congrArg Prod.snd e⟩ hne
   simp [lookA, Lease.find, hg.is, h2]
  | false =>
   simp only [Bool.false_eq_true, if_false]
   unfold lookA Lease.find at *
   rw [List.find?_cons, List.find?_cons]
   cases s.is n f
   · exact ih
   · rfl
theorem upd_comm {g h : Ses → Ses} {n m : Int} {f k : ByteArray} (hg : KeyG g) (hh : KeyG h) (hne : ¬(n = m ∧ f = k)) : ∀ S, (updA g n f (updA h m k S)).Perm (updA h m k (updA g n f S))
 | [] => by
  have q : ¬(m = n ∧ k = f) := fun q => hne ⟨q.1.symm, q.2.symm⟩
  simp only [updA, hg.is, hh.is, fresh_is, hne, q, decide_false, Bool.false_eq_true, if_false]
  exact .swap _ _ _
 | s :: S => by
  have ih := upd_comm hg hh hne S
  cases h1 : s.is n f with
  | true =>
   have h2 : s.is m k = false := by
    cases q : s.is m k with
    | false => rfl
    | true =>
     have e := (is_key.1 h1).symm.trans (is_key.1 q)
     exact absurd ⟨congrArg Prod.fst e, congrArg Prod.snd e⟩ hne
   simp [updA, h1, h2, hg.is]
  | false =>
   cases h2 : s.is m k with
   | true => simp [updA, h1, h2, hh.is]
   | false =>
    simp only [updA, h1, h2, Bool.false_eq_true, if_false]
    exact ih.cons _
theorem kn_cons {s : Ses} {S : List Ses} (h : Kn (s :: S)) : (∀ x ∈ S, keyE x ≠ keyE s) ∧ Kn S := by
 unfold Kn at *
 rw [List.map_cons, List.nodup_cons] at h
 exact ⟨fun x hx e => h.1 (List.mem_map.2 ⟨x, hx, e⟩), h.2⟩
theorem upd_form {g : Ses → Ses} {n : Int} {f : ByteArray} : ∀ {S}, Kn S → (updA g n f S).Perm (g (lookA S n f) :: S.filter (fun x => !x.is n f))
 | [], _ => by simp [updA, lookA, Lease.find]
 | s :: S, hk => by
  obtain ⟨h1, h2⟩ := kn_cons hk
  unfold updA
  cases hq : s.is n f with
  | true =>
   have hf : S.filter (fun x => !x.is n f) = S := List.filter_eq_self.2 fun x hx => by
    cases q : x.is n f with
    | false => rfl
    | true => exact absurd ((is_key.1 q).trans (is_key.1 hq).symm) (h1 x hx)
   simp [hq, hf, lookA, Lease.find]
  | false =>
   have ih := upd_form (g := g) (n := n) (f := f) h2
   have hl : lookA (s :: S) n f = lookA S n f := by simp [lookA, Lease.find, hq]
   rw [hl, List.filter_cons, hq]
   simp only [Bool.false_eq_true, if_false, Bool.not_false, if_true]
   exact (ih.cons s).trans (.swap _ _ _)
theorem look_perm {S S' : List Ses} (h : S.Perm S') (hk : Kn S) (n : Int) (f : ByteArray) : lookA S n f = lookA S' n f := by
 have hk' : Kn S' := by unfold Kn at *; exact (h.map keyE).nodup_iff.1 hk
 unfold lookA
 congr 1
 unfold Lease.find
 cases h1 : S.find? (·.is n f) with
 | none =>
  symm
  rw [List.find?_eq_none] at h1 ⊢
  exact fun x hx => h1 x (h.mem_iff.2 hx)
 | some s =>
  have a1 := List.find?_some h1
  have a2 := h.mem_iff.1 (List.mem_of_find?_eq_some h1)
  cases h2 : S'.find? (·.is n f) with
  | none => exact absurd a1 (List.find?_eq_none.1 h2 s a2)
  | some r =>
   have b1 := List.find?_some h2
   have b2 := List.mem_of_find?_eq_some h2
   have e : keyE s = keyE r := (is_key.1 a1).trans (is_key.1 b1).symm
   have key : ∀ {l : List Ses}, (l.map keyE).Nodup → ∀ {x y}, x ∈ l → y ∈ l → keyE x = keyE y → x = y := by
    intro l
    induction l with
    | nil => intro _ x y hx; cases hx
    | cons z l ih =>
     intro hn x y hx hy hxy
     rw [List.map_cons, List.nodup_cons] at hn
     rcases List.mem_cons.1 hx with e1 | hx2 <;> rcases List.mem_cons.1 hy with e2 | hy2
     · rw [e1, e2]
     · subst e1; exact absurd (List.mem_map.2 ⟨y, hy2, hxy.symm⟩) hn.1
     · subst e2; exact absurd (List.mem_map.2 ⟨x, hx2, hxy⟩) hn.1
     · exact ih hn.2 hx2 hy2 hxy
   rw [key hk' a2 b2 e]
theorem upd_perm {S S' : List Ses} (h : S.Perm S') (hk : Kn S) (g : Ses → Ses) (n : Int) (f : ByteArray) : (updA g n f S).Perm (updA g n f S') := by
 have hk' : Kn S' := by unfold Kn at *; exact (h.map keyE).nodup_iff.1 hk
 refine (upd_form hk).trans (.trans ?_ (upd_form hk').symm)
 rw [look_perm h hk]
 exact (h.filter _).cons _
theorem cnt_perm {S S' : List Ses} (h : S.Perm S') (f : ByteArray) : Lease.cnt S f = Lease.cnt S' f := by
 unfold Lease.cnt
 exact (h.filter _).length_eq
theorem cnt_cons (s : Ses) (S : List Ses) (f : ByteArray) : Lease.cnt (s :: S) f = (if s.foot.toList == f.toList && s.op then 1 else 0) + Lease.cnt S f := by
 unfold Lease.cnt
 rw [List.filter_cons]
 split <;> simp <;> omega
theorem cnt_other {g : Ses → Ses} {m : Int} {k f : ByteArray} (hg : KeyG g) (hne : k ≠ f ∨ ∀ s, (g s).op = s.op) : ∀ S, Lease.cnt (updA g m k S) f = Lease.cnt S f
 | [] => by
  have e : (g (fresh m k 0 0)).foot = k := congrArg Prod.snd (hg (fresh m k 0 0))
  unfold updA
  rw [cnt_cons, e]
  rcases hne with q | q
  · have : (k.toList == f.toList) = false := by rw [Lock.same_ba]; exact decide_eq_false q
    simp [this]
  · rw [q]; simp [fresh]
 | s :: S => by
  unfold updA
  split
  · rename_i hq
    have e : (g s).foot = s.foot := congrArg Prod.snd (hg s)
    rw [cnt_cons, cnt_cons, e]
    rcases hne with q | q
    · have e2 : s.foot = k := congrArg Prod.snd (is_key.1 hq)
      have : (s.foot.toList == f.toList) = false := by rw [Lock.same_ba, e2]; exact decide_eq_false q
      simp [this]
    · rw [q]
  · rw [cnt_cons, cnt_cons, cnt_other hg hne S]
def ovP (p : ByteArray) (e : Ent) : Bool := overB (bl e.path) (bl p)
structure LocL (l l' : S3) (p : ByteArray) (n : Int) (f : ByteArray) : Prop where
 first : l.first = l'.first
 own : (l.es.filter (·.of n f)).Perm (l'.es.filter (·.of n f))
 ov : (l.es.filter (ovP p)).Perm (l'.es.filter (ovP p))
 ctr : Lock.counter l.first l.cs p = Lock.counter l'.first l'.cs p
theorem isSome_any (es : List Ent) (p : ByteArray) (n : Int) (f : ByteArray) : (Lock.find es p n f).isSome = (es.filter (·.of n f)).any (·.is p n f) := by
 unfold Lock.find
 rw [List.any_filter, Bool.eq_iff_iff, List.find?_isSome, List.any_eq_true]
 refine exists_congr fun x => and_congr_right fun _ => ?_
 simp only [Lock.Ent.is, Lock.Ent.of, Bool.and_eq_true, decide_eq_true_eq]
 exact ⟨fun h => ⟨h.2, h⟩, fun h => h.2⟩
theorem maxS_ov (es : List Ent) (p : ByteArray) : Lock.maxS es p = Lock.maxS (es.filter (ovP p)) p := by
 unfold Lock.maxS
 rw [List.foldl_filter]
 congr 1
 funext m e
 unfold ovP
 cases overB (bl e.path) (bl p) <;> rfl
theorem could_ov (es : List Ent) (p : ByteArray) (mode : Int) : Lock.couldD es p mode = Lock.couldD (es.filter (ovP p)) p mode := by
 unfold Lock.couldD
 rw [List.all_filter]
 congr 1
 congr 1
 funext x
 unfold Lock.wayB ovP
 cases overB (bl x.path) (bl p) <;> simp
def checkC (l : List Ent) (p : ByteArray) (n : Int) : Bool := l.any (fun e => decide (e.path = p ∧ e.n = n) && Lock.clearB l e)
theorem check_clear {l : S3} {k : Nat} (h : Lock.Inv l k) (p : ByteArray) (n : Int) : Lock.checkD l.es p n = checkC l.es p n := by
 rw [Bool.eq_iff_iff]
 unfold checkC
 rw [List.any_eq_true]
 constructor
 · intro hc
   unfold Lock.checkD at hc
   cases hf : l.es.findIdx? (fun e => decide (e.path = p ∧ e.n = n)) with
   | none => rw [hf] at hc; cases hc
   | some j =>
    rw [hf] at hc
    obtain ⟨hj, h2, _⟩ := List.findIdx?_eq_some_iff_getElem.1 hf
    refine ⟨l.es[j], List.getElem_mem hj, ?_⟩
    rw [Bool.and_eq_true]
    exact ⟨h2, by rw [Lock.clear_grant h.order (List.getElem?_eq_getElem hj)]; exact hc⟩
 · rintro ⟨e, he, hq⟩
   rw [Bool.and_eq_true, decide_eq_true_eq] at hq
   obtain ⟨j, hj⟩ := List.mem_iff_getElem?.1 he
   rw [← hq.1.1, ← hq.1.2, Lock.check_some h.nums hj, ← Lock.clear_grant h.order hj]
   exact hq.2
theorem clear_ov (es : List Ent) (p : ByteArray) {e : Ent} (he : e.path = p) : Lock.clearB es e = Lock.clearB (es.filter (ovP p)) e := by
 unfold Lock.clearB
 rw [List.all_filter]
 congr 1
 funext x
 unfold Lock.wayB ovP
 rw [he]
 cases overB (bl x.path) (bl p) <;> simp
theorem check_ov (es : List Ent) {p : ByteArray} (hp : rightB (bl p) = true) (n : Int) : checkC es p n = checkC (es.filter (ovP p)) p n := by
 unfold checkC
 rw [List.any_filter]
 congr 1
 funext e
 by_cases he : e.path = p
 · have h1 : ovP p e = true := by unfold ovP; rw [he]; exact Path.over_self hp
   rw [h1, Bool.true_and, ← clear_ov es p he]
 · rw [decide_eq_false (fun q => he q.1)]; simp
theorem check_perm {l r : List Ent} (h : l.Perm r) (p : ByteArray) (n : Int) : checkC l p n = checkC r p n := by
 unfold checkC
 rw [h.any_eq]
 congr 1
 funext e
 rw [Lock.clearB_perm h]
section
variable {l l' : S3} {p : ByteArray} {n : Int} {f : ByteArray} (h : LocL l l' p n f)
include h
theorem LocL.find : (Lock.find l.es p n f).isSome = (Lock.find l'.es p n f).isSome := by rw [isSome_any, isSome_any, h.own.any_eq]
theorem LocL.maxS : Lock.maxS l.es p = Lock.maxS l'.es p := by rw [maxS_ov, maxS_ov l'.es, Lock.maxS_perm h.ov]
theorem LocL.could (mode : Int) : Lock.couldD l.es p mode = Lock.couldD l'.es p mode := by
 rw [could_ov, could_ov l'.es]
 unfold Lock.couldD
 rw [h.ov.all_eq]
theorem LocL.held : Lock.heldN l.es n f = Lock.heldN l'.es n f := h.own.length_eq
theorem LocL.may (mode : Int) : l.may p n f mode = l'.may p n f mode := by
 unfold S3.may
 rw [h.find, h.held, h.ctr]
theorem LocL.newE (mode : Int) : l.newE p n f mode = l'.newE p n f mode := by
 unfold S3.newE
 rw [h.ctr, h.maxS]
theorem LocL.check (hp : rightB (bl p) = true) {k k' : Nat} (hi : Lock.Inv l k) (hi' : Lock.Inv l' k') (m : Int) : Lock.checkD l.es p m = Lock.checkD l'.es p m := by
 rw [check_clear hi, check_clear hi', check_ov _ hp, check_ov l'.es hp, check_perm h.ov]
end
inductive LE where
 | nop
 | add (e : Ent)
 | rem (p : ByteArray) (n : Int) (f : ByteArray)
 | drop (n : Int) (f : ByteArray)
def LE.run (l : S3) : LE → S3
 | .nop => l
 | .add e => ⟨l.first, l.es ++ [e], Lock.putC l.cs e.path e.n⟩
 | .rem p n f => l.remove p n f
 | .drop n f => l.dropAll n f
structure LEq (l l' : S3) : Prop where
 first : l.first = l'.first
 es : l.es.Perm l'.es
 cs : l.cs.Perm l'.cs
def CK (cs : List (ByteArray × Int)) : Prop := cs.Pairwise (fun a b => a.1 ≠ b.1)
theorem ctr_perm {cs cs' : List (ByteArray × Int)} (h : cs.Perm cs') (hk : CK cs) (p : ByteArray) : Lock.ctr cs p = Lock.ctr cs' p := by
 have hk' : CK cs' := h.pairwise hk fun {_ _} q => q.symm
 unfold Lock.ctr
 congr 1
 have one : ∀ {l : List (ByteArray × Int)}, CK l → ∀ {x y}, x ∈ l → y ∈ l → x.1 = y.1 → x = y := by
  intro l
  induction l with
  | nil => intro _ x y hx; cases hx
  | cons z l ih =>
   intro hn x y hx hy hxy
   have h1 := List.pairwise_cons.1 hn
   rcases List.mem_cons.1 hx with e1 | hx2 <;> rcases List.mem_cons.1 hy with e2 | hy2
   · rw [e1, e2]
   · subst e1; exact absurd hxy (h1.1 y hy2)
   · subst e2; exact absurd hxy.symm (h1.1 x hx2)
   · exact ih h1.2 hx2 hy2 hxy
 cases h1 : cs.find? (·.1 = p) with
 | none =>
  symm
  rw [List.find?_eq_none] at h1 ⊢
  exact fun x hx => h1 x (h.mem_iff.2 hx)
 | some s =>
  have a1 := List.find?_some h1
  have a2 := h.mem_iff.1 (List.mem_of_find?_eq_some h1)
  cases h2 : cs'.find? (·.1 = p) with
  | none => exact absurd a1 (List.find?_eq_none.1 h2 s a2)
  | some r =>
   have b1 := List.find?_some h2
   have b2 := List.mem_of_find?_eq_some h2
   simp only [decide_eq_true_eq] at a1 b1
   rw [one hk' a2 b2 (a1.trans b1.symm)]
theorem put_form {p : ByteArray} {n : Int} : ∀ {cs}, CK cs → (Lock.putC cs p n).Perm ((p, n) :: cs.filter (fun c => !decide (c.1 = p)))
 | [], _ => by simp [Lock.putC]
 | c :: cs, hk => by
  have hk' := List.pairwise_cons.1 hk
  unfold Lock.putC
  by_cases hc : c.1 = p
  · have hf : cs.filter (fun c => !decide (c.1 = p)) = cs := List.filter_eq_self.2 fun x hx => by
     have := hk'.1 x hx
     simp only [Bool.not_eq_true', decide_eq_false_iff_not]
     exact fun e => this (hc.trans e.symm)
    rw [if_pos hc, List.filter_cons, decide_eq_true hc, hf]
    exact .refl _
  · rw [if_neg hc, List.filter_cons, decide_eq_false hc]
    exact ((put_form hk'.2).cons c).trans (.swap _ _ _)
theorem put_perm {cs cs' : List (ByteArray × Int)} (h : cs.Perm cs') (hk : CK cs) (p : ByteArray) (n : Int) : (Lock.putC cs p n).Perm (Lock.putC cs' p n) :=
 (put_form hk).trans (((h.filter _).cons _).trans (put_form (h.pairwise hk fun {_ _} q => q.symm)).symm)
theorem put_comm {p q : ByteArray} {m n : Int} (hne : p ≠ q) : ∀ cs, (Lock.putC (Lock.putC cs p m) q n).Perm (Lock.putC (Lock.putC cs q n) p m)
 | [] => by
  simp only [Lock.putC, if_neg hne, if_neg (fun e => hne (Eq.symm e))]
  exact .swap _ _ _
 | c :: cs => by
  have ih := put_comm (m := m) (n := n) hne cs
  by_cases h1 : c.1 = p
  · have h2 : ¬ c.1 = q := fun e => hne (h1.symm.trans e)
    simp [Lock.putC, h1, h2, hne]
  · by_cases h2 : c.1 = q
    · have hne' : ¬ q = p := fun e => hne e.symm
      simp [Lock.putC, h1, h2, hne']
    · simp only [Lock.putC, if_neg h1, if_neg h2]
      exact ih.cons _
theorem LEq.refl (l : S3) : LEq l l := ⟨rfl, .refl _, .refl _⟩
theorem LEq.symm {l l' : S3} (h : LEq l l') : LEq l' l := ⟨h.first.symm, h.es.symm, h.cs.symm⟩
theorem LEq.trans {l l' l'' : S3} (h : LEq l l') (k : LEq l' l'') : LEq l l'' := ⟨h.first.trans k.first, h.es.trans k.es, h.cs.trans k.cs⟩
theorem LEq.loc {l l' : S3} (h : LEq l l') (hk : CK l.cs) (p : ByteArray) (n : Int) (f : ByteArray) : LocL l l' p n f :=
 ⟨h.first, h.es.filter _, h.es.filter _, by unfold Lock.counter; rw [ctr_perm h.cs hk, h.first]⟩
theorem LEq.run {l l' : S3} (h : LEq l l') (hk : CK l.cs) (e : LE) : LEq (e.run l) (e.run l') := by
 cases e with
 | nop => exact h
 | add e => exact ⟨h.first, h.es.append_right _, put_perm h.cs hk _ _⟩
 | rem p n f => exact ⟨h.first, h.es.filter _, h.cs⟩
 | drop n f => exact ⟨h.first, h.es.filter _, h.cs⟩
end Go.Proofs.YtpebabaigakagaaGreatDoor.Tab
end
section
namespace Go.Proofs.YtpebabaigakagaaGreatDoor.Tab
open Lease (Ses Ans fresh)
open Lock (S3 Ent)
open Cmd (Cm rightC)
theorem look_upd {g : Ses → Ses} {n : Int} {f : ByteArray} (hg : ∀ s, keyE (g s) = keyE s) : ∀ S : List Ses, lookA (updA g n f S) n f = g (lookA S n f)
 | [] => by
  have h : (g (fresh n f 0 0)).is n f = true := is_key.2 (by rw [hg]; rfl)
  simp [lookA, updA, Lease.find, h]
 | s :: S => by
  unfold updA
  cases hq : s.is n f with
  | true =>
   have h : (g s).is n f = true := is_key.2 (by rw [hg]; exact is_key.1 hq)
   simp [lookA, Lease.find, hq, h]
  | false =>
   have ih := look_upd (n := n) (f := f) hg S
   simp only [Bool.false_eq_true, if_false]
   unfold lookA Lease.find at *
   rw [List.find?_cons, List.find?_cons, hq]
   exact ih
end Go.Proofs.YtpebabaigakagaaGreatDoor.Tab
end
