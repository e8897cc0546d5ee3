/- LeaseP, TabV, LockJ, joined. -/
import Derived.Test.YtpebabaigakagaaGreatDoorP5
import Derived.Test.YtpebabaigakagaaGreatDoorP18
import Derived.Test.YtpebabaigakagaaGreatDoorP19
import Derived.Test.YtpebabaigakagaaGreatDoorP13
import Derived.Test.YtpebabaigakagaaGreatDoorP11
set_option linter.unusedSimpArgs false
set_option linter.unusedVariables false
set_option maxRecDepth 100000
set_option maxHeartbeats 16000000
section
namespace Go.Proofs.YtpebabaigakagaaGreatDoor.Lease
open Go.RowKit
open Go.Lib (compareBytes)
open _root_.Go.Proofs.YtpebabaigakagaaGreatDoor.Sess (ltS sortS cbS)
section
variable {α : Type} {lt : α → α → Prop} {p : α → Bool} {a : α} {l : List α}
theorem drop_not (tr : ∀ x y z, lt x y → lt y z → lt x z) (hp : ∀ x, p x = true ↔ lt x a) : ∀ {l : List α}, l.Pairwise lt → ∀ z ∈ l.dropWhile p, ¬ lt z a
 | [], _, z, hz => by simp at hz
 | y :: l, hs, z, hz => by
  by_cases hy : p y = true
  · rw [List.dropWhile_cons_of_pos hy] at hz
    exact drop_not tr hp (List.pairwise_cons.1 hs).2 z hz
  · rw [List.dropWhile_cons_of_neg hy] at hz
    rcases List.mem_cons.1 hz with rfl | hz
    · exact fun h => hy ((hp _).2 h)
    · exact fun h => hy ((hp _).2 (tr _ _ _ ((List.pairwise_cons.1 hs).1 z hz) h))
theorem take_lt (hp : ∀ x, p x = true ↔ lt x a) : ∀ x ∈ l.takeWhile p, lt x a := fun x hx => (hp x).1 (by
 induction l with
 | nil => simp at hx
 | cons y l ih =>
  rw [List.takeWhile_cons] at hx
  split at hx
  · rename_i hy
    rcases List.mem_cons.1 hx with rfl | hx
    · exact hy
    · exact ih hx
  · simp at hx)
theorem ins_sorted (tr : ∀ x y z, lt x y → lt y z → lt x z) (hp : ∀ x, p x = true ↔ lt x a) (hs : l.Pairwise lt) {r : List α} (hr : r.Sublist (l.dropWhile p)) (hr2 : ∀ x ∈ r, lt a x) : (l.takeWhile p ++ a :: r).Pairwise lt := by
 refine List.pairwise_append.2 ⟨hs.sublist (List.takeWhile_sublist p), List.pairwise_cons.2 ⟨hr2, (hs.sublist (List.dropWhile_sublist p)).sublist hr⟩, fun x hx y hy => ?_⟩
 have h1 := take_lt hp x hx
 rcases List.mem_cons.1 hy with rfl | hy
 · exact h1
 · exact tr _ _ _ h1 (hr2 y hy)
end
def arP (a : AR) : Int × Ans := (a.r, ⟨a.e, a.n, a.g⟩)
def okA (a : AR) : Prop := (-9223372036854775808 ≤ a.e ∧ a.e ≤ 9223372036854775807) ∧ 0 ≤ a.n ∧ a.n < big64
structure RelT (told : List (Int × Ans)) (l : List AR) : Prop where
 perm : told.Perm (l.map arP)
 srt : l.Pairwise (fun a b => a.r < b.r)
 bd : ∀ x ∈ l, 0 ≤ x.r ∧ x.r < big64
 len : l.length ≤ 256
 an : ∀ x ∈ l, okA x
theorem RelT.nil : RelT [] [] := ⟨by simp, List.Pairwise.nil, nofun, by simp, nofun⟩
theorem RelT.size {told : List (Int × Ans)} {l : List AR} (h : RelT told l) : told.length = l.length := by simpa using h.perm.length_eq
theorem RelT.uniq {told : List (Int × Ans)} {l : List AR} (h : RelT told l) {x y : AR} (hx : x ∈ l) (hy : y ∈ l) (e : x.r = y.r) : x = y := by
 obtain ⟨i, hi⟩ := List.mem_iff_getElem?.1 hx
 obtain ⟨j, hj⟩ := List.mem_iff_getElem?.1 hy
 by_cases hij : i = j
 · subst hij; rw [hi] at hj; exact Option.some.inj hj
 · exfalso
   obtain ⟨hi1, hi2⟩ := List.getElem?_eq_some_iff.1 hi
   obtain ⟨hj1, hj2⟩ := List.getElem?_eq_some_iff.1 hj
   have hp := List.pairwise_iff_getElem.1 h.srt
   rcases Nat.lt_or_gt_of_ne hij with q | q
   · have := hp i j hi1 hj1 q; rw [hi2, hj2] at this; omega
   · have := hp j i hj1 hi1 q; rw [hi2, hj2] at this; omega
theorem RelT.said {told : List (Int × Ans)} {l : List AR} (h : RelT told l) (r : Int) : Lease.said told r = (saidA l r).map (fun a => (arP a).2) := by
 cases hs : saidA l r with
 | none =>
  unfold saidA at hs
  have hn := List.find?_eq_none.1 hs
  unfold Lease.said
  rw [List.find?_eq_none.2 (fun q hq hr => ?_)]
  · rfl
  · obtain ⟨a, ha, rfl⟩ := List.mem_map.1 (h.perm.mem_iff.1 hq)
    exact hn a ha (by simpa [arP] using of_decide_eq_true hr)
 | some a =>
  unfold saidA at hs
  have h1 := List.find?_some hs
  have h2 := List.mem_of_find?_eq_some hs
  have h1' : a.r = r := by simpa using h1
  have h3 : (r, (arP a).2) ∈ told := h.perm.mem_iff.2 (List.mem_map.2 ⟨a, h2, by simp [arP, h1']⟩)
  unfold Lease.said
  cases hq : told.find? (fun q => decide (q.1 = r)) with
  | none =>
   exfalso
   have h4 := List.find?_eq_none.1 hq _ h3
   simp at h4
  | some q =>
   have q1 := List.find?_some hq
   obtain ⟨b, hb, rfl⟩ := List.mem_map.1 (h.perm.mem_iff.1 (List.mem_of_find?_eq_some hq))
   have hb2 : b.r = r := of_decide_eq_true q1
   rw [h.uniq hb h2 (hb2.trans h1'.symm)]
   rfl
theorem insA_perm (l : List AR) (a : AR) : (insA l a).Perm (a :: l) := by
 unfold insA
 refine List.perm_middle.trans (List.Perm.cons _ ?_)
 rw [List.takeWhile_append_dropWhile]
theorem RelT.tell {told : List (Int × Ans)} {l : List AR} (h : RelT told l) {a : AR} (hn : saidA l a.r = none) (hl : l.length < 256) (hb : 0 ≤ a.r ∧ a.r < big64) (ha : okA a) : RelT (told ++ [arP a]) (insA l a) := by
 have hno : ∀ x ∈ l, x.r ≠ a.r := fun x hx e => by
  unfold saidA at hn
  exact List.find?_eq_none.1 hn x hx (by simpa using e)
 have hp : ∀ x, aheadA a x = true ↔ x.r < a.r := fun x => by simp [aheadA]
 refine ⟨?_, ?_, fun x hx => ?_, ?_, fun x hx => ?_⟩
 · have e : ((insA l a).map arP).Perm (arP a :: l.map arP) := (insA_perm l a).map arP
   exact (List.perm_append_comm.trans (by simpa using h.perm.cons (arP a))).trans e.symm
 · refine ins_sorted (lt := fun x y : AR => x.r < y.r) (fun _ _ _ h1 h2 => Int.lt_trans h1 h2) hp h.srt (List.Sublist.refl _) fun x hx => ?_
   have h1 := drop_not (lt := fun x y : AR => x.r < y.r) (fun _ _ _ h1 h2 => Int.lt_trans h1 h2) hp h.srt x hx
   have h2 := hno x ((List.dropWhile_sublist _).subset hx)
   omega
 · rcases List.mem_cons.1 ((insA_perm l a).mem_iff.1 hx) with rfl | hx
   · exact hb
   · exact h.bd x hx
 · have := (insA_perm l a).length_eq
   simp at this
   omega
 · rcases List.mem_cons.1 ((insA_perm l a).mem_iff.1 hx) with rfl | hx
   · exact ha
   · exact h.an x hx
structure RelS (s : Ses) (a : SR) : Prop where
 num : s.num = a.num
 foot : s.foot = a.foot
 op : s.op = a.op
 dead : s.dead = a.dead
 dl : s.dl = a.dl
 ttl : s.ttl = a.ttl
 told : RelT s.told a.told
 tb : 0 ≤ a.ttl ∧ a.ttl ≤ 2199023255552
 db : 0 ≤ a.dl ∧ a.dl ≤ 2199023255552
def keyR (a : SR) : Int × ByteArray := (a.num, a.foot)
def keyE (s : Ses) : Int × ByteArray := (s.num, s.foot)
def ltR (a b : SR) : Prop := ltS (keyR a) (keyR b)
theorem less_cb : ∀ (x y : List UInt8), Op.bytesLess x y = decide (compareBytes x y < 0)
 | [], [] => by simp [Op.bytesLess, compareBytes]
 | [], _ :: _ => by simp [Op.bytesLess, compareBytes]
 | _ :: _, [] => by simp [Op.bytesLess, compareBytes]
 | a :: x, b :: y => by
  rw [Op.bytesLess, less_cb x y]
  simp only [compareBytes]
  rcases Nat.lt_trichotomy a.toNat b.toNat with h | h | h
  · have h1 : a < b := UInt8.lt_iff_toNat_lt.2 h
    simp [h1]
  · have e : a = b := UInt8.toNat_inj.1 h
    subst e
    have h1 : ¬ a < a := fun q => by have := UInt8.lt_iff_toNat_lt.1 q; omega
    simp [h1]
  · have h1 : b < a := UInt8.lt_iff_toNat_lt.2 h
    have h2 : ¬ a < b := fun q => by have := UInt8.lt_iff_toNat_lt.1 q; omega
    have h3 : a ≠ b := fun e => by subst e; omega
    simp [h1, h2, h3]
theorem ahead_iff (s x : SR) : aheadR s x = true ↔ ltR x s := by
 unfold aheadR ltR ltS keyR cbS
 rw [Lib.toList_data, Lib.toList_data, less_cb]
 simp
theorem is_iff {n : Int} {f : ByteArray} {a : SR} : SR.is n f a = true ↔ keyR a = (n, f) := by
 unfold SR.is keyR
 rw [Lib.toList_data, Lib.toList_data]
 simp only [Bool.and_eq_true, beq_iff_eq, Prod.mk.injEq]
 constructor
 · rintro ⟨h1, h2⟩; exact ⟨h1, Go.WideShapes.bytes_inj h2⟩
 · rintro ⟨h1, h2⟩; exact ⟨h1, by rw [h2]⟩
theorem ltR_trans : ∀ x y z : SR, ltR x y → ltR y z → ltR x z := fun _ _ _ h1 h2 => Sess.ltS_trans h1 h2
theorem ltR_ne {x y : SR} (h : ltR x y) : keyR x ≠ keyR y := fun e => by unfold ltR at h; rw [e] at h; exact Sess.ltS_irrefl _ h
structure Rel (ss : List Ses) (L : List SR) : Prop where
 keys : (ss.map keyE).Perm (L.map keyR)
 srt : L.Pairwise ltR
 each : ∀ s ∈ ss, ∀ a ∈ L, keyE s = keyR a → RelS s a
theorem Rel.nil : Rel [] [] := ⟨by simp, List.Pairwise.nil, nofun⟩
theorem Rel.len {ss : List Ses} {L : List SR} (h : Rel ss L) : ss.length = L.length := by simpa using h.keys.length_eq
theorem nodup_keys {L : List SR} (h : L.Pairwise ltR) : (L.map keyR).Nodup := List.pairwise_map.2 (h.imp ltR_ne)
theorem Rel.nodupL {ss : List Ses} {L : List SR} (h : Rel ss L) : (L.map keyR).Nodup := nodup_keys h.srt
theorem Rel.nodupS {ss : List Ses} {L : List SR} (h : Rel ss L) : (ss.map keyE).Nodup := h.keys.nodup_iff.2 h.nodupL
theorem key_inj {α β : Type} {f : α → β} {l : List α} (h : (l.map f).Nodup) {x y : α} (hx : x ∈ l) (hy : y ∈ l) (e : f x = f y) : x = y := by
 obtain ⟨i, hi⟩ := List.mem_iff_getElem?.1 hx
 obtain ⟨j, hj⟩ := List.mem_iff_getElem?.1 hy
 by_cases hij : i = j
 · subst hij; rw [hi] at hj; exact Option.some.inj hj
 · exfalso
   obtain ⟨hi1, hi2⟩ := List.getElem?_eq_some_iff.1 hi
   obtain ⟨hj1, hj2⟩ := List.getElem?_eq_some_iff.1 hj
   have hp := List.pairwise_iff_getElem.1 (List.pairwise_map.1 h)
   rcases Nat.lt_or_gt_of_ne hij with q | q
   · exact hp i j hi1 hj1 q (by rw [hi2, hj2, e])
   · exact hp j i hj1 hi1 q (by rw [hi2, hj2, e])
theorem is_key {s : Ses} {n : Int} {f : ByteArray} : s.is n f = true ↔ keyE s = (n, f) := by simp [Ses.is, keyE]
theorem RelS.none (n : Int) (f : ByteArray) (b t : Nat) : RelS (fresh n f b t) (noSR n f) := ⟨rfl, rfl, rfl, rfl, rfl, rfl, RelT.nil, by simp [noSR], by simp [noSR]⟩
theorem Rel.both {ss : List Ses} {L : List SR} (h : Rel ss L) (n : Int) (f : ByteArray) :
 (find ss n f = none ∧ (∀ a ∈ L, SR.is n f a = false) ∧ findR L n f = noSR n f) ∨ (∃ s a, find ss n f = some s ∧ a ∈ L ∧ keyR a = (n, f) ∧ findR L n f = a ∧ RelS s a) := by
 cases hf : find ss n f with
 | none =>
  refine .inl ⟨rfl, ?_⟩
  have hno : ∀ a ∈ L, SR.is n f a = false := fun a ha => by
   cases hq : SR.is n f a
   · rfl
   · exfalso
     have hk := is_iff.1 hq
     have : (n, f) ∈ ss.map keyE := h.keys.mem_iff.2 (hk ▸ List.mem_map.2 ⟨a, ha, rfl⟩)
     obtain ⟨s, hs, hs2⟩ := List.mem_map.1 this
     exact List.find?_eq_none.1 hf s hs (is_key.2 hs2)
  exact ⟨hno, findR_none hno⟩
 | some s =>
  right
  have h1 := List.find?_some hf
  have h2 := List.mem_of_find?_eq_some hf
  have hk := is_key.1 h1
  have : (n, f) ∈ L.map keyR := h.keys.mem_iff.1 (hk ▸ List.mem_map.2 ⟨s, h2, rfl⟩)
  obtain ⟨a, ha, hak⟩ := List.mem_map.1 this
  refine ⟨s, a, rfl, ha, hak, ?_, h.each s h2 a ha (hk.trans hak.symm)⟩
  unfold findR
  cases hq : L.find? (SR.is n f) with
  | none => exact absurd (is_iff.2 hak) (by simpa using List.find?_eq_none.1 hq a ha)
  | some b =>
   have hb := is_iff.1 (List.find?_some hq)
   exact key_inj h.nodupL (List.mem_of_find?_eq_some hq) ha (hb.trans hak.symm)
theorem Rel.look {ss : List Ses} {L : List SR} (h : Rel ss L) (n : Int) (f : ByteArray) : RelS (Lease.look ss n f) (findR L n f) := by
 unfold Lease.look
 rcases h.both n f with ⟨h1, _, h3⟩ | ⟨s, a, h1, _, _, h4, h5⟩
 · rw [h1, h3]; exact RelS.none _ _ _ _
 · rw [h1, h4]; exact h5
theorem Rel.map_perm {ss : List Ses} {L : List SR} (h : Rel ss L) {β : Type} (φ : Ses → β) (ψ : SR → β) (e : ∀ s a, RelS s a → φ s = ψ a) : (ss.map fun s => (keyE s, φ s)).Perm (L.map fun a => (keyR a, ψ a)) := by
 have n1 : (ss.map fun s => (keyE s, φ s)).Nodup := List.pairwise_map.2 ((List.pairwise_map.1 h.nodupS).imp fun q e => q (congrArg Prod.fst e))
 have n2 : (L.map fun a => (keyR a, ψ a)).Nodup := List.pairwise_map.2 ((List.pairwise_map.1 h.nodupL).imp fun q e => q (congrArg Prod.fst e))
 refine (List.perm_ext_iff_of_nodup n1 n2).2 fun x => ?_
 constructor
 · intro hx
   obtain ⟨s, hs, rfl⟩ := List.mem_map.1 hx
   obtain ⟨a, ha, hk⟩ := List.mem_map.1 (h.keys.mem_iff.1 (List.mem_map.2 ⟨s, hs, rfl⟩))
   exact List.mem_map.2 ⟨a, ha, by rw [hk, e s a (h.each s hs a ha hk.symm)]⟩
 · intro hx
   obtain ⟨a, ha, rfl⟩ := List.mem_map.1 hx
   obtain ⟨s, hs, hk⟩ := List.mem_map.1 (h.keys.mem_iff.2 (List.mem_map.2 ⟨a, ha, rfl⟩))
   exact List.mem_map.2 ⟨s, hs, by rw [hk, e s a (h.each s hs a ha hk)]⟩
theorem Rel.cnt {ss : List Ses} {L : List SR} (h : Rel ss L) (f : ByteArray) : Lease.cnt ss f = cntR L f := by
 have hp := (h.map_perm (fun s => s.op) (fun a => a.op) (fun s a r => r.op)).filter (fun x : (Int × ByteArray) × Bool => (x.1.2.toList == f.toList) && x.2)
 have hl := hp.length_eq
 rw [List.filter_map, List.filter_map, List.length_map, List.length_map] at hl
 exact hl
theorem sortS_self {L : List SR} (h : L.Pairwise ltR) : sortS (L.map keyR) = L.map keyR := by
 unfold sortS
 refine List.mergeSort_of_pairwise ?_
 rw [List.pairwise_map]
 refine h.imp fun {x y} hxy => ?_
 rw [Sess.cmpS_lt]
 simp only [Bool.not_eq_true', decide_eq_false_iff_not]
 exact fun hyx => Sess.ltS_irrefl _ (Sess.ltS_trans hxy hyx)
theorem Rel.sessions {ss : List Ses} {L : List SR} (h : Rel ss L) : sortS (keysOf ss) = L.map keyR := (Sess.sort_perm h.keys).trans (sortS_self h.srt)
theorem putRest_cons (s y : SR) (r : List SR) : putRest s (y :: r) = if SR.is s.num s.foot y = true then r else y :: r := rfl
theorem mem_put {L : List SR} (hs : L.Pairwise ltR) (a : SR) : (putR L a).Pairwise ltR ∧ ∀ x, x ∈ putR L a ↔ x = a ∨ (x ∈ L ∧ keyR x ≠ keyR a) := by
 have hp : ∀ x, aheadR a x = true ↔ ltR x a := ahead_iff a
 have hd := drop_not (lt := ltR) ltR_trans hp hs
 have hds : (L.dropWhile (aheadR a)).Pairwise ltR := hs.sublist (List.dropWhile_sublist _)
 have key : (putRest a (L.dropWhile (aheadR a))).Sublist (L.dropWhile (aheadR a)) ∧ ∀ x, x ∈ putRest a (L.dropWhile (aheadR a)) ↔ x ∈ L.dropWhile (aheadR a) ∧ keyR x ≠ keyR a := by
  generalize L.dropWhile (aheadR a) = r at hd hds
  cases r with
  | nil => exact ⟨by simp [putRest], fun x => by simp [putRest]⟩
  | cons y r =>
   have hy := List.pairwise_cons.1 hds
   rw [putRest_cons]
   rcases Bool.eq_false_or_eq_true (SR.is a.num a.foot y) with hq | hq
   rotate_left
   · rw [if_neg (by rw [hq]; simp)]
     refine ⟨List.Sublist.refl _, fun x => ⟨fun hx => ⟨hx, fun e => ?_⟩, fun hx => hx.1⟩⟩
     have hyk : keyR y ≠ keyR a := fun e2 => by
      have : SR.is a.num a.foot y = true := is_iff.2 e2
      rw [hq] at this; cases this
     rcases List.mem_cons.1 hx with rfl | hx
     · exact hyk e
     · have h1 : ltR y x := hy.1 x hx
       have h2 : ¬ ltR y a := hd y (by simp)
       apply h2
       unfold ltR at h1 ⊢
       rw [← e]
       exact h1
   · rw [if_pos hq]
     have hyk : keyR y = keyR a := is_iff.1 hq
     refine ⟨List.sublist_cons_self _ _, fun x => ⟨fun hx => ⟨by simp [hx], fun e => ?_⟩, fun hx => ?_⟩⟩
     · exact ltR_ne (hy.1 x hx) (hyk.trans e.symm)
     · rcases List.mem_cons.1 hx.1 with rfl | h
       · exact absurd hyk hx.2
       · exact h
 refine ⟨ins_sorted ltR_trans hp hs key.1 fun x hx => ?_, fun x => ?_⟩
 · have h1 := (key.2 x).1 hx
   have h2 := hd x h1.1
   unfold ltR at h2 ⊢
   rcases Sess.ltS_tri (keyR a) (keyR x) with q | q | q
   · exact q
   · exact absurd q.symm h1.2
   · exact absurd q h2
 · unfold putR
   rw [List.mem_append, List.mem_cons, key.2]
   constructor
   · rintro (h | h | h)
     · exact .inr ⟨(List.takeWhile_sublist _).subset h, fun e => ltR_ne (take_lt hp x h) e⟩
     · exact .inl h
     · exact .inr ⟨(List.dropWhile_sublist _).subset h.1, h.2⟩
   · rintro (h | ⟨h1, h2⟩)
     · exact .inr (.inl h)
     · rw [← List.takeWhile_append_dropWhile (p := aheadR a) (l := L)] at h1
       rcases List.mem_append.1 h1 with h | h
       · exact .inl h
       · exact .inr (.inr ⟨h, h2⟩)
theorem Rel.put {ss ss' : List Ses} {L : List SR} {s' : Ses} {a' : SR} (h : Rel ss L) (hr : RelS s' a') (hn : (ss'.map keyE).Nodup) (hm : ∀ x, x ∈ ss' ↔ x = s' ∨ (x ∈ ss ∧ keyE x ≠ keyE s')) : Rel ss' (putR L a') := by
 obtain ⟨hsrt, hmem⟩ := mem_put h.srt a'
 have hk : keyE s' = keyR a' := by unfold keyE keyR; rw [hr.num, hr.foot]
 refine ⟨(List.perm_ext_iff_of_nodup hn (nodup_keys hsrt)).2 fun q => ?_, hsrt, fun s hs a ha e => ?_⟩
 · constructor
   · intro hq
     obtain ⟨x, hx, rfl⟩ := List.mem_map.1 hq
     rcases (hm x).1 hx with rfl | ⟨hx1, hx2⟩
     · exact List.mem_map.2 ⟨a', (hmem a').2 (.inl rfl), hk.symm⟩
     · obtain ⟨a, ha, hak⟩ := List.mem_map.1 (h.keys.mem_iff.1 (List.mem_map.2 ⟨x, hx1, rfl⟩))
       exact List.mem_map.2 ⟨a, (hmem a).2 (.inr ⟨ha, by rw [hak, ← hk]; exact hx2⟩), hak⟩
   · intro hq
     obtain ⟨a, ha, rfl⟩ := List.mem_map.1 hq
     rcases (hmem a).1 ha with rfl | ⟨ha1, ha2⟩
     · exact List.mem_map.2 ⟨s', (hm s').2 (.inl rfl), hk⟩
     · obtain ⟨x, hx, hxk⟩ := List.mem_map.1 (h.keys.mem_iff.2 (List.mem_map.2 ⟨a, ha1, rfl⟩))
       exact List.mem_map.2 ⟨x, (hm x).2 (.inr ⟨hx, by rw [hxk, hk]; exact ha2⟩), hxk⟩
 · rcases (hm s).1 hs with rfl | ⟨hs1, hs2⟩
   · rcases (hmem a).1 ha with rfl | ⟨_, ha2⟩
     · exact hr
     · exact absurd (e.symm.trans hk) ha2
   · rcases (hmem a).1 ha with rfl | ⟨ha1, _⟩
     · exact absurd (e.trans hk.symm) hs2
     · exact h.each s hs1 a ha1 e
theorem Rel.put_new {ss : List Ses} {s' : Ses} {L : List SR} {a' : SR} (h : Rel ss L) (hf : find ss s'.num s'.foot = none) (hr : RelS s' a') : Rel (ss ++ [s']) (putR L a') := by
 have hno : ∀ x ∈ ss, keyE x ≠ keyE s' := fun x hx e => List.find?_eq_none.1 hf x hx (is_key.2 e)
 refine h.put hr ?_ fun x => ?_
 · rw [List.map_append]
   refine List.pairwise_append.2 ⟨h.nodupS, by simp, fun p hp q hq => ?_⟩
   obtain ⟨x, hx, rfl⟩ := List.mem_map.1 hp
   have : q = keyE s' := by simpa using hq
   rw [this]
   exact hno x hx
 · constructor
   · intro hx
     rcases List.mem_append.1 hx with hx | hx
     · exact .inr ⟨hx, hno x hx⟩
     · exact .inl (by simpa using hx)
   · rintro (rfl | ⟨hx, _⟩) <;> simp [*]
end Go.Proofs.YtpebabaigakagaaGreatDoor.Lease
end
section
namespace Go.Proofs.YtpebabaigakagaaGreatDoor.Tab
open Path (bl rightB overB aboveB)
open Lease (Ses Ans fresh AR SR Rel RelS RelT)
open Lock (S3 Ent)
open Cmd (Cm rightC)
structure AnsOk (a : Ans) : Prop where
 e : -9223372036854775808 ≤ a.e ∧ a.e ≤ 9223372036854775807
 n : 0 ≤ a.n ∧ a.n < Lease.big64
structure SesOk (s : Ses) : Prop where
 nd : (s.told.map (·.1)).Nodup
 len : s.told.length ≤ 256
 told : ∀ x ∈ s.told, (0 ≤ x.1 ∧ x.1 < Lease.big64) ∧ AnsOk x.2
 ttl : 0 ≤ s.ttl ∧ s.ttl ≤ 2199023255552
 dl : 0 ≤ s.dl ∧ s.dl ≤ 2199023255552
theorem cut_ok (t : Int) : 0 ≤ Lease.cutI t ∧ Lease.cutI t ≤ 2199023255552 := by
 unfold Lease.cutI
 split
 · omega
 split <;> omega
theorem fresh_ok (n : Int) (f : ByteArray) (b t : Nat) : SesOk (fresh n f b t) := ⟨by simp [fresh], by simp [fresh], by simp [fresh], by simp [fresh], by simp [fresh]⟩
theorem opened_ok {s : Ses} (h : SesOk s) (ttl time : Int) : SesOk (s.opened ttl time) := ⟨h.nd, h.len, h.told, cut_ok _, by unfold Lease.Ses.opened Lease.endI; exact cut_ok _⟩
theorem ended_ok {s : Ses} (h : SesOk s) : SesOk s.ended := ⟨h.nd, h.len, h.told, by simp [Lease.Ses.ended], by simp [Lease.Ses.ended]⟩
theorem kept_ok {s : Ses} (h : SesOk s) (time : Int) : SesOk (s.kept time) := ⟨h.nd, h.len, h.told, h.ttl, by
 unfold Lease.Ses.kept Lease.endI
 simp only
 split
 · exact cut_ok _
 · exact h.dl⟩
theorem said_none {l : List (Int × Ans)} {r : Int} (h : Lease.said l r = none) : r ∉ l.map (·.1) := by
 intro hm
 obtain ⟨x, hx, rfl⟩ := List.mem_map.1 hm
 unfold Lease.said at h
 simp only [Option.map_eq_none_iff] at h
 exact List.find?_eq_none.1 h x hx (by simp)
theorem tell_ok {s : Ses} (h : SesOk s) {r : Int} {a : Ans} (ht : Lease.tellE s r = 0) (hr : 0 ≤ r ∧ r < Lease.big64) (ha : AnsOk a) : SesOk (s.tell r a) := by
 unfold Lease.tellE at ht
 cases hs : Lease.said s.told r with
 | some x => rw [hs] at ht; simp at ht
 | none =>
  rw [hs] at ht
  have hl : s.told.length < 256 := by
   rcases Nat.lt_or_ge s.told.length 256 with q | q
   · exact q
   · simp [q] at ht
  refine ⟨?_, ?_, fun x hx => ?_, h.ttl, h.dl⟩
  · show ((s.told ++ [(r, a)]).map (·.1)).Nodup
    rw [List.map_append, List.map_cons, List.map_nil]
    refine List.nodup_append.2 ⟨h.nd, by simp, fun x hx y hy e => ?_⟩
    rw [List.mem_singleton.1 hy] at e
    subst e
    exact said_none hs hx
  · show (s.told ++ [(r, a)]).length ≤ 256
    simp; omega
  · rcases List.mem_append.1 (show x ∈ s.told ++ [(r, a)] from hx) with hx | hx
    · exact h.told x hx
    · rw [List.mem_singleton.1 hx]; exact ⟨hr, ha⟩
def SAll (S : List Ses) : Prop := ∀ s ∈ S, SesOk s
theorem look_ok {S : List Ses} (h : SAll S) (n : Int) (f : ByteArray) : SesOk (lookA S n f) := by
 unfold lookA
 cases hf : Lease.find S n f with
 | none => exact fresh_ok _ _ _ _
 | some s => unfold Lease.find at hf; exact h s (List.mem_of_find?_eq_some hf)
theorem mem_upd {g : Ses → Ses} {n : Int} {f : ByteArray} : ∀ {S : List Ses} {x : Ses}, x ∈ updA g n f S → x = g (lookA S n f) ∨ x ∈ S
 | [], x, h => .inl (by simpa [updA, lookA, Lease.find] using h)
 | s :: S, x, h => by
  unfold updA at h
  cases hq : s.is n f with
  | true =>
   rw [hq, if_pos rfl] at h
   rcases List.mem_cons.1 h with h | h
   · exact .inl (by simpa [lookA, Lease.find, hq] using h)
   · exact .inr (by simp [h])
  | false =>
   rw [hq, if_neg (by decide)] at h
   rcases List.mem_cons.1 h with rfl | h
   · exact .inr (by simp)
   · rcases mem_upd h with q | q
     · left
       rw [q]
       simp [lookA, Lease.find, hq]
     · exact .inr (by simp [q])
theorem SAll.upd {S : List Ses} (h : SAll S) {g : Ses → Ses} {n : Int} {f : ByteArray} (hg : SesOk (g (lookA S n f))) : SAll (updA g n f S) := fun x hx => by
 rcases mem_upd hx with rfl | q
 · exact hg
 · exact h x q
theorem SAll.opT {t : TS} {c : Cm} {g : Ses → Ses} {e : Int} (h : SAll t.S) (hg : e = 0 → SesOk (g (lookA t.S c.num c.foot))) : SAll (Tab.opT t c g e).S := by
 unfold Tab.opT
 split
 · rename_i q
   exact h.upd (hg q)
 · exact h
theorem SAll.endT {t : TS} {c : Cm} {e : Int} (h : SAll t.S) : SAll (Tab.endT t c e).S := by
 unfold Tab.endT
 split
 · exact h.upd (ended_ok (look_ok h _ _))
 · exact h
theorem ansE_ok {e : Int} (h : 0 ≤ e ∧ e ≤ 1000) : AnsOk (ansE e) := ⟨by unfold ansE; simp only; omega, by unfold ansE Lease.big64; simp only; omega⟩
theorem may_range (s : S3) (p : ByteArray) (n : Int) (f : ByteArray) (mode : Int) : 0 ≤ s.may p n f mode ∧ s.may p n f mode ≤ 1000 := by
 unfold S3.may
 repeat' split
 all_goals omega
theorem mayT_range (t : TS) (c : Cm) : 0 ≤ mayT t c ∧ mayT t c ≤ 1000 := by
 unfold mayT
 repeat' split
 all_goals omega
theorem openE_range (s : Ses) (k : Nat) : 0 ≤ Lease.openE s k ∧ Lease.openE s k ≤ 1000 := by
 unfold Lease.openE
 repeat' split
 all_goals omega
theorem addT_ok {t : TS} {k : Nat} (hi : Lock.Inv t.L k) (c : Cm) : AnsOk (addT t c).2 := by
 unfold addT
 simp only
 split
 · rename_i hm
   have h1 := (Lock.may_parts hm).2.2.2
   have h2 := Lock.counter_ge hi c.path
   have h3 := hi.first0
   unfold S3.newE
   refine ⟨by simp, ?_⟩
   simp only
   unfold Lock.lastN at h1
   unfold Lease.big64
   omega
 · exact ansE_ok (may_range _ _ _ _ _)
theorem doT_ok {t : TS} {k : Nat} (hi : Lock.Inv t.L k) (hs : SAll t.S) (c : Cm) : AnsOk (doT t c).2 ∧ SAll (doT t c).1.S := by
 unfold doT
 split
 · exact ⟨ansE_ok (openE_range _ _), hs.opT fun _ => opened_ok (look_ok hs _ _) _ _⟩
 split
 · exact ⟨ansE_ok (by split <;> omega), hs.endT⟩
 split
 · exact ⟨ansE_ok (by split <;> omega), hs.opT fun _ => kept_ok (look_ok hs _ _) _⟩
 · unfold locksT
   split
   · exact ⟨ansE_ok (mayT_range _ _), hs⟩
   split
   · exact ⟨addT_ok hi c, hs⟩
   split
   · unfold tryT
     split
     · exact ⟨addT_ok hi c, hs⟩
     split
     · exact ⟨ansE_ok (by omega), hs⟩
     · exact ⟨ansE_ok (may_range _ _ _ _ _), hs⟩
   split
   · exact ⟨ansE_ok (by split <;> omega), hs⟩
   · exact ⟨ansE_ok (by split <;> omega), hs⟩
theorem apply_all {t : TS} {k : Nat} (hi : Lock.Inv t.L k) (hs : SAll t.S) (c : Cm) (hq : 0 ≤ c.req ∧ c.req < Lease.big64) : SAll (applyT t c).1.S := by
 unfold applyT
 split
 · exact hs
 split
 · exact hs.endT
 split
 · exact hs
 split
 · exact hs
 · obtain ⟨h1, h2⟩ := doT_ok hi hs c
   unfold tellT
   exact h2.opT fun e => tell_ok (look_ok h2 _ _) e hq h1
theorem play_all {l : List Cm} (hl : ∀ c ∈ l, CmOk c ∧ 0 ≤ c.req ∧ c.req < Lease.big64) : ∀ {t : TS} {k : Nat}, Good t k → SAll t.S → SAll (playT t l).S := by
 induction l with
 | nil => exact fun _ h => h
 | cons c l ih =>
  intro t k hg hs
  have hc := hl c (by simp)
  exact ih (fun x hx => hl x (by simp [hx])) (hg.apply hc.1) (apply_all hg.inv.lock hs c hc.2)
theorem snoc_ind {α : Type} {P : List α → Prop} (h0 : P []) (h1 : ∀ l x, P l → P (l ++ [x])) : ∀ l, P l := fun l => by
 rw [← List.reverse_reverse l]
 induction l.reverse with
 | nil => exact h0
 | cons x r ih => rw [List.reverse_cons]; exact h1 _ _ ih
theorem told_rel : ∀ {l : List (Int × Ans)} (hn : (l.map (·.1)).Nodup) (hl : l.length ≤ 256) (hb : ∀ x ∈ l, (0 ≤ x.1 ∧ x.1 < Lease.big64) ∧ AnsOk x.2), ∃ m, RelT l m := by
 intro l
 refine snoc_ind (P := fun l => ∀ (hn : (l.map (·.1)).Nodup) (hl : l.length ≤ 256) (hb : ∀ x ∈ l, (0 ≤ x.1 ∧ x.1 < Lease.big64) ∧ AnsOk x.2), ∃ m, RelT l m) ?_ ?_ l
 · exact fun _ _ _ => ⟨[], RelT.nil⟩
 · intro l x ih hn hl hb
   rw [List.map_append, List.map_cons, List.map_nil] at hn
   have hn' := List.nodup_append.1 hn
   simp only [List.length_append, List.length_cons, List.length_nil] at hl
   obtain ⟨m, hm⟩ := ih hn'.1 (by omega) (fun y hy => hb y (by simp [hy]))
   have hx := hb x (by simp)
   have hs : Lease.said l x.1 = none := by
    cases hq : Lease.said l x.1 with
    | none => rfl
    | some a =>
     exfalso
     unfold Lease.said at hq
     obtain ⟨y, hy, _⟩ := Option.map_eq_some_iff.1 hq
     have h1 : y.1 = x.1 := by simpa using List.find?_some hy
     exact hn'.2.2 y.1 (List.mem_map.2 ⟨y, List.mem_of_find?_eq_some hy, rfl⟩) x.1 (by simp) h1
   have hs2 : Lease.saidA m x.1 = none := by
    rw [hm.said] at hs
    exact Option.map_eq_none_iff.1 hs
   have h2 := hm.size
   refine ⟨_, RelT.tell (a := ⟨x.1, x.2.e, x.2.n, x.2.g⟩) hm hs2 (by omega) hx.1 ⟨hx.2.e, hx.2.n⟩⟩
theorem ses_rel {s : Ses} (h : SesOk s) : ∃ a : SR, RelS s a := by
 obtain ⟨m, hm⟩ := told_rel h.nd h.len h.told
 exact ⟨⟨s.num, s.foot, s.op, s.dead, s.dl, s.ttl, none, 0, m⟩, rfl, rfl, rfl, rfl, rfl, rfl, hm, h.ttl, h.dl⟩
theorem rel_some {S : List Ses} (hk : Kn S) (hs : SAll S) : ∃ L, Rel S L := by
 refine snoc_ind (P := fun S => Kn S → SAll S → ∃ L, Rel S L) ?_ ?_ S hk hs
 · exact fun _ _ => ⟨[], Rel.nil⟩
 · intro S s ih hk hs
   unfold Kn at hk
   have hk0 := hk
   rw [List.map_append, List.map_cons, List.map_nil] at hk
   have hk' := List.nodup_append.1 hk
   obtain ⟨L, hL⟩ := ih hk'.1 (fun x hx => hs x (by simp [hx]))
   obtain ⟨a, ha⟩ := ses_rel (hs s (by simp))
   refine ⟨_, Rel.put (ss' := S ++ [s]) hL ha hk0 fun x => ?_⟩
   rw [List.mem_append, List.mem_singleton]
   constructor
   · rintro (h | h)
     · exact .inr ⟨h, fun e => hk'.2.2 (keyE x) (List.mem_map.2 ⟨x, h, rfl⟩) (keyE s) (by simp) e⟩
     · exact .inl h
   · rintro (h | h)
     · exact .inr h
     · exact .inl h.1
theorem Rel.perm {S S' : List Ses} {L : List SR} (h : Rel S L) (hp : S.Perm S') : Rel S' L := ⟨(hp.map Lease.keyE).symm.trans h.keys, h.srt, fun s hs a ha e => h.each s (hp.mem_iff.2 hs) a ha e⟩
theorem Rel.zs {ss : List Ses} {L : List SR} (h : Rel (ss.map zs) L) : Rel ss L := by
 refine ⟨?_, h.srt, fun s hs a ha e => ?_⟩
 · have := h.keys
   rw [List.map_map] at this
   exact this
 · have := h.each (Tab.zs s) (List.mem_map.2 ⟨s, hs, rfl⟩) a ha e
   exact ⟨this.num, this.foot, this.op, this.dead, this.dl, this.ttl, this.told, this.tb, this.db⟩
theorem Rel.bounds {S : List Ses} {L : List SR} {m : Nat} (h : Rel S L) (hi : SInv S m) : (∀ a ∈ L, 0 ≤ a.num ∧ a.num < Lease.big64 ∧ a.foot.size ≤ 2000000) ∧ L.length ≤ m := by
 refine ⟨fun a ha => ?_, by rw [← h.len]; exact hi.len⟩
 obtain ⟨s, hs, hk⟩ := List.mem_map.1 (h.keys.mem_iff.2 (List.mem_map.2 ⟨a, ha, rfl⟩))
 have e := h.each s hs a ha hk
 have h1 := hi.num s hs
 have h2 := hi.foot s hs
 rw [e.num] at h1
 rw [e.foot] at h2
 exact ⟨h1.1, h1.2, by omega⟩
end Go.Proofs.YtpebabaigakagaaGreatDoor.Tab
end
section
namespace Go.Proofs.YtpebabaigakagaaGreatDoor.Lock
open Go.RowKit
open Go.Maps (Keyed)
open Path (bl rightB overB)
attribute [-go_sem] run_eql_struct run_neq_struct run_eqGuard_agg
attribute [local go_sem] guardS eqlS
structure Kept (es cur dn : List Ent) (D : Ent → Bool) : Prop where
 sub : cur.Sublist es
 kept : ∀ x ∈ es, x ∈ cur ∨ (D x = true ∧ x ∈ dn)
 done : ∀ x ∈ cur, x ∈ dn → D x = false
 inn : ∀ x ∈ dn, x ∈ es
 nd : dn.Nodup
theorem Kept.len {es cur dn : List Ent} {D : Ent → Bool} (h : Kept es cur dn D) : dn.length ≤ es.length := h.nd.length_le_of_subset (fun x hx => h.inn x hx)
theorem notin_mid {l1 l2 : List Ent} {x : Ent} (h : (l1 ++ x :: l2).Nodup) : x ∉ l1 ++ l2 := (List.nodup_cons.1 (List.perm_middle.nodup h)).1
theorem Kept.next {es cur dn : List Ent} {D : Ent → Bool} (h : Kept es cur dn D) {x : Ent} (hx : x ∈ cur) (hn : x ∉ dn) : (D x = false → Kept es cur (dn ++ [x]) D) ∧
 (D x = true → ∀ l1 l2, cur = l1 ++ x :: l2 → x ∉ l1 ++ l2 → Kept es (l1 ++ l2) (dn ++ [x]) D) := by
 have hpw : (dn ++ [x]).Nodup := List.nodup_append.2 ⟨h.nd, by simp, fun a ha c hc => by rw [List.mem_singleton.1 hc]; intro e; subst e; exact hn ha⟩
 have hdm : ∀ y ∈ dn ++ [x], y ∈ es := fun y hy => by
  rcases List.mem_append.1 hy with hy | hy
  · exact h.inn y hy
  · rw [List.mem_singleton.1 hy]; exact h.sub.subset hx
 constructor
 · intro hl
   refine ⟨h.sub, fun y hy => ?_, fun y hy hz => ?_, hdm, hpw⟩
   · rcases h.kept y hy with q | ⟨q, r⟩
     · exact .inl q
     · exact .inr ⟨q, by simp [r]⟩
   · rcases List.mem_append.1 hz with hz | hz
     · exact h.done y hy hz
     · rw [List.mem_singleton.1 hz]; exact hl
 · intro hl l1 l2 e hne
   subst e
   refine ⟨(List.Sublist.append (List.Sublist.refl _) (List.sublist_cons_self _ _)).trans h.sub, fun y hy => ?_, fun y hy hz => ?_, hdm, hpw⟩
   · rcases h.kept y hy with q | ⟨q, r⟩
     · by_cases hyx : y = x
       · subst hyx; exact .inr ⟨hl, by simp⟩
       · left
         simp only [List.mem_append, List.mem_cons] at q ⊢
         rcases q with q | q | q
         · exact .inl q
         · exact absurd q hyx
         · exact .inr q
     · exact .inr ⟨q, by simp [r]⟩
   · rcases List.mem_append.1 hz with hz | hz
     · exact h.done y (by simp only [List.mem_append, List.mem_cons] at hy ⊢; rcases hy with hy | hy <;> simp [hy]) hz
     · rw [List.mem_singleton.1 hz] at hy; exact absurd hy hne
theorem Kept.end {es cur dn : List Ent} {D : Ent → Bool} (h : Kept es cur dn D) (hnd : es.Nodup) (hall : ∀ x ∈ cur, x ∈ dn) : cur = es.filter (fun x => !D x) := by
 have hs : cur.Sublist (es.filter (fun x => !D x)) := by
  have := h.sub.filter (fun x => !D x)
  rwa [List.filter_eq_self.2 (fun x hx => by rw [h.done x hx (hall x hx)]; rfl)] at this
 refine hs.eq_of_length ?_
 refine (List.Perm.length_eq ?_)
 refine (List.perm_ext_iff_of_nodup (h.sub.nodup hnd) (hnd.sublist List.filter_sublist)).2 fun x => ?_
 rw [List.mem_filter]
 constructor
 · intro hx
   exact ⟨h.sub.subset hx, by rw [h.done x hx (hall x hx)]; rfl⟩
 · rintro ⟨h1, h2⟩
   rcases h.kept x h1 with q | ⟨q, _⟩
   · exact q
   · rw [q] at h2; cases h2
theorem ents_mid (l1 l2 : List Ent) (e : Ent) : ents (l1 ++ e :: l2) = ents l1 ++ (e.key, e.val) :: ents l2 := by simp [ents, ent]
theorem ents_app (l1 l2 : List Ent) : ents l1 ++ ents l2 = ents (l1 ++ l2) := by simp [ents]
theorem drop1_any {w : World} {bS : Nat} {n k : Int} {f p g : ByteArray} {v : List Value} (h : Sep [boxS bS n f] w) {c : Bool} (hc : decide (k = n ∧ g = f) = c) {c1 c2 c3 c4 c5 c6 : Value} :
 Calls Tryz.prog 99 #[.agg #[.string p, .int .u64 k, .string g], .agg #[c1, c2, c3, c4, c5, c6], .pointer (some ⟨bS, 0, none⟩)] w fun e w' => e = .returned (.bool c) ∧ At [boxS bS n f] w [boxS bS n f] w' := by
 have hA := At.start h
 have hF := hA.facts; (try simp only [uY] at hA hF)
 clear h
 have hc' := Lib.hid hc
 clear hc
 go_enter Tryz.func99, Tryz.ntmps99
 go_wp2_with ((with_reducible refine gbx ?_); refine wC hA ?_; clear hF hA; intro b1 w1 hA hb1 hF; (try simp only [uY] at hA hF))
 go_ret
 exact ⟨by rw [← hc'.out, Bool.decide_and]; rfl, hA.only1 sR⟩
abbrev iterE (r b : Nat) (cur dn : List Ent) : Part := .iterD Tryz.prog 90 r b (ents cur) (ents dn)
def DelRel (L0 : List Part) (w : World) (m r bS : Nat) (n : Int) (f : ByteArray) (es : List Ent) (k : Nat) (wr : World) : Prop :=
 ∃ cur dn : List Ent, Kept es cur dn (·.of n f) ∧ dn.length + k = es.length ∧ At L0 w [iterE r m cur dn, boxS bS n f] wr
theorem del_any {w : World} {m bS : Nat} {n : Int} {f : ByteArray} {es : List Ent} (h : Sep [mapC m (ents es), boxS bS n f] w) (hok : ∀ x ∈ es, x.path.size ≤ maxLen ∧ 0 ≤ x.num ∧ x.num < big64 ∧ x.foot.size ≤ maxLen) :
 Calls Tryz.prog 98 #[.map (some m), .func (.func 99) #[] #[.pointer (some ⟨bS, 0, none⟩)]] w fun e w' => e = .returned (.tuple #[]) ∧ At [mapC m (ents es), boxS bS n f] w [mapC m (ents (es.filter (fun x => !x.of n f))), boxS bS n f] w' := by
 have hA := At.start h
 have hkeys := keys_of (MapAt.keys (hA.get (A := mapC m (ents es)) sR))
 have hnde : es.Nodup := hkeys.imp (fun h e => h (by rw [e]))
 have hF := hA.facts; (try simp only [uY] at hA hF)
 clear h hkeys
 go_enter Tryz.func98, Tryz.ntmps98
 go_wp2_with (refine wpList_range_at rfl rfl rfl hA sR Tryz.underlying88 ?_; intro r w1 hB hr; have hB := hB.rangeD sR; clear hF hA; have hA := hB; clear hB; have hF := hA.facts; (try simp only [uY] at hA hF))
 try go_frame
 go_loopg [5] es.length (fun k _ wr => DelRel [mapC m (ents es), boxS bS n f] w m r bS n f es k wr)
 case atStart => exact ⟨es, [], ⟨List.Sublist.refl _, fun x hx => .inl hx, fun x _ hx => (by cases hx), nofun, List.nodup_nil⟩, by simp, hA⟩
 case round =>
  obtain ⟨cur, dn, hL, hk, hB⟩ := hrel
  clear hF hA; have hA := hB; clear hB
  have hF := hA.facts; (try simp only [uY] at hA hF)
  go_step
  go_step
  refine wpList_nextD_at rfl rfl rfl hA sR (fun hp => ?_) (fun q w1 hq hd hB => ?_)
  · have hM := hA.rangedD sR
    have hfin := Lib.hid (hL.end hnde (fun x hx => ent_mem (hp _ (List.mem_map.2 ⟨x, hx, rfl⟩))))
    clear hp hL
    go_wp2_with fail
    go_end0
    exact ⟨rfl, by rw [← hfin.out]; exact hM.only2 sR sR⟩
  · obtain ⟨x, hx, rfl⟩ := List.mem_map.1 hq
    have hI : IterD Tryz.prog 90 w1 r m (ents cur) (ents dn ++ [ent x]) := hB.get (A := Part.iterD Tryz.prog 90 r m (ents cur) (ents dn ++ [ent x])) sR
    have hen := hI.entry hq
    have hnot : x ∉ dn := fun q => hd (ent x) (List.mem_map.2 ⟨x, q, rfl⟩) rfl
    obtain ⟨hn1, hn2⟩ := hL.next hx hnot
    obtain ⟨o1, o2, o3, o4⟩ := hok x (hL.sub.subset hx)
    obtain ⟨kl, hkl⟩ := keyP o1 o2 o3 o4
    have hnd : cur.Nodup := hL.sub.nodup hnde
    have hlen : dn.length < es.length := by
     cases hin : x.of n f with
     | false => have := (hn1 hin).len; simp at this; omega
     | true =>
      obtain ⟨l1, l2, e⟩ := List.append_of_mem hx
      have := (hn2 hin l1 l2 e (by rw [e] at hnd; exact notin_mid hnd)).len
      simp at this; omega
    rw [show ents dn ++ [ent x] = ents (dn ++ [x]) by simp [ents]] at hB
    clear hF hA
    have hA := hB
    simp only [ent, Ent.key, keyV, Ent.val] at hen
    unfold keyV at hkl
    have hok' := Lib.hid hok
    clear hB hI hd hq hok o1 o2 o3 o4 hnot
    have hL' := Lib.hid hL
    clear hL
    have hF := hA.facts; (try simp only [uY] at hA hF)
    cases hin : x.of n f with
    | false =>
     have hK := Lib.hid (hn1 hin)
     have hnde' := Lib.hid hnde
     clear hn1 hn2 hnde hnd
     go_wp2_with (first | ((with_reducible refine gst ?_); refine wT hA ?_; clear hF hA; intro w1 hA hF; (try simp only [uY] at hA hF)) | ((with_reducible refine gal ?_); refine wG 90 [.string .empty, .int .u64 0, .string .empty] hA ?_; clear hF hA; intro b1 w1 hA hb1 hF; (try simp only [uY] at hA hF)) | ((with_reducible refine gal ?_); refine wG 51 [.string .empty, .int .u64 0, .string .empty, .int .i64 0, .int .u64 0, .int .i64 0] hA ?_; clear hF hA; intro b1 w1 hA hb1 hF; (try simp only [uY] at hA hF)))
     refine (drop1_any (v := []) (hA.sep1 (A := boxS bS n f) sR) hin).mono ?_
     rintro e w1 ⟨rfl, hT⟩; have hB := hA.call1 sR hT; clear hF hA hT; have hA := hB; clear hB; have hF := hA.facts; (try simp only [uY] at hA hF)
     go_wp2_with fail
     go_roundg (gk - 1)
     case measure => omega
     case rel => exact ⟨cur, dn ++ [x], hK.out, by simp; omega, hA.only2 sR sR⟩
    | true =>
     obtain ⟨l1, l2, e⟩ := List.append_of_mem hx
     subst e
     have hK := Lib.hid (hn2 hin l1 l2 rfl (notin_mid hnd))
     have hnde' := Lib.hid hnde
     clear hn1 hn2 hx hnd hnde
     unfold iterE at *
     rw [ents_mid] at hA
     unfold Ent.key keyV at hA
     go_wp2_with (first | ((with_reducible refine gst ?_); refine wT hA ?_; clear hF hA; intro w1 hA hF; (try simp only [uY] at hA hF)) | ((with_reducible refine gal ?_); refine wG 90 [.string .empty, .int .u64 0, .string .empty] hA ?_; clear hF hA; intro b1 w1 hA hb1 hF; (try simp only [uY] at hA hF)) | ((with_reducible refine gal ?_); refine wG 51 [.string .empty, .int .u64 0, .string .empty, .int .i64 0, .int .u64 0, .int .i64 0] hA ?_; clear hF hA; intro b1 w1 hA hb1 hF; (try simp only [uY] at hA hF)))
     refine (drop1_any (v := []) (hA.sep1 (A := boxS bS n f) sR) hin).mono ?_
     rintro e w1 ⟨rfl, hT⟩; have hB := hA.call1 sR hT; clear hF hA hT; have hA := hB; clear hB; have hF := hA.facts; (try simp only [uY] at hA hF)
     go_wp2_with (refine wpList_del_iter_at rfl rfl rfl (by (try simp only [Act.eval, eV]) <;> exact rfl) hA (k := 90) sR lawP Tryz.underlying88 hkl ?_; intro w1 hB; rw [ents_app l1 l2] at hB; clear hF hA; have hA := hB; clear hB; have hF := hA.facts; (try simp only [uY] at hA hF))
     go_roundg (gk - 1)
     case measure => omega
     case rel => exact ⟨l1 ++ l2, dn ++ [x], hK.out, by simp; omega, hA.only2 sR sR⟩
theorem drop_any {w : World} {b : Bk} (h : Sep [BookP b] w) (n : Int) (f : ByteArray) (hl : b.es.length ≤ 1000000000) (hok : ∀ x ∈ b.es, x.path.size ≤ maxLen ∧ 0 ≤ x.num ∧ x.num < big64 ∧ x.foot.size ≤ maxLen) :
 Calls Tryz.prog 64 #[.pointer (some ⟨b.p, 0, none⟩), .agg #[.int .u64 n, .string f]] w fun e w' => e = .returned (.int .i64 (b.es.length - (b.st.dropAll n f).es.length)) ∧ At [BookP b] w [BookP (b.with (b.st.dropAll n f))] w' := by
 have hA := begin0 h
 have hF := hA.facts
 have hle : (b.es.filter (fun x => !x.of n f)).length ≤ b.es.length := List.length_filter_le _ _
 show Calls _ _ _ _ fun e w' => e = .returned (.int .i64 (b.es.length - (b.es.filter (fun x => !x.of n f)).length)) ∧ At [BookP b] w [BookP ⟨b.p, b.m, b.c, b.first, b.es.filter (fun x => !x.of n f), b.cs⟩] w'
 have hdel := fun (w1 : World) (bS : Nat) (q : Sep [mapC b.m (ents b.es), boxS bS n f] w1) => del_any q hok
 generalize b.es.filter (fun x => !x.of n f) = es' at *
 have e1 : (ents b.es).length = b.es.length := by simp [ents]
 have e2 : (ents es').length = es'.length := by simp [ents]
 have hF := hA.facts; (try simp only [uY] at hA hF)
 clear h hok
 go_enter Tryz.func64, Tryz.ntmps64
 go_wp2_with (first | ((with_reducible refine gbx ?_); refine wC (E := 25) hA ?_; clear hF hA; intro bS w1 hA hbS hF; (try simp only [uY] at hA hF)) | (refine wpList_len_map_at (k := 90) (es := ents b.es) rfl rfl rfl hA sR Tryz.underlying88 ?_; rw [e1]))
 refine (hdel _ bS (hA.sep2 (A := mapC b.m (ents b.es)) (B := boxS bS n f) sR sR)).mono ?_
 clear hdel
 rintro e w2 ⟨rfl, hT⟩
 have hB := hA.call2 (A := mapC b.m (ents b.es)) (B := boxS bS n f) sR sR hT
 clear hF hA hT; have hA := hB; clear hB
 have hF := hA.facts; (try simp only [uY] at hA hF)
 have hw : IntKind.i64.wrap ((b.es.length : Int) - (es'.length : Int)) = (b.es.length : Int) - (es'.length : Int) := by rw [IntKind.wrap_i64] <;> omega
 go_wp2_with (refine wpList_len_map_at (k := 90) (es := ents es') rfl rfl rfl hA sR Tryz.underlying88 ?_; rw [e2])
 go_ret
 exact ⟨rfl, close0 ⟨b.p, b.m, b.c, b.first, es', b.cs⟩ hA sR sR sR⟩
end Go.Proofs.YtpebabaigakagaaGreatDoor.Lock
end
