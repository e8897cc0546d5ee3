/- The plain law of LeasePlays: a book's sessions, in whatever order they came, and the document's list say the same. No walk in sight. -/
import Derived.Test.YtbdcgadcjgmgbaaLeaseV
import Derived.Test.YtbdcgadcjgmgbaaLeaseR5
import Derived.Test.YtbdcgadcjgmgbaaLeaseS
namespace Go.Proofs.Ytbdcgadcjgmgbaa.Lease
open Go.RowKit
open Go.Lib (compareBytes)
open _root_.Go.Proofs.Ytbdcgadcjgmgbaa.Sess (ltS sortS cbS)
set_option linter.unusedSimpArgs false
set_option linter.unusedVariables false

/-! ### Lists that are sorted -/
section
variable {α : Type} {lt : α → α → Prop} {p : α → Bool} {a : α} {l : List α}
theorem drop_not (tr : ∀ x y z, lt x y → lt y z → lt x z) (hp : ∀ x, p x = true ↔ lt x a) : ∀ {l : List α}, l.Pairwise lt → ∀ z ∈ l.dropWhile p, ¬ lt z a
  | [], _, z, hz => by simp at hz
  | y :: l, hs, z, hz => by
    by_cases hy : p y = true
    · rw [List.dropWhile_cons_of_pos hy] at hz
      exact drop_not tr hp (List.pairwise_cons.1 hs).2 z hz
    · rw [List.dropWhile_cons_of_neg hy] at hz
      rcases List.mem_cons.1 hz with rfl | hz
      · exact fun h => hy ((hp _).2 h)
      · exact fun h => hy ((hp _).2 (tr _ _ _ ((List.pairwise_cons.1 hs).1 z hz) h))
theorem take_lt (hp : ∀ x, p x = true ↔ lt x a) : ∀ x ∈ l.takeWhile p, lt x a := fun x hx => (hp x).1 (by
  induction l with
  | nil => simp at hx
  | cons y l ih =>
    rw [List.takeWhile_cons] at hx
    split at hx
    · rename_i hy
      rcases List.mem_cons.1 hx with rfl | hx
      · exact hy
      · exact ih hx
    · simp at hx)
theorem ins_sorted (tr : ∀ x y z, lt x y → lt y z → lt x z) (hp : ∀ x, p x = true ↔ lt x a) (hs : l.Pairwise lt) {r : List α} (hr : r.Sublist (l.dropWhile p)) (hr2 : ∀ x ∈ r, lt a x) : (l.takeWhile p ++ a :: r).Pairwise lt := by
  refine List.pairwise_append.2 ⟨hs.sublist (List.takeWhile_sublist p), List.pairwise_cons.2 ⟨hr2, (hs.sublist (List.dropWhile_sublist p)).sublist hr⟩, fun x hx y hy => ?_⟩
  have h1 := take_lt hp x hx
  rcases List.mem_cons.1 hy with rfl | hy
  · exact h1
  · exact tr _ _ _ h1 (hr2 y hy)
end

/-! ### Answers -/
def arP (a : AR) : Int × Ans := (a.r, ⟨a.e, a.n, a.g⟩)
structure RelT (told : List (Int × Ans)) (l : List AR) : Prop where
  perm : told.Perm (l.map arP)
  srt : l.Pairwise (fun a b => a.r < b.r)
  bd : ∀ x ∈ l, 0 ≤ x.r ∧ x.r < big64
  len : l.length ≤ 256
theorem RelT.nil : RelT [] [] := ⟨by simp, List.Pairwise.nil, nofun, by simp⟩
theorem RelT.size {told : List (Int × Ans)} {l : List AR} (h : RelT told l) : told.length = l.length := by simpa using h.perm.length_eq
theorem RelT.uniq {told : List (Int × Ans)} {l : List AR} (h : RelT told l) {x y : AR} (hx : x ∈ l) (hy : y ∈ l) (e : x.r = y.r) : x = y := by
  obtain ⟨i, hi⟩ := List.mem_iff_getElem?.1 hx
  obtain ⟨j, hj⟩ := List.mem_iff_getElem?.1 hy
  by_cases hij : i = j
  · subst hij; rw [hi] at hj; exact Option.some.inj hj
  · exfalso
    obtain ⟨hi1, hi2⟩ := List.getElem?_eq_some_iff.1 hi
    obtain ⟨hj1, hj2⟩ := List.getElem?_eq_some_iff.1 hj
    have hp := List.pairwise_iff_getElem.1 h.srt
    rcases Nat.lt_or_gt_of_ne hij with q | q
    · have := hp i j hi1 hj1 q; rw [hi2, hj2] at this; omega
    · have := hp j i hj1 hi1 q; rw [hi2, hj2] at this; omega
theorem RelT.said {told : List (Int × Ans)} {l : List AR} (h : RelT told l) (r : Int) : Lease.said told r = (saidA l r).map (fun a => (arP a).2) := by
  cases hs : saidA l r with
  | none =>
    unfold saidA at hs
    have hn := List.find?_eq_none.1 hs
    unfold Lease.said
    rw [List.find?_eq_none.2 (fun q hq hr => ?_)]
    · rfl
    · obtain ⟨a, ha, rfl⟩ := List.mem_map.1 (h.perm.mem_iff.1 hq)
      exact hn a ha (by simpa [arP] using of_decide_eq_true hr)
  | some a =>
    unfold saidA at hs
    have h1 := List.find?_some hs
    have h2 := List.mem_of_find?_eq_some hs
    have h1' : a.r = r := by simpa using h1
    have h3 : (r, (arP a).2) ∈ told := h.perm.mem_iff.2 (List.mem_map.2 ⟨a, h2, by simp [arP, h1']⟩)
    unfold Lease.said
    cases hq : told.find? (fun q => decide (q.1 = r)) with
    | none =>
      exfalso
      have h4 := List.find?_eq_none.1 hq _ h3
      simp at h4
    | some q =>
      have q1 := List.find?_some hq
      obtain ⟨b, hb, rfl⟩ := List.mem_map.1 (h.perm.mem_iff.1 (List.mem_of_find?_eq_some hq))
      have hb2 : b.r = r := of_decide_eq_true q1
      rw [h.uniq hb h2 (hb2.trans h1'.symm)]
      rfl
theorem insA_perm (l : List AR) (a : AR) : (insA l a).Perm (a :: l) := by
  unfold insA
  refine List.perm_middle.trans (List.Perm.cons _ ?_)
  rw [List.takeWhile_append_dropWhile]
theorem RelT.tell {told : List (Int × Ans)} {l : List AR} (h : RelT told l) {a : AR} (hn : saidA l a.r = none) (hl : l.length < 256) (hb : 0 ≤ a.r ∧ a.r < big64) : RelT (told ++ [arP a]) (insA l a) := by
  have hno : ∀ x ∈ l, x.r ≠ a.r := fun x hx e => by
    unfold saidA at hn
    exact List.find?_eq_none.1 hn x hx (by simpa using e)
  have hp : ∀ x, aheadA a x = true ↔ x.r < a.r := fun x => by simp [aheadA]
  refine ⟨?_, ?_, fun x hx => ?_, ?_⟩
  · have e : ((insA l a).map arP).Perm (arP a :: l.map arP) := (insA_perm l a).map arP
    exact (List.perm_append_comm.trans (by simpa using h.perm.cons (arP a))).trans e.symm
  · refine ins_sorted (lt := fun x y : AR => x.r < y.r) (fun _ _ _ h1 h2 => Int.lt_trans h1 h2) hp h.srt (List.Sublist.refl _) fun x hx => ?_
    have h1 := drop_not (lt := fun x y : AR => x.r < y.r) (fun _ _ _ h1 h2 => Int.lt_trans h1 h2) hp h.srt x hx
    have h2 := hno x ((List.dropWhile_sublist _).subset hx)
    omega
  · rcases List.mem_cons.1 ((insA_perm l a).mem_iff.1 hx) with rfl | hx
    · exact hb
    · exact h.bd x hx
  · have := (insA_perm l a).length_eq
    simp at this
    omega

/-! ### Sessions -/
structure RelS (s : Ses) (a : SR) : Prop where
  num : s.num = a.num
  foot : s.foot = a.foot
  op : s.op = a.op
  dead : s.dead = a.dead
  dl : s.dl = a.dl
  ttl : s.ttl = a.ttl
  told : RelT s.told a.told
  tb : 0 ≤ a.ttl ∧ a.ttl ≤ 2199023255552
def keyR (a : SR) : Int × ByteArray := (a.num, a.foot)
def keyE (s : Ses) : Int × ByteArray := (s.num, s.foot)
def ltR (a b : SR) : Prop := ltS (keyR a) (keyR b)
theorem less_cb : ∀ (x y : List UInt8), Op.bytesLess x y = decide (compareBytes x y < 0)
  | [], [] => by simp [Op.bytesLess, compareBytes]
  | [], _ :: _ => by simp [Op.bytesLess, compareBytes]
  | _ :: _, [] => by simp [Op.bytesLess, compareBytes]
  | a :: x, b :: y => by
    rw [Op.bytesLess, less_cb x y]
    simp only [compareBytes]
    rcases Nat.lt_trichotomy a.toNat b.toNat with h | h | h
    · have h1 : a < b := UInt8.lt_iff_toNat_lt.2 h
      simp [h1]
    · have e : a = b := UInt8.toNat_inj.1 h
      subst e
      have h1 : ¬ a < a := fun q => by have := UInt8.lt_iff_toNat_lt.1 q; omega
      simp [h1]
    · have h1 : b < a := UInt8.lt_iff_toNat_lt.2 h
      have h2 : ¬ a < b := fun q => by have := UInt8.lt_iff_toNat_lt.1 q; omega
      have h3 : a ≠ b := fun e => by subst e; omega
      simp [h1, h2, h3]
theorem ahead_iff (s x : SR) : aheadR s x = true ↔ ltR x s := by
  unfold aheadR ltR ltS keyR cbS
  rw [Lib.toList_data, Lib.toList_data, less_cb]
  simp
theorem is_iff {n : Int} {f : ByteArray} {a : SR} : SR.is n f a = true ↔ keyR a = (n, f) := by
  unfold SR.is keyR
  rw [Lib.toList_data, Lib.toList_data]
  simp only [Bool.and_eq_true, beq_iff_eq, Prod.mk.injEq]
  constructor
  · rintro ⟨h1, h2⟩; exact ⟨h1, Go.WideShapes.bytes_inj h2⟩
  · rintro ⟨h1, h2⟩; exact ⟨h1, by rw [h2]⟩
theorem ltR_trans : ∀ x y z : SR, ltR x y → ltR y z → ltR x z := fun _ _ _ h1 h2 => Sess.ltS_trans h1 h2
theorem ltR_ne {x y : SR} (h : ltR x y) : keyR x ≠ keyR y := fun e => by unfold ltR at h; rw [e] at h; exact Sess.ltS_irrefl _ h
structure Rel (ss : List Ses) (L : List SR) : Prop where
  keys : (ss.map keyE).Perm (L.map keyR)
  srt : L.Pairwise ltR
  each : ∀ s ∈ ss, ∀ a ∈ L, keyE s = keyR a → RelS s a
theorem Rel.nil : Rel [] [] := ⟨by simp, List.Pairwise.nil, nofun⟩
theorem Rel.len {ss : List Ses} {L : List SR} (h : Rel ss L) : ss.length = L.length := by simpa using h.keys.length_eq
theorem nodup_keys {L : List SR} (h : L.Pairwise ltR) : (L.map keyR).Nodup := List.pairwise_map.2 (h.imp ltR_ne)
theorem Rel.nodupL {ss : List Ses} {L : List SR} (h : Rel ss L) : (L.map keyR).Nodup := nodup_keys h.srt
theorem Rel.nodupS {ss : List Ses} {L : List SR} (h : Rel ss L) : (ss.map keyE).Nodup := h.keys.nodup_iff.2 h.nodupL
theorem key_inj {α β : Type} {f : α → β} {l : List α} (h : (l.map f).Nodup) {x y : α} (hx : x ∈ l) (hy : y ∈ l) (e : f x = f y) : x = y := by
  obtain ⟨i, hi⟩ := List.mem_iff_getElem?.1 hx
  obtain ⟨j, hj⟩ := List.mem_iff_getElem?.1 hy
  by_cases hij : i = j
  · subst hij; rw [hi] at hj; exact Option.some.inj hj
  · exfalso
    obtain ⟨hi1, hi2⟩ := List.getElem?_eq_some_iff.1 hi
    obtain ⟨hj1, hj2⟩ := List.getElem?_eq_some_iff.1 hj
    have hp := List.pairwise_iff_getElem.1 (List.pairwise_map.1 h)
    rcases Nat.lt_or_gt_of_ne hij with q | q
    · exact hp i j hi1 hj1 q (by rw [hi2, hj2, e])
    · exact hp j i hj1 hi1 q (by rw [hi2, hj2, e])
theorem is_key {s : Ses} {n : Int} {f : ByteArray} : s.is n f = true ↔ keyE s = (n, f) := by simp [Ses.is, keyE]
theorem RelS.none (n : Int) (f : ByteArray) (b t : Nat) : RelS (fresh n f b t) (noSR n f) := ⟨rfl, rfl, rfl, rfl, rfl, rfl, RelT.nil, by simp [noSR]⟩
/-- a session, looked up in both: known in both, or in neither -/
theorem Rel.both {ss : List Ses} {L : List SR} (h : Rel ss L) (n : Int) (f : ByteArray) :
    (find ss n f = none ∧ (∀ a ∈ L, SR.is n f a = false) ∧ findR L n f = noSR n f) ∨ (∃ s a, find ss n f = some s ∧ a ∈ L ∧ keyR a = (n, f) ∧ findR L n f = a ∧ RelS s a) := by
  cases hf : find ss n f with
  | none =>
    refine .inl ⟨rfl, ?_⟩
    have hno : ∀ a ∈ L, SR.is n f a = false := fun a ha => by
      cases hq : SR.is n f a
      · rfl
      · exfalso
        have hk := is_iff.1 hq
        have : (n, f) ∈ ss.map keyE := h.keys.mem_iff.2 (hk ▸ List.mem_map.2 ⟨a, ha, rfl⟩)
        obtain ⟨s, hs, hs2⟩ := List.mem_map.1 this
        exact List.find?_eq_none.1 hf s hs (is_key.2 hs2)
    exact ⟨hno, findR_none hno⟩
  | some s =>
    right
    have h1 := List.find?_some hf
    have h2 := List.mem_of_find?_eq_some hf
    have hk := is_key.1 h1
    have : (n, f) ∈ L.map keyR := h.keys.mem_iff.1 (hk ▸ List.mem_map.2 ⟨s, h2, rfl⟩)
    obtain ⟨a, ha, hak⟩ := List.mem_map.1 this
    refine ⟨s, a, rfl, ha, hak, ?_, h.each s h2 a ha (hk.trans hak.symm)⟩
    unfold findR
    cases hq : L.find? (SR.is n f) with
    | none => exact absurd (is_iff.2 hak) (by simpa using List.find?_eq_none.1 hq a ha)
    | some b =>
      have hb := is_iff.1 (List.find?_some hq)
      exact key_inj h.nodupL (List.mem_of_find?_eq_some hq) ha (hb.trans hak.symm)
theorem Rel.look {ss : List Ses} {L : List SR} (h : Rel ss L) (n : Int) (f : ByteArray) : RelS (Lease.look ss n f) (findR L n f) := by
  unfold Lease.look
  rcases h.both n f with ⟨h1, _, h3⟩ | ⟨s, a, h1, _, _, h4, h5⟩
  · rw [h1, h3]; exact RelS.none _ _ _ _
  · rw [h1, h4]; exact h5
theorem Rel.map_perm {ss : List Ses} {L : List SR} (h : Rel ss L) {β : Type} (φ : Ses → β) (ψ : SR → β) (e : ∀ s a, RelS s a → φ s = ψ a) : (ss.map fun s => (keyE s, φ s)).Perm (L.map fun a => (keyR a, ψ a)) := by
  have n1 : (ss.map fun s => (keyE s, φ s)).Nodup := List.pairwise_map.2 ((List.pairwise_map.1 h.nodupS).imp fun q e => q (congrArg Prod.fst e))
  have n2 : (L.map fun a => (keyR a, ψ a)).Nodup := List.pairwise_map.2 ((List.pairwise_map.1 h.nodupL).imp fun q e => q (congrArg Prod.fst e))
  refine (List.perm_ext_iff_of_nodup n1 n2).2 fun x => ?_
  constructor
  · intro hx
    obtain ⟨s, hs, rfl⟩ := List.mem_map.1 hx
    obtain ⟨a, ha, hk⟩ := List.mem_map.1 (h.keys.mem_iff.1 (List.mem_map.2 ⟨s, hs, rfl⟩))
    exact List.mem_map.2 ⟨a, ha, by rw [hk, e s a (h.each s hs a ha hk.symm)]⟩
  · intro hx
    obtain ⟨a, ha, rfl⟩ := List.mem_map.1 hx
    obtain ⟨s, hs, hk⟩ := List.mem_map.1 (h.keys.mem_iff.2 (List.mem_map.2 ⟨a, ha, rfl⟩))
    exact List.mem_map.2 ⟨s, hs, by rw [hk, e s a (h.each s hs a ha hk)]⟩
theorem Rel.cnt {ss : List Ses} {L : List SR} (h : Rel ss L) (f : ByteArray) : Lease.cnt ss f = cntR L f := by
  have hp := (h.map_perm (fun s => s.op) (fun a => a.op) (fun s a r => r.op)).filter (fun x : (Int × ByteArray) × Bool => (x.1.2.toList == f.toList) && x.2)
  have hl := hp.length_eq
  rw [List.filter_map, List.filter_map, List.length_map, List.length_map] at hl
  exact hl
theorem sortS_self {L : List SR} (h : L.Pairwise ltR) : sortS (L.map keyR) = L.map keyR := by
  unfold sortS
  refine List.mergeSort_of_pairwise ?_
  rw [List.pairwise_map]
  refine h.imp fun {x y} hxy => ?_
  rw [Sess.cmpS_lt]
  simp only [Bool.not_eq_true', decide_eq_false_iff_not]
  exact fun hyx => Sess.ltS_irrefl _ (Sess.ltS_trans hxy hyx)
theorem Rel.sessions {ss : List Ses} {L : List SR} (h : Rel ss L) : sortS (keysOf ss) = L.map keyR := (Sess.sort_perm h.keys).trans (sortS_self h.srt)
def dueR (time : Int) (a : SR) : Bool := a.op && decide (a.dl ≤ time)
theorem Rel.due {ss : List Ses} {L : List SR} (h : Rel ss L) (time : Int) : sortS (dueOf ss time) = (L.filter (dueR time)).map keyR := by
  have hp := (h.map_perm (fun s => (s.op, s.dl)) (fun a => (a.op, a.dl)) (fun s a r => by rw [r.op, r.dl])).filter (fun x : (Int × ByteArray) × (Bool × Int) => x.2.1 && decide (x.2.2 ≤ time))
  rw [List.filter_map, List.filter_map] at hp
  have hq := hp.map Prod.fst
  rw [List.map_map, List.map_map] at hq
  exact (Sess.sort_perm hq).trans (sortS_self (h.srt.sublist List.filter_sublist))

/-! ### A session is so from now on -/
theorem putRest_cons (s y : SR) (r : List SR) : putRest s (y :: r) = if SR.is s.num s.foot y = true then r else y :: r := rfl
theorem mem_put {L : List SR} (hs : L.Pairwise ltR) (a : SR) : (putR L a).Pairwise ltR ∧ ∀ x, x ∈ putR L a ↔ x = a ∨ (x ∈ L ∧ keyR x ≠ keyR a) := by
  have hp : ∀ x, aheadR a x = true ↔ ltR x a := ahead_iff a
  have hd := drop_not (lt := ltR) ltR_trans hp hs
  have hds : (L.dropWhile (aheadR a)).Pairwise ltR := hs.sublist (List.dropWhile_sublist _)
  -- what is kept behind it
  have key : (putRest a (L.dropWhile (aheadR a))).Sublist (L.dropWhile (aheadR a)) ∧ ∀ x, x ∈ putRest a (L.dropWhile (aheadR a)) ↔ x ∈ L.dropWhile (aheadR a) ∧ keyR x ≠ keyR a := by
    generalize L.dropWhile (aheadR a) = r at hd hds
    cases r with
    | nil => exact ⟨by simp [putRest], fun x => by simp [putRest]⟩
    | cons y r =>
      have hy := List.pairwise_cons.1 hds
      rw [putRest_cons]
      rcases Bool.eq_false_or_eq_true (SR.is a.num a.foot y) with hq | hq
      rotate_left
      · rw [if_neg (by rw [hq]; simp)]
        refine ⟨List.Sublist.refl _, fun x => ⟨fun hx => ⟨hx, fun e => ?_⟩, fun hx => hx.1⟩⟩
        have hyk : keyR y ≠ keyR a := fun e2 => by
          have : SR.is a.num a.foot y = true := is_iff.2 e2
          rw [hq] at this; cases this
        rcases List.mem_cons.1 hx with rfl | hx
        · exact hyk e
        · have h1 : ltR y x := hy.1 x hx
          have h2 : ¬ ltR y a := hd y (by simp)
          apply h2
          unfold ltR at h1 ⊢
          rw [← e]
          exact h1
      · rw [if_pos hq]
        have hyk : keyR y = keyR a := is_iff.1 hq
        refine ⟨List.sublist_cons_self _ _, fun x => ⟨fun hx => ⟨by simp [hx], fun e => ?_⟩, fun hx => ?_⟩⟩
        · exact ltR_ne (hy.1 x hx) (hyk.trans e.symm)
        · rcases List.mem_cons.1 hx.1 with rfl | h
          · exact absurd hyk hx.2
          · exact h
  refine ⟨ins_sorted ltR_trans hp hs key.1 fun x hx => ?_, fun x => ?_⟩
  · have h1 := (key.2 x).1 hx
    have h2 := hd x h1.1
    unfold ltR at h2 ⊢
    rcases Sess.ltS_tri (keyR a) (keyR x) with q | q | q
    · exact q
    · exact absurd q.symm h1.2
    · exact absurd q h2
  · unfold putR
    rw [List.mem_append, List.mem_cons, key.2]
    constructor
    · rintro (h | h | h)
      · exact .inr ⟨(List.takeWhile_sublist _).subset h, fun e => ltR_ne (take_lt hp x h) e⟩
      · exact .inl h
      · exact .inr ⟨(List.dropWhile_sublist _).subset h.1, h.2⟩
    · rintro (h | ⟨h1, h2⟩)
      · exact .inr (.inl h)
      · rw [← List.takeWhile_append_dropWhile (p := aheadR a) (l := L)] at h1
        rcases List.mem_append.1 h1 with h | h
        · exact .inl h
        · exact .inr (.inr ⟨h, h2⟩)
theorem Rel.put {ss ss' : List Ses} {L : List SR} {s' : Ses} {a' : SR} (h : Rel ss L) (hr : RelS s' a') (hn : (ss'.map keyE).Nodup) (hm : ∀ x, x ∈ ss' ↔ x = s' ∨ (x ∈ ss ∧ keyE x ≠ keyE s')) : Rel ss' (putR L a') := by
  obtain ⟨hsrt, hmem⟩ := mem_put h.srt a'
  have hk : keyE s' = keyR a' := by unfold keyE keyR; rw [hr.num, hr.foot]
  refine ⟨(List.perm_ext_iff_of_nodup hn (nodup_keys hsrt)).2 fun q => ?_, hsrt, fun s hs a ha e => ?_⟩
  · constructor
    · intro hq
      obtain ⟨x, hx, rfl⟩ := List.mem_map.1 hq
      rcases (hm x).1 hx with rfl | ⟨hx1, hx2⟩
      · exact List.mem_map.2 ⟨a', (hmem a').2 (.inl rfl), hk.symm⟩
      · obtain ⟨a, ha, hak⟩ := List.mem_map.1 (h.keys.mem_iff.1 (List.mem_map.2 ⟨x, hx1, rfl⟩))
        exact List.mem_map.2 ⟨a, (hmem a).2 (.inr ⟨ha, by rw [hak, ← hk]; exact hx2⟩), hak⟩
    · intro hq
      obtain ⟨a, ha, rfl⟩ := List.mem_map.1 hq
      rcases (hmem a).1 ha with rfl | ⟨ha1, ha2⟩
      · exact List.mem_map.2 ⟨s', (hm s').2 (.inl rfl), hk⟩
      · obtain ⟨x, hx, hxk⟩ := List.mem_map.1 (h.keys.mem_iff.2 (List.mem_map.2 ⟨a, ha1, rfl⟩))
        exact List.mem_map.2 ⟨x, (hm x).2 (.inr ⟨hx, by rw [hxk, hk]; exact ha2⟩), hxk⟩
  · rcases (hm s).1 hs with rfl | ⟨hs1, hs2⟩
    · rcases (hmem a).1 ha with rfl | ⟨_, ha2⟩
      · exact hr
      · exact absurd (e.symm.trans hk) ha2
    · rcases (hmem a).1 ha with rfl | ⟨ha1, _⟩
      · exact absurd (e.trans hk.symm) hs2
      · exact h.each s hs1 a ha1 e
/-- a session that was known -/
theorem Rel.put_old {l1 l2 : List Ses} {s s' : Ses} {L : List SR} {a' : SR} (h : Rel (l1 ++ s :: l2) L) (hk : keyE s' = keyE s) (hr : RelS s' a') : Rel (l1 ++ s' :: l2) (putR L a') := by
  have hn := h.nodupS
  have e : (l1 ++ s' :: l2).map keyE = (l1 ++ s :: l2).map keyE := by simp [hk]
  refine h.put hr (by rw [e]; exact hn) fun x => ?_
  have hp := List.pairwise_append.1 (List.pairwise_map.1 hn)
  have hc := List.pairwise_cons.1 hp.2.1
  rw [hk]
  constructor
  · intro hx
    rcases List.mem_append.1 hx with hx | hx
    · exact .inr ⟨by simp [hx], hp.2.2 x hx s (by simp)⟩
    · rcases List.mem_cons.1 hx with rfl | hx
      · exact .inl rfl
      · exact .inr ⟨by simp [hx], fun e => hc.1 x hx e.symm⟩
  · rintro (rfl | ⟨hx, hx2⟩)
    · simp
    · rcases List.mem_append.1 hx with hx | hx
      · simp [hx]
      · rcases List.mem_cons.1 hx with rfl | hx
        · exact absurd rfl hx2
        · simp [hx]
/-- a session that was not -/
theorem Rel.put_new {ss : List Ses} {s' : Ses} {L : List SR} {a' : SR} (h : Rel ss L) (hf : find ss s'.num s'.foot = none) (hr : RelS s' a') : Rel (ss ++ [s']) (putR L a') := by
  have hno : ∀ x ∈ ss, keyE x ≠ keyE s' := fun x hx e => List.find?_eq_none.1 hf x hx (is_key.2 e)
  refine h.put hr ?_ fun x => ?_
  · rw [List.map_append]
    refine List.pairwise_append.2 ⟨h.nodupS, by simp, fun p hp q hq => ?_⟩
    obtain ⟨x, hx, rfl⟩ := List.mem_map.1 hp
    have : q = keyE s' := by simpa using hq
    rw [this]
    exact hno x hx
  · constructor
    · intro hx
      rcases List.mem_append.1 hx with hx | hx
      · exact .inr ⟨hx, hno x hx⟩
      · exact .inl (by simpa using hx)
    · rintro (rfl | ⟨hx, _⟩) <;> simp [*]
theorem put_len {L : List SR} (a : SR) : (putR L a).length ≤ L.length + 1 := by
  unfold putR putRest
  have e := congrArg List.length (List.takeWhile_append_dropWhile (p := aheadR a) (l := L))
  simp only [List.length_append, List.length_cons] at e ⊢
  split
  · rw [List.length_tail]; omega
  · omega
end Go.Proofs.Ytbdcgadcjgmgbaa.Lease
