/- LeaseP, LeaseG, LeaseH, LeaseI, LeaseJ, LeaseX, joined. -/
import Derived.Test.YtnkddjomanaadaaLeaseV
import Derived.Test.YtnkddjomanaadaaLeaseR5
import Derived.Test.YtnkddjomanaadaaLeaseS
import Derived.Laws.StructEq
section
namespace Go.Proofs.Ytnkddjomanaadaa.Lease
open Go.RowKit
open Go.Lib (compareBytes)
open _root_.Go.Proofs.Ytnkddjomanaadaa.Sess (ltS sortS cbS)
set_option linter.unusedSimpArgs false
set_option linter.unusedVariables false

/-! ### Lists that are sorted -/
section
variable {α : Type} {lt : α → α → Prop} {p : α → Bool} {a : α} {l : List α}
theorem drop_not (tr : ∀ x y z, lt x y → lt y z → lt x z) (hp : ∀ x, p x = true ↔ lt x a) : ∀ {l : List α}, l.Pairwise lt → ∀ z ∈ l.dropWhile p, ¬ lt z a
  | [], _, z, hz => by simp at hz
  | y :: l, hs, z, hz => by
    by_cases hy : p y = true
    · rw [List.dropWhile_cons_of_pos hy] at hz
      exact drop_not tr hp (List.pairwise_cons.1 hs).2 z hz
    · rw [List.dropWhile_cons_of_neg hy] at hz
      rcases List.mem_cons.1 hz with rfl | hz
      · exact fun h => hy ((hp _).2 h)
      · exact fun h => hy ((hp _).2 (tr _ _ _ ((List.pairwise_cons.1 hs).1 z hz) h))
theorem take_lt (hp : ∀ x, p x = true ↔ lt x a) : ∀ x ∈ l.takeWhile p, lt x a := fun x hx => (hp x).1 (by
  induction l with
  | nil => simp at hx
  | cons y l ih =>
    rw [List.takeWhile_cons] at hx
    split at hx
    · rename_i hy
      rcases List.mem_cons.1 hx with rfl | hx
      · exact hy
      · exact ih hx
    · simp at hx)
theorem ins_sorted (tr : ∀ x y z, lt x y → lt y z → lt x z) (hp : ∀ x, p x = true ↔ lt x a) (hs : l.Pairwise lt) {r : List α} (hr : r.Sublist (l.dropWhile p)) (hr2 : ∀ x ∈ r, lt a x) : (l.takeWhile p ++ a :: r).Pairwise lt := by
  refine List.pairwise_append.2 ⟨hs.sublist (List.takeWhile_sublist p), List.pairwise_cons.2 ⟨hr2, (hs.sublist (List.dropWhile_sublist p)).sublist hr⟩, fun x hx y hy => ?_⟩
  have h1 := take_lt hp x hx
  rcases List.mem_cons.1 hy with rfl | hy
  · exact h1
  · exact tr _ _ _ h1 (hr2 y hy)
end

/-! ### Answers -/
def arP (a : AR) : Int × Ans := (a.r, ⟨a.e, a.n, a.g⟩)
/-- an answer's numbers are numbers of their kinds -/
def okA (a : AR) : Prop := (-9223372036854775808 ≤ a.e ∧ a.e ≤ 9223372036854775807) ∧ 0 ≤ a.n ∧ a.n < big64
structure RelT (told : List (Int × Ans)) (l : List AR) : Prop where
  perm : told.Perm (l.map arP)
  srt : l.Pairwise (fun a b => a.r < b.r)
  bd : ∀ x ∈ l, 0 ≤ x.r ∧ x.r < big64
  len : l.length ≤ 256
  an : ∀ x ∈ l, okA x
theorem RelT.nil : RelT [] [] := ⟨by simp, List.Pairwise.nil, nofun, by simp, nofun⟩
theorem RelT.size {told : List (Int × Ans)} {l : List AR} (h : RelT told l) : told.length = l.length := by simpa using h.perm.length_eq
theorem RelT.uniq {told : List (Int × Ans)} {l : List AR} (h : RelT told l) {x y : AR} (hx : x ∈ l) (hy : y ∈ l) (e : x.r = y.r) : x = y := by
  obtain ⟨i, hi⟩ := List.mem_iff_getElem?.1 hx
  obtain ⟨j, hj⟩ := List.mem_iff_getElem?.1 hy
  by_cases hij : i = j
  · subst hij; rw [hi] at hj; exact Option.some.inj hj
  · exfalso
    obtain ⟨hi1, hi2⟩ := List.getElem?_eq_some_iff.1 hi
    obtain ⟨hj1, hj2⟩ := List.getElem?_eq_some_iff.1 hj
    have hp := List.pairwise_iff_getElem.1 h.srt
    rcases Nat.lt_or_gt_of_ne hij with q | q
    · have := hp i j hi1 hj1 q; rw [hi2, hj2] at this; omega
    · have := hp j i hj1 hi1 q; rw [hi2, hj2] at this; omega
theorem RelT.said {told : List (Int × Ans)} {l : List AR} (h : RelT told l) (r : Int) : Lease.said told r = (saidA l r).map (fun a => (arP a).2) := by
  cases hs : saidA l r with
  | none =>
    unfold saidA at hs
    have hn := List.find?_eq_none.1 hs
    unfold Lease.said
    rw [List.find?_eq_none.2 (fun q hq hr => ?_)]
    · rfl
    · obtain ⟨a, ha, rfl⟩ := List.mem_map.1 (h.perm.mem_iff.1 hq)
      exact hn a ha (by simpa [arP] using of_decide_eq_true hr)
  | some a =>
    unfold saidA at hs
    have h1 := List.find?_some hs
    have h2 := List.mem_of_find?_eq_some hs
    have h1' : a.r = r := by simpa using h1
    have h3 : (r, (arP a).2) ∈ told := h.perm.mem_iff.2 (List.mem_map.2 ⟨a, h2, by simp [arP, h1']⟩)
    unfold Lease.said
    cases hq : told.find? (fun q => decide (q.1 = r)) with
    | none =>
      exfalso
      have h4 := List.find?_eq_none.1 hq _ h3
      simp at h4
    | some q =>
      have q1 := List.find?_some hq
      obtain ⟨b, hb, rfl⟩ := List.mem_map.1 (h.perm.mem_iff.1 (List.mem_of_find?_eq_some hq))
      have hb2 : b.r = r := of_decide_eq_true q1
      rw [h.uniq hb h2 (hb2.trans h1'.symm)]
      rfl
theorem insA_perm (l : List AR) (a : AR) : (insA l a).Perm (a :: l) := by
  unfold insA
  refine List.perm_middle.trans (List.Perm.cons _ ?_)
  rw [List.takeWhile_append_dropWhile]
theorem RelT.tell {told : List (Int × Ans)} {l : List AR} (h : RelT told l) {a : AR} (hn : saidA l a.r = none) (hl : l.length < 256) (hb : 0 ≤ a.r ∧ a.r < big64) (ha : okA a) : RelT (told ++ [arP a]) (insA l a) := by
  have hno : ∀ x ∈ l, x.r ≠ a.r := fun x hx e => by
    unfold saidA at hn
    exact List.find?_eq_none.1 hn x hx (by simpa using e)
  have hp : ∀ x, aheadA a x = true ↔ x.r < a.r := fun x => by simp [aheadA]
  refine ⟨?_, ?_, fun x hx => ?_, ?_, fun x hx => ?_⟩
  · have e : ((insA l a).map arP).Perm (arP a :: l.map arP) := (insA_perm l a).map arP
    exact (List.perm_append_comm.trans (by simpa using h.perm.cons (arP a))).trans e.symm
  · refine ins_sorted (lt := fun x y : AR => x.r < y.r) (fun _ _ _ h1 h2 => Int.lt_trans h1 h2) hp h.srt (List.Sublist.refl _) fun x hx => ?_
    have h1 := drop_not (lt := fun x y : AR => x.r < y.r) (fun _ _ _ h1 h2 => Int.lt_trans h1 h2) hp h.srt x hx
    have h2 := hno x ((List.dropWhile_sublist _).subset hx)
    omega
  · rcases List.mem_cons.1 ((insA_perm l a).mem_iff.1 hx) with rfl | hx
    · exact hb
    · exact h.bd x hx
  · have := (insA_perm l a).length_eq
    simp at this
    omega
  · rcases List.mem_cons.1 ((insA_perm l a).mem_iff.1 hx) with rfl | hx
    · exact ha
    · exact h.an x hx

/-! ### Sessions -/
structure RelS (s : Ses) (a : SR) : Prop where
  num : s.num = a.num
  foot : s.foot = a.foot
  op : s.op = a.op
  dead : s.dead = a.dead
  dl : s.dl = a.dl
  ttl : s.ttl = a.ttl
  told : RelT s.told a.told
  tb : 0 ≤ a.ttl ∧ a.ttl ≤ 2199023255552
  db : 0 ≤ a.dl ∧ a.dl ≤ 2199023255552
def keyR (a : SR) : Int × ByteArray := (a.num, a.foot)
def keyE (s : Ses) : Int × ByteArray := (s.num, s.foot)
def ltR (a b : SR) : Prop := ltS (keyR a) (keyR b)
theorem less_cb : ∀ (x y : List UInt8), Op.bytesLess x y = decide (compareBytes x y < 0)
  | [], [] => by simp [Op.bytesLess, compareBytes]
  | [], _ :: _ => by simp [Op.bytesLess, compareBytes]
  | _ :: _, [] => by simp [Op.bytesLess, compareBytes]
  | a :: x, b :: y => by
    rw [Op.bytesLess, less_cb x y]
    simp only [compareBytes]
    rcases Nat.lt_trichotomy a.toNat b.toNat with h | h | h
    · have h1 : a < b := UInt8.lt_iff_toNat_lt.2 h
      simp [h1]
    · have e : a = b := UInt8.toNat_inj.1 h
      subst e
      have h1 : ¬ a < a := fun q => by have := UInt8.lt_iff_toNat_lt.1 q; omega
      simp [h1]
    · have h1 : b < a := UInt8.lt_iff_toNat_lt.2 h
      have h2 : ¬ a < b := fun q => by have := UInt8.lt_iff_toNat_lt.1 q; omega
      have h3 : a ≠ b := fun e => by subst e; omega
      simp [h1, h2, h3]
theorem ahead_iff (s x : SR) : aheadR s x = true ↔ ltR x s := by
  unfold aheadR ltR ltS keyR cbS
  rw [Lib.toList_data, Lib.toList_data, less_cb]
  simp
theorem is_iff {n : Int} {f : ByteArray} {a : SR} : SR.is n f a = true ↔ keyR a = (n, f) := by
  unfold SR.is keyR
  rw [Lib.toList_data, Lib.toList_data]
  simp only [Bool.and_eq_true, beq_iff_eq, Prod.mk.injEq]
  constructor
  · rintro ⟨h1, h2⟩; exact ⟨h1, Go.WideShapes.bytes_inj h2⟩
  · rintro ⟨h1, h2⟩; exact ⟨h1, by rw [h2]⟩
theorem ltR_trans : ∀ x y z : SR, ltR x y → ltR y z → ltR x z := fun _ _ _ h1 h2 => Sess.ltS_trans h1 h2
theorem ltR_ne {x y : SR} (h : ltR x y) : keyR x ≠ keyR y := fun e => by unfold ltR at h; rw [e] at h; exact Sess.ltS_irrefl _ h
structure Rel (ss : List Ses) (L : List SR) : Prop where
  keys : (ss.map keyE).Perm (L.map keyR)
  srt : L.Pairwise ltR
  each : ∀ s ∈ ss, ∀ a ∈ L, keyE s = keyR a → RelS s a
theorem Rel.nil : Rel [] [] := ⟨by simp, List.Pairwise.nil, nofun⟩
theorem Rel.len {ss : List Ses} {L : List SR} (h : Rel ss L) : ss.length = L.length := by simpa using h.keys.length_eq
theorem nodup_keys {L : List SR} (h : L.Pairwise ltR) : (L.map keyR).Nodup := List.pairwise_map.2 (h.imp ltR_ne)
theorem Rel.nodupL {ss : List Ses} {L : List SR} (h : Rel ss L) : (L.map keyR).Nodup := nodup_keys h.srt
theorem Rel.nodupS {ss : List Ses} {L : List SR} (h : Rel ss L) : (ss.map keyE).Nodup := h.keys.nodup_iff.2 h.nodupL
theorem key_inj {α β : Type} {f : α → β} {l : List α} (h : (l.map f).Nodup) {x y : α} (hx : x ∈ l) (hy : y ∈ l) (e : f x = f y) : x = y := by
  obtain ⟨i, hi⟩ := List.mem_iff_getElem?.1 hx
  obtain ⟨j, hj⟩ := List.mem_iff_getElem?.1 hy
  by_cases hij : i = j
  · subst hij; rw [hi] at hj; exact Option.some.inj hj
  · exfalso
    obtain ⟨hi1, hi2⟩ := List.getElem?_eq_some_iff.1 hi
    obtain ⟨hj1, hj2⟩ := List.getElem?_eq_some_iff.1 hj
    have hp := List.pairwise_iff_getElem.1 (List.pairwise_map.1 h)
    rcases Nat.lt_or_gt_of_ne hij with q | q
    · exact hp i j hi1 hj1 q (by rw [hi2, hj2, e])
    · exact hp j i hj1 hi1 q (by rw [hi2, hj2, e])
theorem is_key {s : Ses} {n : Int} {f : ByteArray} : s.is n f = true ↔ keyE s = (n, f) := by simp [Ses.is, keyE]
theorem RelS.none (n : Int) (f : ByteArray) (b t : Nat) : RelS (fresh n f b t) (noSR n f) := ⟨rfl, rfl, rfl, rfl, rfl, rfl, RelT.nil, by simp [noSR], by simp [noSR]⟩
/-- a session, looked up in both: known in both, or in neither -/
theorem Rel.both {ss : List Ses} {L : List SR} (h : Rel ss L) (n : Int) (f : ByteArray) :
    (find ss n f = none ∧ (∀ a ∈ L, SR.is n f a = false) ∧ findR L n f = noSR n f) ∨ (∃ s a, find ss n f = some s ∧ a ∈ L ∧ keyR a = (n, f) ∧ findR L n f = a ∧ RelS s a) := by
  cases hf : find ss n f with
  | none =>
    refine .inl ⟨rfl, ?_⟩
    have hno : ∀ a ∈ L, SR.is n f a = false := fun a ha => by
      cases hq : SR.is n f a
      · rfl
      · exfalso
        have hk := is_iff.1 hq
        have : (n, f) ∈ ss.map keyE := h.keys.mem_iff.2 (hk ▸ List.mem_map.2 ⟨a, ha, rfl⟩)
        obtain ⟨s, hs, hs2⟩ := List.mem_map.1 this
        exact List.find?_eq_none.1 hf s hs (is_key.2 hs2)
    exact ⟨hno, findR_none hno⟩
  | some s =>
    right
    have h1 := List.find?_some hf
    have h2 := List.mem_of_find?_eq_some hf
    have hk := is_key.1 h1
    have : (n, f) ∈ L.map keyR := h.keys.mem_iff.1 (hk ▸ List.mem_map.2 ⟨s, h2, rfl⟩)
    obtain ⟨a, ha, hak⟩ := List.mem_map.1 this
    refine ⟨s, a, rfl, ha, hak, ?_, h.each s h2 a ha (hk.trans hak.symm)⟩
    unfold findR
    cases hq : L.find? (SR.is n f) with
    | none => exact absurd (is_iff.2 hak) (by simpa using List.find?_eq_none.1 hq a ha)
    | some b =>
      have hb := is_iff.1 (List.find?_some hq)
      exact key_inj h.nodupL (List.mem_of_find?_eq_some hq) ha (hb.trans hak.symm)
theorem Rel.look {ss : List Ses} {L : List SR} (h : Rel ss L) (n : Int) (f : ByteArray) : RelS (Lease.look ss n f) (findR L n f) := by
  unfold Lease.look
  rcases h.both n f with ⟨h1, _, h3⟩ | ⟨s, a, h1, _, _, h4, h5⟩
  · rw [h1, h3]; exact RelS.none _ _ _ _
  · rw [h1, h4]; exact h5
theorem Rel.map_perm {ss : List Ses} {L : List SR} (h : Rel ss L) {β : Type} (φ : Ses → β) (ψ : SR → β) (e : ∀ s a, RelS s a → φ s = ψ a) : (ss.map fun s => (keyE s, φ s)).Perm (L.map fun a => (keyR a, ψ a)) := by
  have n1 : (ss.map fun s => (keyE s, φ s)).Nodup := List.pairwise_map.2 ((List.pairwise_map.1 h.nodupS).imp fun q e => q (congrArg Prod.fst e))
  have n2 : (L.map fun a => (keyR a, ψ a)).Nodup := List.pairwise_map.2 ((List.pairwise_map.1 h.nodupL).imp fun q e => q (congrArg Prod.fst e))
  refine (List.perm_ext_iff_of_nodup n1 n2).2 fun x => ?_
  constructor
  · intro hx
    obtain ⟨s, hs, rfl⟩ := List.mem_map.1 hx
    obtain ⟨a, ha, hk⟩ := List.mem_map.1 (h.keys.mem_iff.1 (List.mem_map.2 ⟨s, hs, rfl⟩))
    exact List.mem_map.2 ⟨a, ha, by rw [hk, e s a (h.each s hs a ha hk.symm)]⟩
  · intro hx
    obtain ⟨a, ha, rfl⟩ := List.mem_map.1 hx
    obtain ⟨s, hs, hk⟩ := List.mem_map.1 (h.keys.mem_iff.2 (List.mem_map.2 ⟨a, ha, rfl⟩))
    exact List.mem_map.2 ⟨s, hs, by rw [hk, e s a (h.each s hs a ha hk)]⟩
theorem Rel.cnt {ss : List Ses} {L : List SR} (h : Rel ss L) (f : ByteArray) : Lease.cnt ss f = cntR L f := by
  have hp := (h.map_perm (fun s => s.op) (fun a => a.op) (fun s a r => r.op)).filter (fun x : (Int × ByteArray) × Bool => (x.1.2.toList == f.toList) && x.2)
  have hl := hp.length_eq
  rw [List.filter_map, List.filter_map, List.length_map, List.length_map] at hl
  exact hl
theorem sortS_self {L : List SR} (h : L.Pairwise ltR) : sortS (L.map keyR) = L.map keyR := by
  unfold sortS
  refine List.mergeSort_of_pairwise ?_
  rw [List.pairwise_map]
  refine h.imp fun {x y} hxy => ?_
  rw [Sess.cmpS_lt]
  simp only [Bool.not_eq_true', decide_eq_false_iff_not]
  exact fun hyx => Sess.ltS_irrefl _ (Sess.ltS_trans hxy hyx)
theorem Rel.sessions {ss : List Ses} {L : List SR} (h : Rel ss L) : sortS (keysOf ss) = L.map keyR := (Sess.sort_perm h.keys).trans (sortS_self h.srt)
def dueR (time : Int) (a : SR) : Bool := a.op && decide (a.dl ≤ time)
theorem Rel.due {ss : List Ses} {L : List SR} (h : Rel ss L) (time : Int) : sortS (dueOf ss time) = (L.filter (dueR time)).map keyR := by
  have hp := (h.map_perm (fun s => (s.op, s.dl)) (fun a => (a.op, a.dl)) (fun s a r => by rw [r.op, r.dl])).filter (fun x : (Int × ByteArray) × (Bool × Int) => x.2.1 && decide (x.2.2 ≤ time))
  rw [List.filter_map, List.filter_map] at hp
  have hq := hp.map Prod.fst
  rw [List.map_map, List.map_map] at hq
  exact (Sess.sort_perm hq).trans (sortS_self (h.srt.sublist List.filter_sublist))

/-! ### A session is so from now on -/
theorem putRest_cons (s y : SR) (r : List SR) : putRest s (y :: r) = if SR.is s.num s.foot y = true then r else y :: r := rfl
theorem mem_put {L : List SR} (hs : L.Pairwise ltR) (a : SR) : (putR L a).Pairwise ltR ∧ ∀ x, x ∈ putR L a ↔ x = a ∨ (x ∈ L ∧ keyR x ≠ keyR a) := by
  have hp : ∀ x, aheadR a x = true ↔ ltR x a := ahead_iff a
  have hd := drop_not (lt := ltR) ltR_trans hp hs
  have hds : (L.dropWhile (aheadR a)).Pairwise ltR := hs.sublist (List.dropWhile_sublist _)
  -- what is kept behind it
  have key : (putRest a (L.dropWhile (aheadR a))).Sublist (L.dropWhile (aheadR a)) ∧ ∀ x, x ∈ putRest a (L.dropWhile (aheadR a)) ↔ x ∈ L.dropWhile (aheadR a) ∧ keyR x ≠ keyR a := by
    generalize L.dropWhile (aheadR a) = r at hd hds
    cases r with
    | nil => exact ⟨by simp [putRest], fun x => by simp [putRest]⟩
    | cons y r =>
      have hy := List.pairwise_cons.1 hds
      rw [putRest_cons]
      rcases Bool.eq_false_or_eq_true (SR.is a.num a.foot y) with hq | hq
      rotate_left
      · rw [if_neg (by rw [hq]; simp)]
        refine ⟨List.Sublist.refl _, fun x => ⟨fun hx => ⟨hx, fun e => ?_⟩, fun hx => hx.1⟩⟩
        have hyk : keyR y ≠ keyR a := fun e2 => by
          have : SR.is a.num a.foot y = true := is_iff.2 e2
          rw [hq] at this; cases this
        rcases List.mem_cons.1 hx with rfl | hx
        · exact hyk e
        · have h1 : ltR y x := hy.1 x hx
          have h2 : ¬ ltR y a := hd y (by simp)
          apply h2
          unfold ltR at h1 ⊢
          rw [← e]
          exact h1
      · rw [if_pos hq]
        have hyk : keyR y = keyR a := is_iff.1 hq
        refine ⟨List.sublist_cons_self _ _, fun x => ⟨fun hx => ⟨by simp [hx], fun e => ?_⟩, fun hx => ?_⟩⟩
        · exact ltR_ne (hy.1 x hx) (hyk.trans e.symm)
        · rcases List.mem_cons.1 hx.1 with rfl | h
          · exact absurd hyk hx.2
          · exact h
  refine ⟨ins_sorted ltR_trans hp hs key.1 fun x hx => ?_, fun x => ?_⟩
  · have h1 := (key.2 x).1 hx
    have h2 := hd x h1.1
    unfold ltR at h2 ⊢
    rcases Sess.ltS_tri (keyR a) (keyR x) with q | q | q
    · exact q
    · exact absurd q.symm h1.2
    · exact absurd q h2
  · unfold putR
    rw [List.mem_append, List.mem_cons, key.2]
    constructor
    · rintro (h | h | h)
      · exact .inr ⟨(List.takeWhile_sublist _).subset h, fun e => ltR_ne (take_lt hp x h) e⟩
      · exact .inl h
      · exact .inr ⟨(List.dropWhile_sublist _).subset h.1, h.2⟩
    · rintro (h | ⟨h1, h2⟩)
      · exact .inr (.inl h)
      · rw [← List.takeWhile_append_dropWhile (p := aheadR a) (l := L)] at h1
        rcases List.mem_append.1 h1 with h | h
        · exact .inl h
        · exact .inr (.inr ⟨h, h2⟩)
theorem Rel.put {ss ss' : List Ses} {L : List SR} {s' : Ses} {a' : SR} (h : Rel ss L) (hr : RelS s' a') (hn : (ss'.map keyE).Nodup) (hm : ∀ x, x ∈ ss' ↔ x = s' ∨ (x ∈ ss ∧ keyE x ≠ keyE s')) : Rel ss' (putR L a') := by
  obtain ⟨hsrt, hmem⟩ := mem_put h.srt a'
  have hk : keyE s' = keyR a' := by unfold keyE keyR; rw [hr.num, hr.foot]
  refine ⟨(List.perm_ext_iff_of_nodup hn (nodup_keys hsrt)).2 fun q => ?_, hsrt, fun s hs a ha e => ?_⟩
  · constructor
    · intro hq
      obtain ⟨x, hx, rfl⟩ := List.mem_map.1 hq
      rcases (hm x).1 hx with rfl | ⟨hx1, hx2⟩
      · exact List.mem_map.2 ⟨a', (hmem a').2 (.inl rfl), hk.symm⟩
      · obtain ⟨a, ha, hak⟩ := List.mem_map.1 (h.keys.mem_iff.1 (List.mem_map.2 ⟨x, hx1, rfl⟩))
        exact List.mem_map.2 ⟨a, (hmem a).2 (.inr ⟨ha, by rw [hak, ← hk]; exact hx2⟩), hak⟩
    · intro hq
      obtain ⟨a, ha, rfl⟩ := List.mem_map.1 hq
      rcases (hmem a).1 ha with rfl | ⟨ha1, ha2⟩
      · exact List.mem_map.2 ⟨s', (hm s').2 (.inl rfl), hk⟩
      · obtain ⟨x, hx, hxk⟩ := List.mem_map.1 (h.keys.mem_iff.2 (List.mem_map.2 ⟨a, ha1, rfl⟩))
        exact List.mem_map.2 ⟨x, (hm x).2 (.inr ⟨hx, by rw [hxk, hk]; exact ha2⟩), hxk⟩
  · rcases (hm s).1 hs with rfl | ⟨hs1, hs2⟩
    · rcases (hmem a).1 ha with rfl | ⟨_, ha2⟩
      · exact hr
      · exact absurd (e.symm.trans hk) ha2
    · rcases (hmem a).1 ha with rfl | ⟨ha1, _⟩
      · exact absurd (e.trans hk.symm) hs2
      · exact h.each s hs1 a ha1 e
/-- a session that was known -/
theorem Rel.put_old {l1 l2 : List Ses} {s s' : Ses} {L : List SR} {a' : SR} (h : Rel (l1 ++ s :: l2) L) (hk : keyE s' = keyE s) (hr : RelS s' a') : Rel (l1 ++ s' :: l2) (putR L a') := by
  have hn := h.nodupS
  have e : (l1 ++ s' :: l2).map keyE = (l1 ++ s :: l2).map keyE := by simp [hk]
  refine h.put hr (by rw [e]; exact hn) fun x => ?_
  have hp := List.pairwise_append.1 (List.pairwise_map.1 hn)
  have hc := List.pairwise_cons.1 hp.2.1
  rw [hk]
  constructor
  · intro hx
    rcases List.mem_append.1 hx with hx | hx
    · exact .inr ⟨by simp [hx], hp.2.2 x hx s (by simp)⟩
    · rcases List.mem_cons.1 hx with rfl | hx
      · exact .inl rfl
      · exact .inr ⟨by simp [hx], fun e => hc.1 x hx e.symm⟩
  · rintro (rfl | ⟨hx, hx2⟩)
    · simp
    · rcases List.mem_append.1 hx with hx | hx
      · simp [hx]
      · rcases List.mem_cons.1 hx with rfl | hx
        · exact absurd rfl hx2
        · simp [hx]
/-- a session that was not -/
theorem Rel.put_new {ss : List Ses} {s' : Ses} {L : List SR} {a' : SR} (h : Rel ss L) (hf : find ss s'.num s'.foot = none) (hr : RelS s' a') : Rel (ss ++ [s']) (putR L a') := by
  have hno : ∀ x ∈ ss, keyE x ≠ keyE s' := fun x hx e => List.find?_eq_none.1 hf x hx (is_key.2 e)
  refine h.put hr ?_ fun x => ?_
  · rw [List.map_append]
    refine List.pairwise_append.2 ⟨h.nodupS, by simp, fun p hp q hq => ?_⟩
    obtain ⟨x, hx, rfl⟩ := List.mem_map.1 hp
    have : q = keyE s' := by simpa using hq
    rw [this]
    exact hno x hx
  · constructor
    · intro hx
      rcases List.mem_append.1 hx with hx | hx
      · exact .inr ⟨hx, hno x hx⟩
      · exact .inl (by simpa using hx)
    · rintro (rfl | ⟨hx, _⟩) <;> simp [*]
theorem put_len {L : List SR} (a : SR) : (putR L a).length ≤ L.length + 1 := by
  unfold putR putRest
  have e := congrArg List.length (List.takeWhile_append_dropWhile (p := aheadR a) (l := L))
  simp only [List.length_append, List.length_cons] at e ⊢
  split
  · rw [List.length_tail]; omega
  · omega
end Go.Proofs.Ytnkddjomanaadaa.Lease
end

section
namespace Go.Proofs.Ytnkddjomanaadaa.Lease
open Go.RowKit
set_option linter.unusedSimpArgs false
set_option linter.unusedVariables false

/-- a session is turned: one that was known, or one that is known from now on -/
def Turned (ss : List Ses) (n : Int) (f : ByteArray) (g : Ses → Ses) (ss' : List Ses) : Prop :=
  (∃ l1 s l2, find ss n f = some s ∧ ss = l1 ++ s :: l2 ∧ ss' = l1 ++ g s :: l2) ∨ (find ss n f = none ∧ ∃ b t, ss' = ss ++ [g (fresh n f b t)])
def OpPost (w : World) (p m : Nat) (ss : List Ses) (n : Int) (f : ByteArray) (g : Ses → Ses) (ret : Value) (code : Int) (e : Ending) (w' : World) : Prop :=
  ∃ ss', e = .returned ret ∧ At [BookP p m ss] w [BookP p m ss'] w' ∧ (code ≠ 0 ∧ ss' = ss ∨ code = 0 ∧ Turned ss n f g ss')
theorem Rel.turned {ss ss' : List Ses} {L : List SR} {n : Int} {f : ByteArray} {g : Ses → Ses} {ga : SR → SR} (h : Rel ss L) (ht : Turned ss n f g ss') (hg : ∀ s, keyE (g s) = keyE s) (hr : ∀ s a, RelS s a → s = Lease.look ss n f ∨ find ss n f = none → a = findR L n f → RelS (g s) (ga a)) : Rel ss' (putR L (ga (findR L n f))) := by
  rcases ht with ⟨l1, s, l2, hf, rfl, rfl⟩ | ⟨hf, b, t, rfl⟩
  · rcases h.both n f with ⟨q, _, _⟩ | ⟨s', a, q1, q2, q3, q4, q5⟩
    · rw [q] at hf; cases hf
    · rw [q1] at hf
      cases hf
      rw [q4]
      exact h.put_old (hg s) (hr s a q5 (.inl (by unfold Lease.look; rw [q1]; rfl)) q4.symm)
  · rcases h.both n f with ⟨q, _, q3⟩ | ⟨s', a, q1, _⟩
    · rw [q3]
      have hk := hg (fresh n f b t)
      have h1 : (g (fresh n f b t)).num = n := congrArg Prod.fst hk
      have h2 : (g (fresh n f b t)).foot = f := congrArg Prod.snd hk
      exact h.put_new (by rw [h1, h2]; exact hf) (hr _ _ (RelS.none n f b t) (.inr q) q3.symm)
    · rw [q1] at hf; cases hf
section
variable {w : World} {p m : Nat} {ss : List Ses} {n : Int} {f : ByteArray}
theorem book_open (h : Sep [BookP p m ss] w) (h0 : 0 ≤ n) (h1 : n < big64) (hf : f.size ≤ maxLen) (hl : ss.length ≤ 1000000) (ttl time : Int) :
    Calls Try.prog 11 #[.pointer (some ⟨p, 0, none⟩), .agg #[.int .u64 n, .string f], .int .i64 ttl, .int .i64 time] w (OpPost w p m ss n f (fun s => s.opened ttl time) (.int .i64 (openE (look ss n f) (cnt ss f))) (openE (look ss n f) (cnt ss f))) := by
  by_cases he : openE (look ss n f) (cnt ss f) = 0
  · rw [he]
    have hd : (look ss n f).dead = false := by
      cases q : (look ss n f).dead
      · rfl
      · simp [openE, q] at he
    have ho : (look ss n f).op = false := by
      cases q : (look ss n f).op
      · rfl
      · simp [openE, hd, q] at he
    have hc : cnt ss f < 32 := by
      rcases Nat.lt_or_ge (cnt ss f) 32 with q | q
      · exact q
      · simp [openE, hd, ho, q] at he
    cases hn : find ss n f with
    | none =>
      refine (open_new h h0 h1 hf (by omega) ttl time hn hc).mono ?_
      rintro e w' ⟨b, t, rfl, hT⟩
      exact ⟨_, rfl, hT, .inr ⟨rfl, .inr ⟨hn, b, t, rfl⟩⟩⟩
    | some s =>
      have hk : look ss n f = s := by unfold look; rw [hn]; rfl
      rw [hk] at hd ho
      obtain ⟨l1, l2, rfl, _, _, _⟩ := find_split hn
      refine (open_old h h0 h1 hf (by omega) ttl time hn hc hd ho).mono ?_
      rintro e w' ⟨rfl, hT⟩
      exact ⟨_, rfl, hT, .inr ⟨rfl, .inl ⟨l1, s, l2, hn, rfl, rfl⟩⟩⟩
  · refine (open_no h h0 h1 hf (by omega) ttl time he).mono ?_
    rintro e w' ⟨rfl, hT⟩
    exact ⟨_, rfl, hT, .inl ⟨he, rfl⟩⟩
theorem look_split {b : Bool} (φ : Ses → Bool) (h0 : φ (fresh n f 0 0) ≠ b) (h : φ (look ss n f) = b) : ∃ s l1 l2, find ss n f = some s ∧ ss = l1 ++ s :: l2 ∧ φ s = b ∧ look ss n f = s := by
  cases hn : find ss n f with
  | none =>
    unfold look at h
    rw [hn] at h
    exact absurd h h0
  | some s =>
    obtain ⟨l1, l2, e, _, _, _⟩ := find_split hn
    have hk : look ss n f = s := by unfold look; rw [hn]; rfl
    exact ⟨s, l1, l2, rfl, e, by rw [← hk]; exact h, hk⟩
theorem book_keep (h : Sep [BookP p m ss] w) (h0 : 0 ≤ n) (h1 : n < big64) (hf : f.size ≤ maxLen) (time : Int) :
    Calls Try.prog 16 #[.pointer (some ⟨p, 0, none⟩), .agg #[.int .u64 n, .string f], .int .i64 time] w (OpPost w p m ss n f (fun s => s.kept time) (.int .i64 (if (look ss n f).op then 0 else 50)) (if (look ss n f).op then 0 else 50)) := by
  cases ho : (look ss n f).op
  · refine (keep_no h h0 h1 hf time ho).mono ?_
    rintro e w' ⟨rfl, hT⟩
    exact ⟨_, rfl, hT, .inl ⟨by simp, rfl⟩⟩
  · obtain ⟨s, l1, l2, hn, rfl, hs, _⟩ := look_split (fun s => s.op) (by simp [fresh]) ho
    refine (keep_yes h h0 h1 hf time hn hs).mono ?_
    rintro e w' ⟨rfl, hT⟩
    exact ⟨_, rfl, hT, .inr ⟨rfl, .inl ⟨l1, s, l2, hn, rfl, rfl⟩⟩⟩
theorem book_end (h : Sep [BookP p m ss] w) (h0 : 0 ≤ n) (h1 : n < big64) (hf : f.size ≤ maxLen) :
    Calls Try.prog 18 #[.pointer (some ⟨p, 0, none⟩), .agg #[.int .u64 n, .string f]] w (OpPost w p m ss n f Ses.ended (.int .i64 (if (look ss n f).op then 0 else 50)) (if (look ss n f).op then 0 else 50)) := by
  cases ho : (look ss n f).op
  · refine (end_no h h0 h1 hf ho).mono ?_
    rintro e w' ⟨rfl, hT⟩
    exact ⟨_, rfl, hT, .inl ⟨by simp, rfl⟩⟩
  · obtain ⟨s, l1, l2, hn, rfl, hs, _⟩ := look_split (fun s => s.op) (by simp [fresh]) ho
    refine (end_yes h h0 h1 hf hn hs).mono ?_
    rintro e w' ⟨rfl, hT⟩
    exact ⟨_, rfl, hT, .inr ⟨rfl, .inl ⟨l1, s, l2, hn, rfl, rfl⟩⟩⟩
def expB (s : Ses) (time : Int) : Int := if s.op then (if time < s.dl then 54 else 0) else 50
theorem book_expire (h : Sep [BookP p m ss] w) (h0 : 0 ≤ n) (h1 : n < big64) (hf : f.size ≤ maxLen) (time : Int) :
    Calls Try.prog 12 #[.pointer (some ⟨p, 0, none⟩), .agg #[.int .u64 n, .string f], .int .i64 time] w (OpPost w p m ss n f Ses.ended (.int .i64 (expB (look ss n f) time)) (expB (look ss n f) time)) := by
  cases ho : (look ss n f).op
  · refine (expire_no h h0 h1 hf time ho).mono ?_
    rintro e w' ⟨rfl, hT⟩
    have he : expB (look ss n f) time = 50 := by simp [expB, ho]
    rw [he]
    exact ⟨_, rfl, hT, .inl ⟨by simp, rfl⟩⟩
  · by_cases ht : time < (look ss n f).dl
    · refine (expire_early h h0 h1 hf time ho ht).mono ?_
      rintro e w' ⟨rfl, hT⟩
      have he : expB (look ss n f) time = 54 := by simp [expB, ho, ht]
      rw [he]
      exact ⟨_, rfl, hT, .inl ⟨by simp, rfl⟩⟩
    · have he : expB (look ss n f) time = 0 := by simp [expB, ho, ht]
      rw [he]
      obtain ⟨s, l1, l2, hn, rfl, hs, hk⟩ := look_split (fun s => s.op) (by simp [fresh]) ho
      rw [hk] at ht
      refine (expire_yes h h0 h1 hf time hn hs (by omega)).mono ?_
      rintro e w' ⟨rfl, hT⟩
      exact ⟨_, rfl, hT, .inr ⟨rfl, .inl ⟨l1, s, l2, hn, rfl, rfl⟩⟩⟩
def Ses.tell (s : Ses) (r : Int) (c : Ans) : Ses := { s with told := s.told ++ [(r, c)] }
def tellE (s : Ses) (r : Int) : Int := if (said s.told r).isSome then 1 else if 256 ≤ s.told.length then 1 else 0
theorem book_tell (h : Sep [BookP p m ss] w) (h0 : 0 ≤ n) (h1 : n < big64) (hf : f.size ≤ maxLen) {r : Int} (r0 : 0 ≤ r) (r1 : r < big64) (c : Ans) :
    Calls Try.prog 21 #[.pointer (some ⟨p, 0, none⟩), .agg #[.int .u64 n, .string f], .int .u64 r, .agg #[.int .i64 c.e, .int .u64 c.n, .bool c.g]] w (OpPost w p m ss n f (fun s => s.tell r c) (.tuple #[]) (tellE (look ss n f) r)) := by
  cases hn : find ss n f with
  | none =>
    have hk : look ss n f = fresh n f 0 0 := by unfold look; rw [hn]; rfl
    refine (tell_unknown h h0 h1 hf hn r0 r1 c).mono ?_
    rintro e w' ⟨b, t, rfl, hT⟩
    exact ⟨_, rfl, hT, .inr ⟨by rw [hk]; simp [tellE, fresh, said], .inr ⟨hn, b, t, rfl⟩⟩⟩
  | some s =>
    have hk : look ss n f = s := by unfold look; rw [hn]; rfl
    rw [hk]
    cases hs : said s.told r with
    | some a =>
      refine (tell_old h h0 h1 hf hn r0 r1 hs c).mono ?_
      rintro e w' ⟨rfl, hT⟩
      exact ⟨_, rfl, hT, .inl ⟨by simp [tellE, hs], rfl⟩⟩
    | none =>
      by_cases hl : s.told.length < 256
      · obtain ⟨l1, l2, rfl, _, _, _⟩ := find_split hn
        refine (tell_new h h0 h1 hf hn r0 r1 hs hl c).mono ?_
        rintro e w' ⟨rfl, hT⟩
        exact ⟨_, rfl, hT, .inr ⟨by simp [tellE, hs, Nat.not_le.2 hl], .inl ⟨l1, s, l2, hn, rfl, rfl⟩⟩⟩
      · refine (tell_full h h0 h1 hf hn r0 r1 hs hl c).mono ?_
        rintro e w' ⟨rfl, hT⟩
        exact ⟨_, rfl, hT, .inl ⟨by simp [tellE, hs, Nat.le_of_not_lt hl], rfl⟩⟩
end

/-! ### The two alike -/
section
variable {ss : List Ses} {L : List SR} {n : Int} {f : ByteArray} (h : Rel ss L)
include h
theorem Rel.openE : Lease.openE (Lease.look ss n f) (Lease.cnt ss f) = openRE (findR L n f) (cntR L f) := by
  have r := h.look n f
  unfold Lease.openE openRE
  rw [r.dead, r.op, h.cnt]
theorem Rel.expE (time : Int) : expB (Lease.look ss n f) time = Lease.expE (findR L n f) time := by
  have r := h.look n f
  unfold expB Lease.expE
  rw [r.op, r.dl]
theorem Rel.keepE : (if (Lease.look ss n f).op then (0 : Int) else 50) = if (findR L n f).op then 0 else 50 := by rw [(h.look n f).op]
end
theorem RelS.opened {s : Ses} {a : SR} (h : RelS s a) (ttl time : Int) (hd : a.dead = false) : RelS (s.opened ttl time) (a.opened ttl time) :=
  ⟨h.num, h.foot, rfl, hd.symm, rfl, rfl, h.told, cutI_bd ttl, cutI_bd _⟩
theorem cutI_self {t : Int} (h : 0 ≤ t ∧ t ≤ 2199023255552) : cutI t = t := by unfold cutI; rw [if_neg (by omega), if_neg (by omega)]
theorem RelS.kept {s : Ses} {a : SR} (h : RelS s a) (time : Int) : RelS (s.kept time) (a.kept time) := by
  have e : endI time s.ttl = cutI (cutI time + a.ttl) := by unfold endI; rw [h.ttl, cutI_self h.tb]
  refine ⟨h.num, h.foot, h.op, h.dead, ?_, h.ttl, h.told, h.tb, by
    have h1 := h.db
    have h2 := cutI_bd (cutI time + a.ttl)
    unfold SR.kept
    simp only
    split <;> omega⟩
  show (if s.dl < endI time s.ttl then endI time s.ttl else s.dl) = _
  rw [e, h.dl]
  rfl
theorem RelS.ended {s : Ses} {a : SR} (h : RelS s a) : RelS s.ended a.ended := ⟨h.num, h.foot, rfl, rfl, rfl, rfl, h.told, by simp [SR.ended], by simp [SR.ended]⟩
theorem RelS.tell {s : Ses} {a : SR} (h : RelS s a) {x : AR} (hn : saidA a.told x.r = Option.none) (hl : a.told.length < 256) (hb : 0 ≤ x.r ∧ x.r < big64) (ha : okA x) (ax : Option Addr) (cap : Nat) : RelS (s.tell x.r (arP x).2) { a with ax := ax, cap := cap, told := insA a.told x } :=
  ⟨h.num, h.foot, h.op, h.dead, h.dl, h.ttl, h.told.tell hn hl hb ha, h.tb, h.db⟩
theorem RelS.tellE {s : Ses} {a : SR} (h : RelS s a) (r : Int) : Lease.tellE s r = if (saidA a.told r).isSome then 1 else if 256 ≤ a.told.length then 1 else 0 := by
  unfold Lease.tellE
  rw [h.told.said, h.told.size]
  cases saidA a.told r <;> rfl
end Go.Proofs.Ytnkddjomanaadaa.Lease
end

section
namespace Go.Proofs.Ytnkddjomanaadaa.Lease
open Go.RowKit
set_option linter.unusedSimpArgs false
set_option linter.unusedVariables false

/-- the answers' rows: many, none of which is written any more -/
def poolL (PL : List (Value × List AR)) : List Part := PL.map fun q => rowA q.1 q.2
def poolP (PL : List (Value × List AR)) : Part := Part.all (poolL PL)
theorem eqvP (p1 p2 : List (Value × List AR)) (q : Value × List AR) (F : List Part) : Eqv (poolP (p1 ++ q :: p2) :: F) (rowA q.1 q.2 :: poolP (p1 ++ p2) :: F) := by
  refine (Eqv.all _ F).trans ?_
  have e1 : (poolL (p1 ++ q :: p2) ++ F).Perm (rowA q.1 q.2 :: (poolL (p1 ++ p2) ++ F)) := by
    simp only [poolL, List.map_append, List.map_cons, List.append_assoc, List.cons_append]
    exact List.perm_middle
  exact (Eqv.perm e1).trans (((Eqv.all (poolL (p1 ++ p2)) F).symm).cons _)
theorem eqvP1 (PL : List (Value × List AR)) (q : Value × List AR) (F : List Part) : Eqv (poolP (q :: PL) :: F) (rowA q.1 q.2 :: poolP PL :: F) := eqvP [] PL q F
structure Inv (ss : List Ses) (L : List SR) (PL : List (Value × List AR)) : Prop where
  rel : Rel ss L
  pool : ∀ a ∈ L, (a.tv, a.told) ∈ PL
  nil : ((.slice none 0 0 : Value), ([] : List AR)) ∈ PL
  fb : ∀ a ∈ L, a.foot.size ≤ 2000000
theorem findR_mem {L : List SR} {n : Int} {f : ByteArray} : findR L n f ∈ L ∨ findR L n f = noSR n f := by
  unfold findR
  cases h : L.find? (SR.is n f) with
  | none => exact .inr rfl
  | some a => exact .inl (List.mem_of_find?_eq_some h)
theorem findR_key {L : List SR} {n : Int} {f : ByteArray} : (findR L n f).num = n ∧ (findR L n f).foot = f := by
  unfold findR
  cases h : L.find? (SR.is n f) with
  | none => exact ⟨rfl, rfl⟩
  | some a =>
    have := is_iff.1 (List.find?_some h)
    exact ⟨congrArg Prod.fst this, congrArg Prod.snd this⟩
theorem Inv.found {ss : List Ses} {L : List SR} {PL : List (Value × List AR)} (h : Inv ss L PL) (n : Int) (f : ByteArray) : ((findR L n f).tv, (findR L n f).told) ∈ PL := by
  rcases findR_mem (L := L) (n := n) (f := f) with q | q
  · exact h.pool _ q
  · rw [q]; exact h.nil
theorem Inv.put {ss ss' : List Ses} {L : List SR} {PL PL' : List (Value × List AR)} (h : Inv ss L PL) {a' : SR} (hr : Rel ss' (putR L a')) (hs : ∀ q ∈ PL, q ∈ PL') (ha : (a'.tv, a'.told) ∈ PL') (hfb : a'.foot.size ≤ 2000000) : Inv ss' (putR L a') PL' := by
  refine ⟨hr, fun a hm => ?_, hs _ h.nil, fun a hm => by
    rcases ((mem_put h.rel.srt a').2 a).1 hm with rfl | ⟨hm, _⟩
    · exact hfb
    · exact h.fb a hm⟩
  rcases ((mem_put h.rel.srt a').2 a).1 hm with rfl | ⟨hm, _⟩
  · exact ha
  · exact hs _ (h.pool a hm)
/-- Tell, the pool beside it -/
def DocTell (w : World) (v : Value) (L : List SR) (PL : List (Value × List AR)) (s : SR) (x : AR) (code : Int) (e : Ending) (w' : World) : Prop :=
  (code ≠ 0 ∧ e = .returned (.agg #[v]) ∧ At [rowR v L, poolP PL] w [rowR v L, poolP PL] w') ∨
  (code = 0 ∧ ∃ v' ax cap, e = .returned (.agg #[v']) ∧ At [rowR v L, poolP PL] w [rowR v' (putR L { s with ax := ax, cap := cap, told := insA s.told x }), poolP ((SR.tv { s with ax := ax, cap := cap, told := insA s.told x }, insA s.told x) :: PL)] w')
theorem doc_tell {w : World} {v : Value} {L : List SR} {PL : List (Value × List AR)} {s : SR} (h : Sep [rowR v L, poolP PL] w) (hs : (s.tv, s.told) ∈ PL) (x : AR) (hmax : L.length ≤ 1000000) (hl : s.told.length ≤ 256) {code : Int} (hc : code = if (saidA s.told x.r).isSome then 1 else if 256 ≤ s.told.length then 1 else 0) :
    Calls Try.prog 22 #[.agg #[v], .agg s.cells.toArray, .agg x.cells.toArray] w (DocTell w v L PL s x code) := by
  obtain ⟨p1, p2, rfl⟩ := List.append_of_mem hs
  have hA := (At.start h).pick (K := [poolP (p1 ++ (s.tv, s.told) :: p2), rowR v L]) (by with_reducible repeat (first | exact Picks.nil | refine Picks.cons (by with_reducible repeat (first | exact Sel.here | apply Sel.there)) ?_))
  have hB := hA.to (eqvP p1 p2 (s.tv, s.told) [rowR v L])
  clear hA
  have back : ∀ {L1 : List SR} {v1 : Value} {w1 : World}, At [rowR v L, poolP (p1 ++ (s.tv, s.told) :: p2)] w [rowA s.tv s.told, poolP (p1 ++ p2), rowR v1 L1] w1 → At [rowR v L, poolP (p1 ++ (s.tv, s.told) :: p2)] w [rowR v1 L1, poolP (p1 ++ (s.tv, s.told) :: p2)] w1 := fun hX => (hX.to (eqvP p1 p2 (s.tv, s.told) [rowR _ _]).symm).pick (by with_reducible repeat (first | exact Picks.nil | refine Picks.cons (by with_reducible repeat (first | exact Sel.here | apply Sel.there)) ?_))
  by_cases hno : saidA s.told x.r = none ∧ s.told.length < 256
  · have hc0 : code = 0 := by rw [hc, hno.1, if_neg (by simp), if_neg (by omega)]
    refine (tellR_yes (hB.seps (by with_reducible repeat (first | exact Picks.nil | refine Picks.cons (by with_reducible repeat (first | exact Sel.here | apply Sel.there)) ?_))) x hmax hno.1 hno.2).mono ?_
    rintro e w1 ⟨v', ax, cap, rfl, hT⟩
    have hC := hB.call2 (by with_reducible repeat (first | exact Sel.here | apply Sel.there)) (by with_reducible repeat (first | exact Sel.here | apply Sel.there)) hT
    simp only [List.cons_append, List.nil_append] at hC
    refine .inr ⟨hc0, v', ax, cap, rfl, ?_⟩
    have hD := back (hC.pick (K := [rowA s.tv s.told, poolP (p1 ++ p2), rowR _ _]) (by with_reducible repeat (first | exact Picks.nil | refine Picks.cons (by with_reducible repeat (first | exact Sel.here | apply Sel.there)) ?_)))
    have hE := hC.pick (K := [rowA s.tv s.told, poolP (p1 ++ p2), rowA (SR.tv { s with ax := ax, cap := cap, told := insA s.told x }) (insA s.told x), rowR v' (putR L { s with ax := ax, cap := cap, told := insA s.told x })]) (by repeat (first | exact Picks.nil | refine Picks.cons (by repeat (first | exact Sel.here | apply Sel.there)) ?_))
    have hG := (hE.to (eqvP p1 p2 (s.tv, s.told) [rowA _ _, rowR _ _]).symm).pick (K := [rowA (SR.tv { s with ax := ax, cap := cap, told := insA s.told x }) (insA s.told x), poolP (p1 ++ (s.tv, s.told) :: p2), rowR v' (putR L { s with ax := ax, cap := cap, told := insA s.told x })]) (by repeat (first | exact Picks.nil | refine Picks.cons (by repeat (first | exact Sel.here | apply Sel.there)) ?_))
    exact (hG.to (eqvP1 (p1 ++ (s.tv, s.told) :: p2) (SR.tv { s with ax := ax, cap := cap, told := insA s.told x }, insA s.told x) [rowR _ _]).symm).pick (by repeat (first | exact Picks.nil | refine Picks.cons (by repeat (first | exact Sel.here | apply Sel.there)) ?_))
  · have hc1 : code ≠ 0 := by
      rw [hc]
      cases hs : saidA s.told x.r with
      | some a => simp
      | none => rw [if_neg (by simp), if_pos (by have : ¬ s.told.length < 256 := fun q => hno ⟨hs, q⟩; omega)]; simp
    refine (tellR_no (hB.seps (by with_reducible repeat (first | exact Picks.nil | refine Picks.cons (by with_reducible repeat (first | exact Sel.here | apply Sel.there)) ?_))) x (by omega) (by
      cases hs : saidA s.told x.r with
      | some a => exact .inl rfl
      | none => exact .inr (by have : ¬ s.told.length < 256 := fun q => hno ⟨hs, q⟩; omega))).mono ?_
    rintro e w1 ⟨rfl, hT⟩
    have hC := hB.call2 (by with_reducible repeat (first | exact Sel.here | apply Sel.there)) (by with_reducible repeat (first | exact Sel.here | apply Sel.there)) hT
    simp only [List.cons_append, List.nil_append] at hC
    exact .inl ⟨hc1, rfl, back (hC.pick (by with_reducible repeat (first | exact Picks.nil | refine Picks.cons (by with_reducible repeat (first | exact Sel.here | apply Sel.there)) ?_)))⟩

/-- a step, as data -/
structure OpR where
  a : Int
  b : Int
  many : Int
  num : Int
  foot : ByteArray
  req : Int
  ans : Ans
def opV (k : Int) (o : OpR) : Value := .agg #[.int .i64 k, .int .i64 o.a, .int .i64 o.b, .int .i64 o.many, .int .u64 o.num, .string o.foot, .int .u64 o.req, .int .i64 o.ans.e, .int .u64 o.ans.n, .bool o.ans.g]
structure OpR.Ok (o : OpR) : Prop where
  n0 : 0 ≤ o.num
  n1 : o.num < big64
  f : o.foot.size ≤ maxLen
  f2 : o.foot.size ≤ 2000000
  an : okA ⟨0, o.ans.e, o.ans.n, o.ans.g⟩
  r0 : 0 ≤ o.req
  r1 : o.req < big64
def StepOut (w : World) (p m : Nat) (ss : List Ses) (v : Value) (L : List SR) (PL : List (Value × List AR)) (e : Ending) (w' : World) : Prop :=
  ∃ ss' v' L' PL', e = .returned (.tuple #[.agg #[v'], .bool true]) ∧ At [BookP p m ss, rowR v L, poolP PL] w [BookP p m ss', rowR v' L', poolP PL'] w' ∧ Inv ss' L' PL' ∧ L'.length ≤ L.length + 300
set_option maxRecDepth 100000 in
set_option maxHeartbeats 4000000 in
theorem step_none {w : World} {p m : Nat} {ss : List Ses} {v : Value} {L : List SR} {PL : List (Value × List AR)} (h : Sep [BookP p m ss, rowR v L, poolP PL] w) (hI : Inv ss L PL) (o : OpR) (ho : o.Ok) (hmax : L.length ≤ 100000) (k : Int) (h1 : k ≠ 1) (h2 : k ≠ 2) (h3 : k ≠ 3) (h4 : k ≠ 4) (h5 : k ≠ 5) (h6 : k ≠ 6) (h7 : k ≠ 7) :
    Calls Try.prog 6 #[.pointer (some ⟨p, 0, none⟩), .agg #[v], opV k o] w (StepOut w p m ss v L PL) := by
  have g1 : (k == 1) = false := by simpa using h1
  have g2 : (k == 2) = false := by simpa using h2
  have g3 : (k == 3) = false := by simpa using h3
  have g4 : (k == 4) = false := by simpa using h4
  have g5 : (k == 5) = false := by simpa using h5
  have g6 : (k == 6) = false := by simpa using h6
  have g7 : (k == 7) = false := by simpa using h7
  have hA := At.start h
  have hF := hA.facts
  clear h
  obtain ⟨vx, vn, vc, hv, hvn⟩ := hA.row_hid (v := v) (n := L.length) (xs := flatR L) (by with_reducible repeat (first | exact Sel.here | apply Sel.there))
  subst hv
  have hss : ss.length ≤ 100000 := by rw [hI.rel.len]; exact hmax
  obtain ⟨s, hs⟩ : ∃ s, findR L o.num o.foot = s := ⟨_, rfl⟩
  have hs' := Lib.hid hs
  have hrs : RelS (look ss o.num o.foot) s := by rw [← hs]; exact hI.rel.look _ _
  have hfs := Lib.hid (show s.foot.size ≤ 2000000 from by rw [← hs, findR_key.2]; exact ho.f2)
  have hpool : (s.tv, s.told) ∈ PL := by rw [← hs]; exact hI.found _ _
  have hsk : s.num = o.num ∧ s.foot = o.foot := by rw [← hs]; exact findR_key
  have hrs' := Lib.hid hrs
  have hpool' := Lib.hid hpool
  have hsk' := Lib.hid hsk
  have hI' := Lib.hid hI
  have ho' := Lib.hid ho
  clear hs hrs hpool hsk hI ho
  unfold opV
  go_enter Try.func6, Try.ntmps6
  go_wp2_with (first | ((with_reducible show wpList _ _ _ ({ dst := _, op := Op.box _ _, type := _, pos := _, after := _, guard := _ } :: _) _ _); refine wpList_box_at (E := 28) rfl rfl (by (try simp only [Act.eval, Array.getD_eq_getD_getElem?, List.getElem?_toArray, List.getElem?_cons_succ, List.getElem?_cons_zero, Option.getD_some]) <;> exact rfl) (by exact rfl) hA ?_; intro bB w1 hB hbB; clear hF hA; have hA := hB; clear hB; (try simp only [setL, List.set_cons_zero, List.set_cons_succ, List.cons_append, List.nil_append] at hA); (have hF := hA.facts); (try simp only [facts_cons, facts_nil, facts_cells, facts_old, facts_fact, facts_obj, facts_map, facts_iter, and_true, true_and] at hF)) | ((with_reducible show wpList _ _ _ ({ dst := _, op := Op.box _ _, type := _, pos := _, after := _, guard := _ } :: _) _ _); refine wpList_box_at (E := 36) rfl rfl (by (try simp only [Act.eval, Array.getD_eq_getD_getElem?, List.getElem?_toArray, List.getElem?_cons_succ, List.getElem?_cons_zero, Option.getD_some]) <;> exact rfl) (by exact rfl) hA ?_; intro bO w1 hB hbO; clear hF hA; have hA := hB; clear hB; (try simp only [setL, List.set_cons_zero, List.set_cons_succ, List.cons_append, List.nil_append] at hA); (have hF := hA.facts); (try simp only [facts_cons, facts_nil, facts_cells, facts_old, facts_fact, facts_obj, facts_map, facts_iter, and_true, true_and] at hF)) | ((with_reducible show wpList _ _ _ ({ dst := _, op := Op.alloc _, type := _, pos := _, after := _, guard := _ } :: _) _ _); refine wpList_alloc_at (E := 28) (z := .agg #[.slice none 0 0]) (vs := [.slice none 0 0]) rfl rfl (by kernel_rfl) rfl hA ?_; intro bZ w1 hB hbZ; clear hF hA; have hA := hB; clear hB; (try simp only [setL, List.set_cons_zero, List.set_cons_succ, List.cons_append, List.nil_append] at hA); (have hF := hA.facts); (try simp only [facts_cons, facts_nil, facts_cells, facts_old, facts_fact, facts_obj, facts_map, facts_iter, and_true, true_and] at hF)) | ((with_reducible show wpList _ _ _ ({ dst := _, op := Op.store _ _ _, type := _, pos := _, after := _, guard := _ } :: _) _ _); refine wpList_store_at rfl rfl rfl (by (try simp only [Act.eval, Array.getD_eq_getD_getElem?, List.getElem?_toArray, List.getElem?_cons_succ, List.getElem?_cons_zero, Option.getD_some]) <;> exact rfl) (by exact rfl) hA (by with_reducible repeat (first | exact Sel.here | apply Sel.there)) (by kernel_rfl) rfl (by first | decide | (simp; done) | omega) ?_; intro w1 hB; clear hF hA; have hA := hB; clear hB; (try simp only [setL, List.set_cons_zero, List.set_cons_succ, List.cons_append, List.nil_append] at hA); (have hF := hA.facts); (try simp only [facts_cons, facts_nil, facts_cells, facts_old, facts_fact, facts_obj, facts_map, facts_iter, and_true, true_and] at hF)) | ((with_reducible show wpList _ _ _ ({ dst := _, op := Op.box _ _, type := _, pos := _, after := _, guard := _ } :: _) _ _); refine wpList_box_at rfl rfl (by (try simp only [Act.eval, Array.getD_eq_getD_getElem?, List.getElem?_toArray, List.getElem?_cons_succ, List.getElem?_cons_zero, Option.getD_some]) <;> exact rfl) (by exact rfl) hA ?_; intro b1 w1 hB hb1; clear hF hA; have hA := hB; clear hB; (try simp only [setL, List.set_cons_zero, List.set_cons_succ, List.cons_append, List.nil_append] at hA); (have hF := hA.facts); (try simp only [facts_cons, facts_nil, facts_cells, facts_old, facts_fact, facts_obj, facts_map, facts_iter, and_true, true_and] at hF)))
  refine (findR_any (hA.sep1 (by with_reducible repeat (first | exact Sel.here | apply Sel.there))) o.num o.foot (by omega)).mono ?_
  rw [hs'.out]
  rintro e w1 ⟨rfl, hT⟩; have hB := hA.call1 (by with_reducible repeat (first | exact Sel.here | apply Sel.there)) hT; clear hF hA hT; have hA := hB; clear hB; (try simp only [setL, List.set_cons_zero, List.set_cons_succ, List.cons_append, List.nil_append] at hA); (have hF := hA.facts); (try simp only [facts_cons, facts_nil, facts_cells, facts_old, facts_fact, facts_obj, facts_map, facts_iter, and_true, true_and] at hF)
  go_wp2_with (first | ((with_reducible show wpList _ _ _ ({ dst := _, op := Op.alloc _, type := _, pos := _, after := _, guard := _ } :: _) _ _); refine wpList_alloc_at (E := 47) (z := .agg #[.int .u64 0, .string .empty, .bool false, .bool false, .int .i64 0, .int .i64 0, .slice none 0 0]) (vs := [.int .u64 0, .string .empty, .bool false, .bool false, .int .i64 0, .int .i64 0, .slice none 0 0]) rfl rfl (by kernel_rfl) rfl hA ?_; intro bS w1 hB hbS; clear hF hA; have hA := hB; clear hB; (try simp only [setL, List.set_cons_zero, List.set_cons_succ, List.cons_append, List.nil_append] at hA); (have hF := hA.facts); (try simp only [facts_cons, facts_nil, facts_cells, facts_old, facts_fact, facts_obj, facts_map, facts_iter, and_true, true_and] at hF)) | ((with_reducible show wpList _ _ _ ({ dst := _, op := Op.alloc _, type := _, pos := _, after := _, guard := _ } :: _) _ _); refine wpList_alloc_at (E := 61) (z := .agg #[.int .u64 0, .int .i64 0, .int .u64 0, .bool false]) (vs := [.int .u64 0, .int .i64 0, .int .u64 0, .bool false]) rfl rfl (by kernel_rfl) rfl hA ?_; intro bA w1 hB hbA; clear hF hA; have hA := hB; clear hB; (try simp only [setL, List.set_cons_zero, List.set_cons_succ, List.cons_append, List.nil_append] at hA); (have hF := hA.facts); (try simp only [facts_cons, facts_nil, facts_cells, facts_old, facts_fact, facts_obj, facts_map, facts_iter, and_true, true_and] at hF)) | (refine wpList_store_at (b := bS) (j := 0) (vs := SR.cells s) rfl rfl rfl (by (try simp only [Act.eval, Array.getD_eq_getD_getElem?, List.getElem?_toArray, List.getElem?_cons_succ, List.getElem?_cons_zero, Option.getD_some]) <;> exact rfl) (by exact rfl) hA (by with_reducible repeat (first | exact Sel.here | apply Sel.there)) (by kernel_rfl) (SR.ones _) (by show 0 + 7 ≤ 7; omega) ?_; intro w1 hB; clear hF hA; have hA := hB; clear hB; simp only [SR.cells] at hA; (try simp only [setL, List.set_cons_zero, List.set_cons_succ, List.cons_append, List.nil_append] at hA); (have hF := hA.facts); (try simp only [facts_cons, facts_nil, facts_cells, facts_old, facts_fact, facts_obj, facts_map, facts_iter, and_true, true_and] at hF)) | ((with_reducible show wpList _ _ _ ({ dst := _, op := Op.store _ _ _, type := _, pos := _, after := _, guard := _ } :: _) _ _); refine wpList_store_at rfl rfl rfl (by (try simp only [Act.eval, Array.getD_eq_getD_getElem?, List.getElem?_toArray, List.getElem?_cons_succ, List.getElem?_cons_zero, Option.getD_some]) <;> exact rfl) (by exact rfl) hA (by with_reducible repeat (first | exact Sel.here | apply Sel.there)) (by kernel_rfl) rfl (by first | decide | (simp; done) | omega) ?_; intro w1 hB; clear hF hA; have hA := hB; clear hB; (try simp only [setL, List.set_cons_zero, List.set_cons_succ, List.cons_append, List.nil_append] at hA); (have hF := hA.facts); (try simp only [facts_cons, facts_nil, facts_cells, facts_old, facts_fact, facts_obj, facts_map, facts_iter, and_true, true_and] at hF)) | ((with_reducible show wpList _ _ _ ({ dst := _, op := Op.box _ _, type := _, pos := _, after := _, guard := _ } :: _) _ _); refine wpList_box_at rfl rfl (by (try simp only [Act.eval, Array.getD_eq_getD_getElem?, List.getElem?_toArray, List.getElem?_cons_succ, List.getElem?_cons_zero, Option.getD_some]) <;> exact rfl) (by exact rfl) hA ?_; intro b1 w1 hB hb1; clear hF hA; have hA := hB; clear hB; (try simp only [setL, List.set_cons_zero, List.set_cons_succ, List.cons_append, List.nil_append] at hA); (have hF := hA.facts); (try simp only [facts_cons, facts_nil, facts_cells, facts_old, facts_fact, facts_obj, facts_map, facts_iter, and_true, true_and] at hF)))
  refine bodyPost_ret (v := .tuple #[.agg #[.slice vx vn vc], .bool true]) (by simp [results, Try.results6, go_sem, hF]) rfl ?_
  exact ⟨ss, _, L, PL, rfl, hA.pick (by with_reducible repeat (first | exact Picks.nil | refine Picks.cons (by with_reducible repeat (first | exact Sel.here | apply Sel.there)) ?_)), hI'.out, by omega⟩
set_option maxRecDepth 100000 in
set_option maxHeartbeats 4000000 in
theorem step_1 {w : World} {p m : Nat} {ss : List Ses} {v : Value} {L : List SR} {PL : List (Value × List AR)} (h : Sep [BookP p m ss, rowR v L, poolP PL] w) (hI : Inv ss L PL) (o : OpR) (ho : o.Ok) (hmax : L.length ≤ 100000) :
    Calls Try.prog 6 #[.pointer (some ⟨p, 0, none⟩), .agg #[v], opV 1 o] w (StepOut w p m ss v L PL) := by
  have hA := At.start h
  have hF := hA.facts
  clear h
  obtain ⟨vx, vn, vc, hv, hvn⟩ := hA.row_hid (v := v) (n := L.length) (xs := flatR L) (by with_reducible repeat (first | exact Sel.here | apply Sel.there))
  subst hv
  have hss : ss.length ≤ 100000 := by rw [hI.rel.len]; exact hmax
  obtain ⟨s, hs⟩ : ∃ s, findR L o.num o.foot = s := ⟨_, rfl⟩
  have hs' := Lib.hid hs
  have hrs : RelS (look ss o.num o.foot) s := by rw [← hs]; exact hI.rel.look _ _
  have hfs := Lib.hid (show s.foot.size ≤ 2000000 from by rw [← hs, findR_key.2]; exact ho.f2)
  have hpool : (s.tv, s.told) ∈ PL := by rw [← hs]; exact hI.found _ _
  have hsk : s.num = o.num ∧ s.foot = o.foot := by rw [← hs]; exact findR_key
  have hrs' := Lib.hid hrs
  have hpool' := Lib.hid hpool
  have hsk' := Lib.hid hsk
  have hI' := Lib.hid hI
  have ho' := Lib.hid ho
  clear hs hrs hpool hsk hI ho
  unfold opV
  go_enter Try.func6, Try.ntmps6
  go_wp2_with (first | ((with_reducible show wpList _ _ _ ({ dst := _, op := Op.box _ _, type := _, pos := _, after := _, guard := _ } :: _) _ _); refine wpList_box_at (E := 28) rfl rfl (by (try simp only [Act.eval, Array.getD_eq_getD_getElem?, List.getElem?_toArray, List.getElem?_cons_succ, List.getElem?_cons_zero, Option.getD_some]) <;> exact rfl) (by exact rfl) hA ?_; intro bB w1 hB hbB; clear hF hA; have hA := hB; clear hB; (try simp only [setL, List.set_cons_zero, List.set_cons_succ, List.cons_append, List.nil_append] at hA); (have hF := hA.facts); (try simp only [facts_cons, facts_nil, facts_cells, facts_old, facts_fact, facts_obj, facts_map, facts_iter, and_true, true_and] at hF)) | ((with_reducible show wpList _ _ _ ({ dst := _, op := Op.box _ _, type := _, pos := _, after := _, guard := _ } :: _) _ _); refine wpList_box_at (E := 36) rfl rfl (by (try simp only [Act.eval, Array.getD_eq_getD_getElem?, List.getElem?_toArray, List.getElem?_cons_succ, List.getElem?_cons_zero, Option.getD_some]) <;> exact rfl) (by exact rfl) hA ?_; intro bO w1 hB hbO; clear hF hA; have hA := hB; clear hB; (try simp only [setL, List.set_cons_zero, List.set_cons_succ, List.cons_append, List.nil_append] at hA); (have hF := hA.facts); (try simp only [facts_cons, facts_nil, facts_cells, facts_old, facts_fact, facts_obj, facts_map, facts_iter, and_true, true_and] at hF)) | ((with_reducible show wpList _ _ _ ({ dst := _, op := Op.alloc _, type := _, pos := _, after := _, guard := _ } :: _) _ _); refine wpList_alloc_at (E := 28) (z := .agg #[.slice none 0 0]) (vs := [.slice none 0 0]) rfl rfl (by kernel_rfl) rfl hA ?_; intro bZ w1 hB hbZ; clear hF hA; have hA := hB; clear hB; (try simp only [setL, List.set_cons_zero, List.set_cons_succ, List.cons_append, List.nil_append] at hA); (have hF := hA.facts); (try simp only [facts_cons, facts_nil, facts_cells, facts_old, facts_fact, facts_obj, facts_map, facts_iter, and_true, true_and] at hF)) | ((with_reducible show wpList _ _ _ ({ dst := _, op := Op.store _ _ _, type := _, pos := _, after := _, guard := _ } :: _) _ _); refine wpList_store_at rfl rfl rfl (by (try simp only [Act.eval, Array.getD_eq_getD_getElem?, List.getElem?_toArray, List.getElem?_cons_succ, List.getElem?_cons_zero, Option.getD_some]) <;> exact rfl) (by exact rfl) hA (by with_reducible repeat (first | exact Sel.here | apply Sel.there)) (by kernel_rfl) rfl (by first | decide | (simp; done) | omega) ?_; intro w1 hB; clear hF hA; have hA := hB; clear hB; (try simp only [setL, List.set_cons_zero, List.set_cons_succ, List.cons_append, List.nil_append] at hA); (have hF := hA.facts); (try simp only [facts_cons, facts_nil, facts_cells, facts_old, facts_fact, facts_obj, facts_map, facts_iter, and_true, true_and] at hF)) | ((with_reducible show wpList _ _ _ ({ dst := _, op := Op.box _ _, type := _, pos := _, after := _, guard := _ } :: _) _ _); refine wpList_box_at rfl rfl (by (try simp only [Act.eval, Array.getD_eq_getD_getElem?, List.getElem?_toArray, List.getElem?_cons_succ, List.getElem?_cons_zero, Option.getD_some]) <;> exact rfl) (by exact rfl) hA ?_; intro b1 w1 hB hb1; clear hF hA; have hA := hB; clear hB; (try simp only [setL, List.set_cons_zero, List.set_cons_succ, List.cons_append, List.nil_append] at hA); (have hF := hA.facts); (try simp only [facts_cons, facts_nil, facts_cells, facts_old, facts_fact, facts_obj, facts_map, facts_iter, and_true, true_and] at hF)))
  refine (findR_any (hA.sep1 (by with_reducible repeat (first | exact Sel.here | apply Sel.there))) o.num o.foot (by omega)).mono ?_
  rw [hs'.out]
  rintro e w1 ⟨rfl, hT⟩; have hB := hA.call1 (by with_reducible repeat (first | exact Sel.here | apply Sel.there)) hT; clear hF hA hT; have hA := hB; clear hB; (try simp only [setL, List.set_cons_zero, List.set_cons_succ, List.cons_append, List.nil_append] at hA); (have hF := hA.facts); (try simp only [facts_cons, facts_nil, facts_cells, facts_old, facts_fact, facts_obj, facts_map, facts_iter, and_true, true_and] at hF)
  go_wp2_with (first | ((with_reducible show wpList _ _ _ ({ dst := _, op := Op.alloc _, type := _, pos := _, after := _, guard := _ } :: _) _ _); refine wpList_alloc_at (E := 47) (z := .agg #[.int .u64 0, .string .empty, .bool false, .bool false, .int .i64 0, .int .i64 0, .slice none 0 0]) (vs := [.int .u64 0, .string .empty, .bool false, .bool false, .int .i64 0, .int .i64 0, .slice none 0 0]) rfl rfl (by kernel_rfl) rfl hA ?_; intro bS w1 hB hbS; clear hF hA; have hA := hB; clear hB; (try simp only [setL, List.set_cons_zero, List.set_cons_succ, List.cons_append, List.nil_append] at hA); (have hF := hA.facts); (try simp only [facts_cons, facts_nil, facts_cells, facts_old, facts_fact, facts_obj, facts_map, facts_iter, and_true, true_and] at hF)) | ((with_reducible show wpList _ _ _ ({ dst := _, op := Op.alloc _, type := _, pos := _, after := _, guard := _ } :: _) _ _); refine wpList_alloc_at (E := 61) (z := .agg #[.int .u64 0, .int .i64 0, .int .u64 0, .bool false]) (vs := [.int .u64 0, .int .i64 0, .int .u64 0, .bool false]) rfl rfl (by kernel_rfl) rfl hA ?_; intro bA w1 hB hbA; clear hF hA; have hA := hB; clear hB; (try simp only [setL, List.set_cons_zero, List.set_cons_succ, List.cons_append, List.nil_append] at hA); (have hF := hA.facts); (try simp only [facts_cons, facts_nil, facts_cells, facts_old, facts_fact, facts_obj, facts_map, facts_iter, and_true, true_and] at hF)) | (refine wpList_store_at (b := bS) (j := 0) (vs := SR.cells s) rfl rfl rfl (by (try simp only [Act.eval, Array.getD_eq_getD_getElem?, List.getElem?_toArray, List.getElem?_cons_succ, List.getElem?_cons_zero, Option.getD_some]) <;> exact rfl) (by exact rfl) hA (by with_reducible repeat (first | exact Sel.here | apply Sel.there)) (by kernel_rfl) (SR.ones _) (by show 0 + 7 ≤ 7; omega) ?_; intro w1 hB; clear hF hA; have hA := hB; clear hB; simp only [SR.cells] at hA; (try simp only [setL, List.set_cons_zero, List.set_cons_succ, List.cons_append, List.nil_append] at hA); (have hF := hA.facts); (try simp only [facts_cons, facts_nil, facts_cells, facts_old, facts_fact, facts_obj, facts_map, facts_iter, and_true, true_and] at hF)) | ((with_reducible show wpList _ _ _ ({ dst := _, op := Op.store _ _ _, type := _, pos := _, after := _, guard := _ } :: _) _ _); refine wpList_store_at rfl rfl rfl (by (try simp only [Act.eval, Array.getD_eq_getD_getElem?, List.getElem?_toArray, List.getElem?_cons_succ, List.getElem?_cons_zero, Option.getD_some]) <;> exact rfl) (by exact rfl) hA (by with_reducible repeat (first | exact Sel.here | apply Sel.there)) (by kernel_rfl) rfl (by first | decide | (simp; done) | omega) ?_; intro w1 hB; clear hF hA; have hA := hB; clear hB; (try simp only [setL, List.set_cons_zero, List.set_cons_succ, List.cons_append, List.nil_append] at hA); (have hF := hA.facts); (try simp only [facts_cons, facts_nil, facts_cells, facts_old, facts_fact, facts_obj, facts_map, facts_iter, and_true, true_and] at hF)) | ((with_reducible show wpList _ _ _ ({ dst := _, op := Op.box _ _, type := _, pos := _, after := _, guard := _ } :: _) _ _); refine wpList_box_at rfl rfl (by (try simp only [Act.eval, Array.getD_eq_getD_getElem?, List.getElem?_toArray, List.getElem?_cons_succ, List.getElem?_cons_zero, Option.getD_some]) <;> exact rfl) (by exact rfl) hA ?_; intro b1 w1 hB hb1; clear hF hA; have hA := hB; clear hB; (try simp only [setL, List.set_cons_zero, List.set_cons_succ, List.cons_append, List.nil_append] at hA); (have hF := hA.facts); (try simp only [facts_cons, facts_nil, facts_cells, facts_old, facts_fact, facts_obj, facts_map, facts_iter, and_true, true_and] at hF)))
  have hb := book_open (hA.sep1 (by with_reducible repeat (first | exact Sel.here | apply Sel.there))) ho'.out.n0 ho'.out.n1 ho'.out.f (by omega) o.a o.b
  rw [hI'.out.rel.openE (n := o.num) (f := o.foot), hs'.out] at hb
  generalize hcd : openRE s (cntR L o.foot) = c at *
  have hcd' := Lib.hid hcd
  clear hcd
  refine hb.mono ?_
  clear hb
  rintro e w1 ⟨ss', rfl, hT, hcase⟩
  have hB := hA.call1 (by with_reducible repeat (first | exact Sel.here | apply Sel.there)) hT
  clear hF hA hT
  have hA := hB
  clear hB
  simp only [List.cons_append, List.nil_append] at hA
  have hF := hA.facts
  (try simp only [setL, List.set_cons_zero, List.set_cons_succ, List.cons_append, List.nil_append] at hA); (have hF := hA.facts); (try simp only [facts_cons, facts_nil, facts_cells, facts_old, facts_fact, facts_obj, facts_map, facts_iter, and_true, true_and] at hF)
  go_wp2_with (first | ((with_reducible show wpList _ _ _ ({ dst := _, op := Op.store _ _ _, type := _, pos := _, after := _, guard := _ } :: _) _ _); refine wpList_store_at rfl rfl rfl (by (try simp only [Act.eval, Array.getD_eq_getD_getElem?, List.getElem?_toArray, List.getElem?_cons_succ, List.getElem?_cons_zero, Option.getD_some]) <;> exact rfl) (by exact rfl) hA (by with_reducible repeat (first | exact Sel.here | apply Sel.there)) (by kernel_rfl) rfl (by first | decide | (simp; done) | omega) ?_; intro w1 hB; clear hF hA; have hA := hB; clear hB; (try simp only [setL, List.set_cons_zero, List.set_cons_succ, List.cons_append, List.nil_append] at hA); (have hF := hA.facts); (try simp only [facts_cons, facts_nil, facts_cells, facts_old, facts_fact, facts_obj, facts_map, facts_iter, and_true, true_and] at hF)) | ((with_reducible show wpList _ _ _ ({ dst := _, op := Op.box _ _, type := _, pos := _, after := _, guard := _ } :: _) _ _); refine wpList_box_at rfl rfl (by (try simp only [Act.eval, Array.getD_eq_getD_getElem?, List.getElem?_toArray, List.getElem?_cons_succ, List.getElem?_cons_zero, Option.getD_some]) <;> exact rfl) (by exact rfl) hA ?_; intro b1 w1 hB hb1; clear hF hA; have hA := hB; clear hB; (try simp only [setL, List.set_cons_zero, List.set_cons_succ, List.cons_append, List.nil_append] at hA); (have hF := hA.facts); (try simp only [facts_cons, facts_nil, facts_cells, facts_old, facts_fact, facts_obj, facts_map, facts_iter, and_true, true_and] at hF)))
  have hd := openR_any (hA.sep1 (by with_reducible repeat (first | exact Sel.here | apply Sel.there))) s o.a o.b (by omega)
  unfold OpenPostR at hd
  simp only [hsk'.out.2, hcd'.out] at hd
  refine hd.mono ?_
  clear hd
  rintro e w1 (⟨hc, rfl, hT⟩ | ⟨hc, v', rfl, hT⟩)
  · have hss' : ss' = ss := by
      rcases hcase with ⟨_, q⟩ | ⟨q, _⟩
      · exact q
      · exact absurd q hc
    subst hss'
    have hB := hA.call1 (by with_reducible repeat (first | exact Sel.here | apply Sel.there)) hT
    clear hF hA hT hcase
    have hc' := Lib.hid hc
    clear hc
    have hA := hB
    clear hB
    simp only [List.cons_append, List.nil_append] at hA
    have hF := hA.facts
    (try simp only [setL, List.set_cons_zero, List.set_cons_succ, List.cons_append, List.nil_append] at hA); (have hF := hA.facts); (try simp only [facts_cons, facts_nil, facts_cells, facts_old, facts_fact, facts_obj, facts_map, facts_iter, and_true, true_and] at hF)
    go_wp2_with (first | ((with_reducible show wpList _ _ _ ({ dst := _, op := Op.store _ _ _, type := _, pos := _, after := _, guard := _ } :: _) _ _); refine wpList_store_at rfl rfl rfl (by (try simp only [Act.eval, Array.getD_eq_getD_getElem?, List.getElem?_toArray, List.getElem?_cons_succ, List.getElem?_cons_zero, Option.getD_some]) <;> exact rfl) (by exact rfl) hA (by with_reducible repeat (first | exact Sel.here | apply Sel.there)) (by kernel_rfl) rfl (by first | decide | (simp; done) | omega) ?_; intro w1 hB; clear hF hA; have hA := hB; clear hB; (try simp only [setL, List.set_cons_zero, List.set_cons_succ, List.cons_append, List.nil_append] at hA); (have hF := hA.facts); (try simp only [facts_cons, facts_nil, facts_cells, facts_old, facts_fact, facts_obj, facts_map, facts_iter, and_true, true_and] at hF)) | ((with_reducible show wpList _ _ _ ({ dst := _, op := Op.box _ _, type := _, pos := _, after := _, guard := _ } :: _) _ _); refine wpList_box_at rfl rfl (by (try simp only [Act.eval, Array.getD_eq_getD_getElem?, List.getElem?_toArray, List.getElem?_cons_succ, List.getElem?_cons_zero, Option.getD_some]) <;> exact rfl) (by exact rfl) hA ?_; intro b1 w1 hB hb1; clear hF hA; have hA := hB; clear hB; (try simp only [setL, List.set_cons_zero, List.set_cons_succ, List.cons_append, List.nil_append] at hA); (have hF := hA.facts); (try simp only [facts_cons, facts_nil, facts_cells, facts_old, facts_fact, facts_obj, facts_map, facts_iter, and_true, true_and] at hF)))
    refine bodyPost_ret (v := .tuple #[.agg #[.slice vx vn vc], .bool true]) (by simp [results, Try.results6, go_sem, hF]) rfl ?_
    exact ⟨_, _, L, PL, rfl, hA.pick (by with_reducible repeat (first | exact Picks.nil | refine Picks.cons (by with_reducible repeat (first | exact Sel.here | apply Sel.there)) ?_)), hI'.out, by omega⟩
  · have hturn : Turned ss o.num o.foot (fun s => s.opened o.a o.b) ss' := by
      rcases hcase with ⟨q, _⟩ | ⟨_, q⟩
      · exact absurd hc q
      · exact q
    have hturn' := Lib.hid hturn
    subst hc
    have hB := hA.call1 (by with_reducible repeat (first | exact Sel.here | apply Sel.there)) hT
    clear hF hA hT hcase hturn
    obtain ⟨ax4, n4, cap4, hv4, hn4⟩ := hB.row_hid .here
    subst hv4
    have hA := hB
    clear hB
    simp only [List.cons_append, List.nil_append] at hA
    have hF := hA.facts
    (try simp only [setL, List.set_cons_zero, List.set_cons_succ, List.cons_append, List.nil_append] at hA); (have hF := hA.facts); (try simp only [facts_cons, facts_nil, facts_cells, facts_old, facts_fact, facts_obj, facts_map, facts_iter, and_true, true_and] at hF)
    go_wp2_with (first | ((with_reducible show wpList _ _ _ ({ dst := _, op := Op.store _ _ _, type := _, pos := _, after := _, guard := _ } :: _) _ _); refine wpList_store_at rfl rfl rfl (by (try simp only [Act.eval, Array.getD_eq_getD_getElem?, List.getElem?_toArray, List.getElem?_cons_succ, List.getElem?_cons_zero, Option.getD_some]) <;> exact rfl) (by exact rfl) hA (by with_reducible repeat (first | exact Sel.here | apply Sel.there)) (by kernel_rfl) rfl (by first | decide | (simp; done) | omega) ?_; intro w1 hB; clear hF hA; have hA := hB; clear hB; (try simp only [setL, List.set_cons_zero, List.set_cons_succ, List.cons_append, List.nil_append] at hA); (have hF := hA.facts); (try simp only [facts_cons, facts_nil, facts_cells, facts_old, facts_fact, facts_obj, facts_map, facts_iter, and_true, true_and] at hF)) | ((with_reducible show wpList _ _ _ ({ dst := _, op := Op.box _ _, type := _, pos := _, after := _, guard := _ } :: _) _ _); refine wpList_box_at rfl rfl (by (try simp only [Act.eval, Array.getD_eq_getD_getElem?, List.getElem?_toArray, List.getElem?_cons_succ, List.getElem?_cons_zero, Option.getD_some]) <;> exact rfl) (by exact rfl) hA ?_; intro b1 w1 hB hb1; clear hF hA; have hA := hB; clear hB; (try simp only [setL, List.set_cons_zero, List.set_cons_succ, List.cons_append, List.nil_append] at hA); (have hF := hA.facts); (try simp only [facts_cons, facts_nil, facts_cells, facts_old, facts_fact, facts_obj, facts_map, facts_iter, and_true, true_and] at hF)))
    refine bodyPost_ret (v := .tuple #[.agg #[.slice ax4 n4 cap4], .bool true]) (by simp [results, Try.results6, go_sem, hF]) rfl ?_
    have hrel : Rel ss' (putR L (s.opened o.a o.b)) := by
      have hdd : s.dead = false := by
        cases q : s.dead
        · rfl
        · have := hcd'.out; simp [openRE, q] at this
      have := hI'.out.rel.turned (ga := fun a => a.opened o.a o.b) hturn'.out (fun _ => rfl) (fun s1 a1 r1 _ ea => r1.opened o.a o.b (by rw [ea, hs'.out]; exact hdd))
      rw [hs'.out] at this
      exact this
    exact ⟨ss', _, _, PL, rfl, hA.pick (by with_reducible repeat (first | exact Picks.nil | refine Picks.cons (by with_reducible repeat (first | exact Sel.here | apply Sel.there)) ?_)), hI'.out.put hrel (fun _ q => q) hpool'.out hfs.out, by have := put_len (L := L) (s.opened o.a o.b); omega⟩
set_option maxRecDepth 100000 in
set_option maxHeartbeats 4000000 in
theorem step_2 {w : World} {p m : Nat} {ss : List Ses} {v : Value} {L : List SR} {PL : List (Value × List AR)} (h : Sep [BookP p m ss, rowR v L, poolP PL] w) (hI : Inv ss L PL) (o : OpR) (ho : o.Ok) (hmax : L.length ≤ 100000) :
    Calls Try.prog 6 #[.pointer (some ⟨p, 0, none⟩), .agg #[v], opV 2 o] w (StepOut w p m ss v L PL) := by
  have hA := At.start h
  have hF := hA.facts
  clear h
  obtain ⟨vx, vn, vc, hv, hvn⟩ := hA.row_hid (v := v) (n := L.length) (xs := flatR L) (by with_reducible repeat (first | exact Sel.here | apply Sel.there))
  subst hv
  have hss : ss.length ≤ 100000 := by rw [hI.rel.len]; exact hmax
  obtain ⟨s, hs⟩ : ∃ s, findR L o.num o.foot = s := ⟨_, rfl⟩
  have hs' := Lib.hid hs
  have hrs : RelS (look ss o.num o.foot) s := by rw [← hs]; exact hI.rel.look _ _
  have hfs := Lib.hid (show s.foot.size ≤ 2000000 from by rw [← hs, findR_key.2]; exact ho.f2)
  have hpool : (s.tv, s.told) ∈ PL := by rw [← hs]; exact hI.found _ _
  have hsk : s.num = o.num ∧ s.foot = o.foot := by rw [← hs]; exact findR_key
  have hrs' := Lib.hid hrs
  have hpool' := Lib.hid hpool
  have hsk' := Lib.hid hsk
  have hI' := Lib.hid hI
  have ho' := Lib.hid ho
  clear hs hrs hpool hsk hI ho
  unfold opV
  go_enter Try.func6, Try.ntmps6
  go_wp2_with (first | ((with_reducible show wpList _ _ _ ({ dst := _, op := Op.box _ _, type := _, pos := _, after := _, guard := _ } :: _) _ _); refine wpList_box_at (E := 28) rfl rfl (by (try simp only [Act.eval, Array.getD_eq_getD_getElem?, List.getElem?_toArray, List.getElem?_cons_succ, List.getElem?_cons_zero, Option.getD_some]) <;> exact rfl) (by exact rfl) hA ?_; intro bB w1 hB hbB; clear hF hA; have hA := hB; clear hB; (try simp only [setL, List.set_cons_zero, List.set_cons_succ, List.cons_append, List.nil_append] at hA); (have hF := hA.facts); (try simp only [facts_cons, facts_nil, facts_cells, facts_old, facts_fact, facts_obj, facts_map, facts_iter, and_true, true_and] at hF)) | ((with_reducible show wpList _ _ _ ({ dst := _, op := Op.box _ _, type := _, pos := _, after := _, guard := _ } :: _) _ _); refine wpList_box_at (E := 36) rfl rfl (by (try simp only [Act.eval, Array.getD_eq_getD_getElem?, List.getElem?_toArray, List.getElem?_cons_succ, List.getElem?_cons_zero, Option.getD_some]) <;> exact rfl) (by exact rfl) hA ?_; intro bO w1 hB hbO; clear hF hA; have hA := hB; clear hB; (try simp only [setL, List.set_cons_zero, List.set_cons_succ, List.cons_append, List.nil_append] at hA); (have hF := hA.facts); (try simp only [facts_cons, facts_nil, facts_cells, facts_old, facts_fact, facts_obj, facts_map, facts_iter, and_true, true_and] at hF)) | ((with_reducible show wpList _ _ _ ({ dst := _, op := Op.alloc _, type := _, pos := _, after := _, guard := _ } :: _) _ _); refine wpList_alloc_at (E := 28) (z := .agg #[.slice none 0 0]) (vs := [.slice none 0 0]) rfl rfl (by kernel_rfl) rfl hA ?_; intro bZ w1 hB hbZ; clear hF hA; have hA := hB; clear hB; (try simp only [setL, List.set_cons_zero, List.set_cons_succ, List.cons_append, List.nil_append] at hA); (have hF := hA.facts); (try simp only [facts_cons, facts_nil, facts_cells, facts_old, facts_fact, facts_obj, facts_map, facts_iter, and_true, true_and] at hF)) | ((with_reducible show wpList _ _ _ ({ dst := _, op := Op.store _ _ _, type := _, pos := _, after := _, guard := _ } :: _) _ _); refine wpList_store_at rfl rfl rfl (by (try simp only [Act.eval, Array.getD_eq_getD_getElem?, List.getElem?_toArray, List.getElem?_cons_succ, List.getElem?_cons_zero, Option.getD_some]) <;> exact rfl) (by exact rfl) hA (by with_reducible repeat (first | exact Sel.here | apply Sel.there)) (by kernel_rfl) rfl (by first | decide | (simp; done) | omega) ?_; intro w1 hB; clear hF hA; have hA := hB; clear hB; (try simp only [setL, List.set_cons_zero, List.set_cons_succ, List.cons_append, List.nil_append] at hA); (have hF := hA.facts); (try simp only [facts_cons, facts_nil, facts_cells, facts_old, facts_fact, facts_obj, facts_map, facts_iter, and_true, true_and] at hF)) | ((with_reducible show wpList _ _ _ ({ dst := _, op := Op.box _ _, type := _, pos := _, after := _, guard := _ } :: _) _ _); refine wpList_box_at rfl rfl (by (try simp only [Act.eval, Array.getD_eq_getD_getElem?, List.getElem?_toArray, List.getElem?_cons_succ, List.getElem?_cons_zero, Option.getD_some]) <;> exact rfl) (by exact rfl) hA ?_; intro b1 w1 hB hb1; clear hF hA; have hA := hB; clear hB; (try simp only [setL, List.set_cons_zero, List.set_cons_succ, List.cons_append, List.nil_append] at hA); (have hF := hA.facts); (try simp only [facts_cons, facts_nil, facts_cells, facts_old, facts_fact, facts_obj, facts_map, facts_iter, and_true, true_and] at hF)))
  refine (findR_any (hA.sep1 (by with_reducible repeat (first | exact Sel.here | apply Sel.there))) o.num o.foot (by omega)).mono ?_
  rw [hs'.out]
  rintro e w1 ⟨rfl, hT⟩; have hB := hA.call1 (by with_reducible repeat (first | exact Sel.here | apply Sel.there)) hT; clear hF hA hT; have hA := hB; clear hB; (try simp only [setL, List.set_cons_zero, List.set_cons_succ, List.cons_append, List.nil_append] at hA); (have hF := hA.facts); (try simp only [facts_cons, facts_nil, facts_cells, facts_old, facts_fact, facts_obj, facts_map, facts_iter, and_true, true_and] at hF)
  go_wp2_with (first | ((with_reducible show wpList _ _ _ ({ dst := _, op := Op.alloc _, type := _, pos := _, after := _, guard := _ } :: _) _ _); refine wpList_alloc_at (E := 47) (z := .agg #[.int .u64 0, .string .empty, .bool false, .bool false, .int .i64 0, .int .i64 0, .slice none 0 0]) (vs := [.int .u64 0, .string .empty, .bool false, .bool false, .int .i64 0, .int .i64 0, .slice none 0 0]) rfl rfl (by kernel_rfl) rfl hA ?_; intro bS w1 hB hbS; clear hF hA; have hA := hB; clear hB; (try simp only [setL, List.set_cons_zero, List.set_cons_succ, List.cons_append, List.nil_append] at hA); (have hF := hA.facts); (try simp only [facts_cons, facts_nil, facts_cells, facts_old, facts_fact, facts_obj, facts_map, facts_iter, and_true, true_and] at hF)) | ((with_reducible show wpList _ _ _ ({ dst := _, op := Op.alloc _, type := _, pos := _, after := _, guard := _ } :: _) _ _); refine wpList_alloc_at (E := 61) (z := .agg #[.int .u64 0, .int .i64 0, .int .u64 0, .bool false]) (vs := [.int .u64 0, .int .i64 0, .int .u64 0, .bool false]) rfl rfl (by kernel_rfl) rfl hA ?_; intro bA w1 hB hbA; clear hF hA; have hA := hB; clear hB; (try simp only [setL, List.set_cons_zero, List.set_cons_succ, List.cons_append, List.nil_append] at hA); (have hF := hA.facts); (try simp only [facts_cons, facts_nil, facts_cells, facts_old, facts_fact, facts_obj, facts_map, facts_iter, and_true, true_and] at hF)) | (refine wpList_store_at (b := bS) (j := 0) (vs := SR.cells s) rfl rfl rfl (by (try simp only [Act.eval, Array.getD_eq_getD_getElem?, List.getElem?_toArray, List.getElem?_cons_succ, List.getElem?_cons_zero, Option.getD_some]) <;> exact rfl) (by exact rfl) hA (by with_reducible repeat (first | exact Sel.here | apply Sel.there)) (by kernel_rfl) (SR.ones _) (by show 0 + 7 ≤ 7; omega) ?_; intro w1 hB; clear hF hA; have hA := hB; clear hB; simp only [SR.cells] at hA; (try simp only [setL, List.set_cons_zero, List.set_cons_succ, List.cons_append, List.nil_append] at hA); (have hF := hA.facts); (try simp only [facts_cons, facts_nil, facts_cells, facts_old, facts_fact, facts_obj, facts_map, facts_iter, and_true, true_and] at hF)) | ((with_reducible show wpList _ _ _ ({ dst := _, op := Op.store _ _ _, type := _, pos := _, after := _, guard := _ } :: _) _ _); refine wpList_store_at rfl rfl rfl (by (try simp only [Act.eval, Array.getD_eq_getD_getElem?, List.getElem?_toArray, List.getElem?_cons_succ, List.getElem?_cons_zero, Option.getD_some]) <;> exact rfl) (by exact rfl) hA (by with_reducible repeat (first | exact Sel.here | apply Sel.there)) (by kernel_rfl) rfl (by first | decide | (simp; done) | omega) ?_; intro w1 hB; clear hF hA; have hA := hB; clear hB; (try simp only [setL, List.set_cons_zero, List.set_cons_succ, List.cons_append, List.nil_append] at hA); (have hF := hA.facts); (try simp only [facts_cons, facts_nil, facts_cells, facts_old, facts_fact, facts_obj, facts_map, facts_iter, and_true, true_and] at hF)) | ((with_reducible show wpList _ _ _ ({ dst := _, op := Op.box _ _, type := _, pos := _, after := _, guard := _ } :: _) _ _); refine wpList_box_at rfl rfl (by (try simp only [Act.eval, Array.getD_eq_getD_getElem?, List.getElem?_toArray, List.getElem?_cons_succ, List.getElem?_cons_zero, Option.getD_some]) <;> exact rfl) (by exact rfl) hA ?_; intro b1 w1 hB hb1; clear hF hA; have hA := hB; clear hB; (try simp only [setL, List.set_cons_zero, List.set_cons_succ, List.cons_append, List.nil_append] at hA); (have hF := hA.facts); (try simp only [facts_cons, facts_nil, facts_cells, facts_old, facts_fact, facts_obj, facts_map, facts_iter, and_true, true_and] at hF)))
  have hb := book_keep (hA.sep1 (by with_reducible repeat (first | exact Sel.here | apply Sel.there))) ho'.out.n0 ho'.out.n1 ho'.out.f o.a
  rw [hI'.out.rel.keepE (n := o.num) (f := o.foot), hs'.out] at hb
  generalize hcd : (if s.op = true then (0 : Int) else 50) = c at *
  have hcd' := Lib.hid hcd
  clear hcd
  refine hb.mono ?_
  clear hb
  rintro e w1 ⟨ss', rfl, hT, hcase⟩
  have hB := hA.call1 (by with_reducible repeat (first | exact Sel.here | apply Sel.there)) hT
  clear hF hA hT
  have hA := hB
  clear hB
  simp only [List.cons_append, List.nil_append] at hA
  have hF := hA.facts
  (try simp only [setL, List.set_cons_zero, List.set_cons_succ, List.cons_append, List.nil_append] at hA); (have hF := hA.facts); (try simp only [facts_cons, facts_nil, facts_cells, facts_old, facts_fact, facts_obj, facts_map, facts_iter, and_true, true_and] at hF)
  go_wp2_with (first | ((with_reducible show wpList _ _ _ ({ dst := _, op := Op.store _ _ _, type := _, pos := _, after := _, guard := _ } :: _) _ _); refine wpList_store_at rfl rfl rfl (by (try simp only [Act.eval, Array.getD_eq_getD_getElem?, List.getElem?_toArray, List.getElem?_cons_succ, List.getElem?_cons_zero, Option.getD_some]) <;> exact rfl) (by exact rfl) hA (by with_reducible repeat (first | exact Sel.here | apply Sel.there)) (by kernel_rfl) rfl (by first | decide | (simp; done) | omega) ?_; intro w1 hB; clear hF hA; have hA := hB; clear hB; (try simp only [setL, List.set_cons_zero, List.set_cons_succ, List.cons_append, List.nil_append] at hA); (have hF := hA.facts); (try simp only [facts_cons, facts_nil, facts_cells, facts_old, facts_fact, facts_obj, facts_map, facts_iter, and_true, true_and] at hF)) | ((with_reducible show wpList _ _ _ ({ dst := _, op := Op.box _ _, type := _, pos := _, after := _, guard := _ } :: _) _ _); refine wpList_box_at rfl rfl (by (try simp only [Act.eval, Array.getD_eq_getD_getElem?, List.getElem?_toArray, List.getElem?_cons_succ, List.getElem?_cons_zero, Option.getD_some]) <;> exact rfl) (by exact rfl) hA ?_; intro b1 w1 hB hb1; clear hF hA; have hA := hB; clear hB; (try simp only [setL, List.set_cons_zero, List.set_cons_succ, List.cons_append, List.nil_append] at hA); (have hF := hA.facts); (try simp only [facts_cons, facts_nil, facts_cells, facts_old, facts_fact, facts_obj, facts_map, facts_iter, and_true, true_and] at hF)))
  have hd := keepR_any (hA.sep1 (by with_reducible repeat (first | exact Sel.here | apply Sel.there))) s o.a hrs'.out.tb.1 hrs'.out.tb.2 (by omega)
  rw [hcd'.out] at hd
  refine hd.mono ?_
  clear hd
  rintro e w1 (⟨hc, rfl, hT⟩ | ⟨hc, v', rfl, hT⟩)
  · have hss' : ss' = ss := by
      rcases hcase with ⟨_, q⟩ | ⟨q, _⟩
      · exact q
      · exact absurd q hc
    subst hss'
    have hB := hA.call1 (by with_reducible repeat (first | exact Sel.here | apply Sel.there)) hT
    clear hF hA hT hcase
    have hc' := Lib.hid hc
    clear hc
    have hA := hB
    clear hB
    simp only [List.cons_append, List.nil_append] at hA
    have hF := hA.facts
    (try simp only [setL, List.set_cons_zero, List.set_cons_succ, List.cons_append, List.nil_append] at hA); (have hF := hA.facts); (try simp only [facts_cons, facts_nil, facts_cells, facts_old, facts_fact, facts_obj, facts_map, facts_iter, and_true, true_and] at hF)
    go_wp2_with (first | ((with_reducible show wpList _ _ _ ({ dst := _, op := Op.store _ _ _, type := _, pos := _, after := _, guard := _ } :: _) _ _); refine wpList_store_at rfl rfl rfl (by (try simp only [Act.eval, Array.getD_eq_getD_getElem?, List.getElem?_toArray, List.getElem?_cons_succ, List.getElem?_cons_zero, Option.getD_some]) <;> exact rfl) (by exact rfl) hA (by with_reducible repeat (first | exact Sel.here | apply Sel.there)) (by kernel_rfl) rfl (by first | decide | (simp; done) | omega) ?_; intro w1 hB; clear hF hA; have hA := hB; clear hB; (try simp only [setL, List.set_cons_zero, List.set_cons_succ, List.cons_append, List.nil_append] at hA); (have hF := hA.facts); (try simp only [facts_cons, facts_nil, facts_cells, facts_old, facts_fact, facts_obj, facts_map, facts_iter, and_true, true_and] at hF)) | ((with_reducible show wpList _ _ _ ({ dst := _, op := Op.box _ _, type := _, pos := _, after := _, guard := _ } :: _) _ _); refine wpList_box_at rfl rfl (by (try simp only [Act.eval, Array.getD_eq_getD_getElem?, List.getElem?_toArray, List.getElem?_cons_succ, List.getElem?_cons_zero, Option.getD_some]) <;> exact rfl) (by exact rfl) hA ?_; intro b1 w1 hB hb1; clear hF hA; have hA := hB; clear hB; (try simp only [setL, List.set_cons_zero, List.set_cons_succ, List.cons_append, List.nil_append] at hA); (have hF := hA.facts); (try simp only [facts_cons, facts_nil, facts_cells, facts_old, facts_fact, facts_obj, facts_map, facts_iter, and_true, true_and] at hF)))
    refine bodyPost_ret (v := .tuple #[.agg #[.slice vx vn vc], .bool true]) (by simp [results, Try.results6, go_sem, hF]) rfl ?_
    exact ⟨_, _, L, PL, rfl, hA.pick (by with_reducible repeat (first | exact Picks.nil | refine Picks.cons (by with_reducible repeat (first | exact Sel.here | apply Sel.there)) ?_)), hI'.out, by omega⟩
  · have hturn : Turned ss o.num o.foot (fun s => s.kept o.a) ss' := by
      rcases hcase with ⟨q, _⟩ | ⟨_, q⟩
      · exact absurd hc q
      · exact q
    have hturn' := Lib.hid hturn
    subst hc
    have hB := hA.call1 (by with_reducible repeat (first | exact Sel.here | apply Sel.there)) hT
    clear hF hA hT hcase hturn
    obtain ⟨ax4, n4, cap4, hv4, hn4⟩ := hB.row_hid .here
    subst hv4
    have hA := hB
    clear hB
    simp only [List.cons_append, List.nil_append] at hA
    have hF := hA.facts
    (try simp only [setL, List.set_cons_zero, List.set_cons_succ, List.cons_append, List.nil_append] at hA); (have hF := hA.facts); (try simp only [facts_cons, facts_nil, facts_cells, facts_old, facts_fact, facts_obj, facts_map, facts_iter, and_true, true_and] at hF)
    go_wp2_with (first | ((with_reducible show wpList _ _ _ ({ dst := _, op := Op.store _ _ _, type := _, pos := _, after := _, guard := _ } :: _) _ _); refine wpList_store_at rfl rfl rfl (by (try simp only [Act.eval, Array.getD_eq_getD_getElem?, List.getElem?_toArray, List.getElem?_cons_succ, List.getElem?_cons_zero, Option.getD_some]) <;> exact rfl) (by exact rfl) hA (by with_reducible repeat (first | exact Sel.here | apply Sel.there)) (by kernel_rfl) rfl (by first | decide | (simp; done) | omega) ?_; intro w1 hB; clear hF hA; have hA := hB; clear hB; (try simp only [setL, List.set_cons_zero, List.set_cons_succ, List.cons_append, List.nil_append] at hA); (have hF := hA.facts); (try simp only [facts_cons, facts_nil, facts_cells, facts_old, facts_fact, facts_obj, facts_map, facts_iter, and_true, true_and] at hF)) | ((with_reducible show wpList _ _ _ ({ dst := _, op := Op.box _ _, type := _, pos := _, after := _, guard := _ } :: _) _ _); refine wpList_box_at rfl rfl (by (try simp only [Act.eval, Array.getD_eq_getD_getElem?, List.getElem?_toArray, List.getElem?_cons_succ, List.getElem?_cons_zero, Option.getD_some]) <;> exact rfl) (by exact rfl) hA ?_; intro b1 w1 hB hb1; clear hF hA; have hA := hB; clear hB; (try simp only [setL, List.set_cons_zero, List.set_cons_succ, List.cons_append, List.nil_append] at hA); (have hF := hA.facts); (try simp only [facts_cons, facts_nil, facts_cells, facts_old, facts_fact, facts_obj, facts_map, facts_iter, and_true, true_and] at hF)))
    refine bodyPost_ret (v := .tuple #[.agg #[.slice ax4 n4 cap4], .bool true]) (by simp [results, Try.results6, go_sem, hF]) rfl ?_
    have hrel : Rel ss' (putR L (s.kept o.a)) := by
      have := hI'.out.rel.turned (ga := fun a => a.kept o.a) hturn'.out (fun _ => rfl) (fun s1 a1 r1 _ ea => r1.kept o.a)
      rw [hs'.out] at this
      exact this
    exact ⟨ss', _, _, PL, rfl, hA.pick (by with_reducible repeat (first | exact Picks.nil | refine Picks.cons (by with_reducible repeat (first | exact Sel.here | apply Sel.there)) ?_)), hI'.out.put hrel (fun _ q => q) hpool'.out hfs.out, by have := put_len (L := L) (s.kept o.a); omega⟩
set_option maxRecDepth 100000 in
set_option maxHeartbeats 4000000 in
theorem step_3 {w : World} {p m : Nat} {ss : List Ses} {v : Value} {L : List SR} {PL : List (Value × List AR)} (h : Sep [BookP p m ss, rowR v L, poolP PL] w) (hI : Inv ss L PL) (o : OpR) (ho : o.Ok) (hmax : L.length ≤ 100000) :
    Calls Try.prog 6 #[.pointer (some ⟨p, 0, none⟩), .agg #[v], opV 3 o] w (StepOut w p m ss v L PL) := by
  have hA := At.start h
  have hF := hA.facts
  clear h
  obtain ⟨vx, vn, vc, hv, hvn⟩ := hA.row_hid (v := v) (n := L.length) (xs := flatR L) (by with_reducible repeat (first | exact Sel.here | apply Sel.there))
  subst hv
  have hss : ss.length ≤ 100000 := by rw [hI.rel.len]; exact hmax
  obtain ⟨s, hs⟩ : ∃ s, findR L o.num o.foot = s := ⟨_, rfl⟩
  have hs' := Lib.hid hs
  have hrs : RelS (look ss o.num o.foot) s := by rw [← hs]; exact hI.rel.look _ _
  have hfs := Lib.hid (show s.foot.size ≤ 2000000 from by rw [← hs, findR_key.2]; exact ho.f2)
  have hpool : (s.tv, s.told) ∈ PL := by rw [← hs]; exact hI.found _ _
  have hsk : s.num = o.num ∧ s.foot = o.foot := by rw [← hs]; exact findR_key
  have hrs' := Lib.hid hrs
  have hpool' := Lib.hid hpool
  have hsk' := Lib.hid hsk
  have hI' := Lib.hid hI
  have ho' := Lib.hid ho
  clear hs hrs hpool hsk hI ho
  unfold opV
  go_enter Try.func6, Try.ntmps6
  go_wp2_with (first | ((with_reducible show wpList _ _ _ ({ dst := _, op := Op.box _ _, type := _, pos := _, after := _, guard := _ } :: _) _ _); refine wpList_box_at (E := 28) rfl rfl (by (try simp only [Act.eval, Array.getD_eq_getD_getElem?, List.getElem?_toArray, List.getElem?_cons_succ, List.getElem?_cons_zero, Option.getD_some]) <;> exact rfl) (by exact rfl) hA ?_; intro bB w1 hB hbB; clear hF hA; have hA := hB; clear hB; (try simp only [setL, List.set_cons_zero, List.set_cons_succ, List.cons_append, List.nil_append] at hA); (have hF := hA.facts); (try simp only [facts_cons, facts_nil, facts_cells, facts_old, facts_fact, facts_obj, facts_map, facts_iter, and_true, true_and] at hF)) | ((with_reducible show wpList _ _ _ ({ dst := _, op := Op.box _ _, type := _, pos := _, after := _, guard := _ } :: _) _ _); refine wpList_box_at (E := 36) rfl rfl (by (try simp only [Act.eval, Array.getD_eq_getD_getElem?, List.getElem?_toArray, List.getElem?_cons_succ, List.getElem?_cons_zero, Option.getD_some]) <;> exact rfl) (by exact rfl) hA ?_; intro bO w1 hB hbO; clear hF hA; have hA := hB; clear hB; (try simp only [setL, List.set_cons_zero, List.set_cons_succ, List.cons_append, List.nil_append] at hA); (have hF := hA.facts); (try simp only [facts_cons, facts_nil, facts_cells, facts_old, facts_fact, facts_obj, facts_map, facts_iter, and_true, true_and] at hF)) | ((with_reducible show wpList _ _ _ ({ dst := _, op := Op.alloc _, type := _, pos := _, after := _, guard := _ } :: _) _ _); refine wpList_alloc_at (E := 28) (z := .agg #[.slice none 0 0]) (vs := [.slice none 0 0]) rfl rfl (by kernel_rfl) rfl hA ?_; intro bZ w1 hB hbZ; clear hF hA; have hA := hB; clear hB; (try simp only [setL, List.set_cons_zero, List.set_cons_succ, List.cons_append, List.nil_append] at hA); (have hF := hA.facts); (try simp only [facts_cons, facts_nil, facts_cells, facts_old, facts_fact, facts_obj, facts_map, facts_iter, and_true, true_and] at hF)) | ((with_reducible show wpList _ _ _ ({ dst := _, op := Op.store _ _ _, type := _, pos := _, after := _, guard := _ } :: _) _ _); refine wpList_store_at rfl rfl rfl (by (try simp only [Act.eval, Array.getD_eq_getD_getElem?, List.getElem?_toArray, List.getElem?_cons_succ, List.getElem?_cons_zero, Option.getD_some]) <;> exact rfl) (by exact rfl) hA (by with_reducible repeat (first | exact Sel.here | apply Sel.there)) (by kernel_rfl) rfl (by first | decide | (simp; done) | omega) ?_; intro w1 hB; clear hF hA; have hA := hB; clear hB; (try simp only [setL, List.set_cons_zero, List.set_cons_succ, List.cons_append, List.nil_append] at hA); (have hF := hA.facts); (try simp only [facts_cons, facts_nil, facts_cells, facts_old, facts_fact, facts_obj, facts_map, facts_iter, and_true, true_and] at hF)) | ((with_reducible show wpList _ _ _ ({ dst := _, op := Op.box _ _, type := _, pos := _, after := _, guard := _ } :: _) _ _); refine wpList_box_at rfl rfl (by (try simp only [Act.eval, Array.getD_eq_getD_getElem?, List.getElem?_toArray, List.getElem?_cons_succ, List.getElem?_cons_zero, Option.getD_some]) <;> exact rfl) (by exact rfl) hA ?_; intro b1 w1 hB hb1; clear hF hA; have hA := hB; clear hB; (try simp only [setL, List.set_cons_zero, List.set_cons_succ, List.cons_append, List.nil_append] at hA); (have hF := hA.facts); (try simp only [facts_cons, facts_nil, facts_cells, facts_old, facts_fact, facts_obj, facts_map, facts_iter, and_true, true_and] at hF)))
  refine (findR_any (hA.sep1 (by with_reducible repeat (first | exact Sel.here | apply Sel.there))) o.num o.foot (by omega)).mono ?_
  rw [hs'.out]
  rintro e w1 ⟨rfl, hT⟩; have hB := hA.call1 (by with_reducible repeat (first | exact Sel.here | apply Sel.there)) hT; clear hF hA hT; have hA := hB; clear hB; (try simp only [setL, List.set_cons_zero, List.set_cons_succ, List.cons_append, List.nil_append] at hA); (have hF := hA.facts); (try simp only [facts_cons, facts_nil, facts_cells, facts_old, facts_fact, facts_obj, facts_map, facts_iter, and_true, true_and] at hF)
  go_wp2_with (first | ((with_reducible show wpList _ _ _ ({ dst := _, op := Op.alloc _, type := _, pos := _, after := _, guard := _ } :: _) _ _); refine wpList_alloc_at (E := 47) (z := .agg #[.int .u64 0, .string .empty, .bool false, .bool false, .int .i64 0, .int .i64 0, .slice none 0 0]) (vs := [.int .u64 0, .string .empty, .bool false, .bool false, .int .i64 0, .int .i64 0, .slice none 0 0]) rfl rfl (by kernel_rfl) rfl hA ?_; intro bS w1 hB hbS; clear hF hA; have hA := hB; clear hB; (try simp only [setL, List.set_cons_zero, List.set_cons_succ, List.cons_append, List.nil_append] at hA); (have hF := hA.facts); (try simp only [facts_cons, facts_nil, facts_cells, facts_old, facts_fact, facts_obj, facts_map, facts_iter, and_true, true_and] at hF)) | ((with_reducible show wpList _ _ _ ({ dst := _, op := Op.alloc _, type := _, pos := _, after := _, guard := _ } :: _) _ _); refine wpList_alloc_at (E := 61) (z := .agg #[.int .u64 0, .int .i64 0, .int .u64 0, .bool false]) (vs := [.int .u64 0, .int .i64 0, .int .u64 0, .bool false]) rfl rfl (by kernel_rfl) rfl hA ?_; intro bA w1 hB hbA; clear hF hA; have hA := hB; clear hB; (try simp only [setL, List.set_cons_zero, List.set_cons_succ, List.cons_append, List.nil_append] at hA); (have hF := hA.facts); (try simp only [facts_cons, facts_nil, facts_cells, facts_old, facts_fact, facts_obj, facts_map, facts_iter, and_true, true_and] at hF)) | (refine wpList_store_at (b := bS) (j := 0) (vs := SR.cells s) rfl rfl rfl (by (try simp only [Act.eval, Array.getD_eq_getD_getElem?, List.getElem?_toArray, List.getElem?_cons_succ, List.getElem?_cons_zero, Option.getD_some]) <;> exact rfl) (by exact rfl) hA (by with_reducible repeat (first | exact Sel.here | apply Sel.there)) (by kernel_rfl) (SR.ones _) (by show 0 + 7 ≤ 7; omega) ?_; intro w1 hB; clear hF hA; have hA := hB; clear hB; simp only [SR.cells] at hA; (try simp only [setL, List.set_cons_zero, List.set_cons_succ, List.cons_append, List.nil_append] at hA); (have hF := hA.facts); (try simp only [facts_cons, facts_nil, facts_cells, facts_old, facts_fact, facts_obj, facts_map, facts_iter, and_true, true_and] at hF)) | ((with_reducible show wpList _ _ _ ({ dst := _, op := Op.store _ _ _, type := _, pos := _, after := _, guard := _ } :: _) _ _); refine wpList_store_at rfl rfl rfl (by (try simp only [Act.eval, Array.getD_eq_getD_getElem?, List.getElem?_toArray, List.getElem?_cons_succ, List.getElem?_cons_zero, Option.getD_some]) <;> exact rfl) (by exact rfl) hA (by with_reducible repeat (first | exact Sel.here | apply Sel.there)) (by kernel_rfl) rfl (by first | decide | (simp; done) | omega) ?_; intro w1 hB; clear hF hA; have hA := hB; clear hB; (try simp only [setL, List.set_cons_zero, List.set_cons_succ, List.cons_append, List.nil_append] at hA); (have hF := hA.facts); (try simp only [facts_cons, facts_nil, facts_cells, facts_old, facts_fact, facts_obj, facts_map, facts_iter, and_true, true_and] at hF)) | ((with_reducible show wpList _ _ _ ({ dst := _, op := Op.box _ _, type := _, pos := _, after := _, guard := _ } :: _) _ _); refine wpList_box_at rfl rfl (by (try simp only [Act.eval, Array.getD_eq_getD_getElem?, List.getElem?_toArray, List.getElem?_cons_succ, List.getElem?_cons_zero, Option.getD_some]) <;> exact rfl) (by exact rfl) hA ?_; intro b1 w1 hB hb1; clear hF hA; have hA := hB; clear hB; (try simp only [setL, List.set_cons_zero, List.set_cons_succ, List.cons_append, List.nil_append] at hA); (have hF := hA.facts); (try simp only [facts_cons, facts_nil, facts_cells, facts_old, facts_fact, facts_obj, facts_map, facts_iter, and_true, true_and] at hF)))
  have hb := book_end (hA.sep1 (by with_reducible repeat (first | exact Sel.here | apply Sel.there))) ho'.out.n0 ho'.out.n1 ho'.out.f
  rw [hI'.out.rel.keepE (n := o.num) (f := o.foot), hs'.out] at hb
  generalize hcd : (if s.op = true then (0 : Int) else 50) = c at *
  have hcd' := Lib.hid hcd
  clear hcd
  refine hb.mono ?_
  clear hb
  rintro e w1 ⟨ss', rfl, hT, hcase⟩
  have hB := hA.call1 (by with_reducible repeat (first | exact Sel.here | apply Sel.there)) hT
  clear hF hA hT
  have hA := hB
  clear hB
  simp only [List.cons_append, List.nil_append] at hA
  have hF := hA.facts
  (try simp only [setL, List.set_cons_zero, List.set_cons_succ, List.cons_append, List.nil_append] at hA); (have hF := hA.facts); (try simp only [facts_cons, facts_nil, facts_cells, facts_old, facts_fact, facts_obj, facts_map, facts_iter, and_true, true_and] at hF)
  go_wp2_with (first | ((with_reducible show wpList _ _ _ ({ dst := _, op := Op.store _ _ _, type := _, pos := _, after := _, guard := _ } :: _) _ _); refine wpList_store_at rfl rfl rfl (by (try simp only [Act.eval, Array.getD_eq_getD_getElem?, List.getElem?_toArray, List.getElem?_cons_succ, List.getElem?_cons_zero, Option.getD_some]) <;> exact rfl) (by exact rfl) hA (by with_reducible repeat (first | exact Sel.here | apply Sel.there)) (by kernel_rfl) rfl (by first | decide | (simp; done) | omega) ?_; intro w1 hB; clear hF hA; have hA := hB; clear hB; (try simp only [setL, List.set_cons_zero, List.set_cons_succ, List.cons_append, List.nil_append] at hA); (have hF := hA.facts); (try simp only [facts_cons, facts_nil, facts_cells, facts_old, facts_fact, facts_obj, facts_map, facts_iter, and_true, true_and] at hF)) | ((with_reducible show wpList _ _ _ ({ dst := _, op := Op.box _ _, type := _, pos := _, after := _, guard := _ } :: _) _ _); refine wpList_box_at rfl rfl (by (try simp only [Act.eval, Array.getD_eq_getD_getElem?, List.getElem?_toArray, List.getElem?_cons_succ, List.getElem?_cons_zero, Option.getD_some]) <;> exact rfl) (by exact rfl) hA ?_; intro b1 w1 hB hb1; clear hF hA; have hA := hB; clear hB; (try simp only [setL, List.set_cons_zero, List.set_cons_succ, List.cons_append, List.nil_append] at hA); (have hF := hA.facts); (try simp only [facts_cons, facts_nil, facts_cells, facts_old, facts_fact, facts_obj, facts_map, facts_iter, and_true, true_and] at hF)))
  have hd := endR_any (hA.sep1 (by with_reducible repeat (first | exact Sel.here | apply Sel.there))) s (by omega)
  rw [hcd'.out] at hd
  refine hd.mono ?_
  clear hd
  rintro e w1 (⟨hc, rfl, hT⟩ | ⟨hc, v', rfl, hT⟩)
  · have hss' : ss' = ss := by
      rcases hcase with ⟨_, q⟩ | ⟨q, _⟩
      · exact q
      · exact absurd q hc
    subst hss'
    have hB := hA.call1 (by with_reducible repeat (first | exact Sel.here | apply Sel.there)) hT
    clear hF hA hT hcase
    have hc' := Lib.hid hc
    clear hc
    have hA := hB
    clear hB
    simp only [List.cons_append, List.nil_append] at hA
    have hF := hA.facts
    (try simp only [setL, List.set_cons_zero, List.set_cons_succ, List.cons_append, List.nil_append] at hA); (have hF := hA.facts); (try simp only [facts_cons, facts_nil, facts_cells, facts_old, facts_fact, facts_obj, facts_map, facts_iter, and_true, true_and] at hF)
    go_wp2_with (first | ((with_reducible show wpList _ _ _ ({ dst := _, op := Op.store _ _ _, type := _, pos := _, after := _, guard := _ } :: _) _ _); refine wpList_store_at rfl rfl rfl (by (try simp only [Act.eval, Array.getD_eq_getD_getElem?, List.getElem?_toArray, List.getElem?_cons_succ, List.getElem?_cons_zero, Option.getD_some]) <;> exact rfl) (by exact rfl) hA (by with_reducible repeat (first | exact Sel.here | apply Sel.there)) (by kernel_rfl) rfl (by first | decide | (simp; done) | omega) ?_; intro w1 hB; clear hF hA; have hA := hB; clear hB; (try simp only [setL, List.set_cons_zero, List.set_cons_succ, List.cons_append, List.nil_append] at hA); (have hF := hA.facts); (try simp only [facts_cons, facts_nil, facts_cells, facts_old, facts_fact, facts_obj, facts_map, facts_iter, and_true, true_and] at hF)) | ((with_reducible show wpList _ _ _ ({ dst := _, op := Op.box _ _, type := _, pos := _, after := _, guard := _ } :: _) _ _); refine wpList_box_at rfl rfl (by (try simp only [Act.eval, Array.getD_eq_getD_getElem?, List.getElem?_toArray, List.getElem?_cons_succ, List.getElem?_cons_zero, Option.getD_some]) <;> exact rfl) (by exact rfl) hA ?_; intro b1 w1 hB hb1; clear hF hA; have hA := hB; clear hB; (try simp only [setL, List.set_cons_zero, List.set_cons_succ, List.cons_append, List.nil_append] at hA); (have hF := hA.facts); (try simp only [facts_cons, facts_nil, facts_cells, facts_old, facts_fact, facts_obj, facts_map, facts_iter, and_true, true_and] at hF)))
    refine bodyPost_ret (v := .tuple #[.agg #[.slice vx vn vc], .bool true]) (by simp [results, Try.results6, go_sem, hF]) rfl ?_
    exact ⟨_, _, L, PL, rfl, hA.pick (by with_reducible repeat (first | exact Picks.nil | refine Picks.cons (by with_reducible repeat (first | exact Sel.here | apply Sel.there)) ?_)), hI'.out, by omega⟩
  · have hturn : Turned ss o.num o.foot Ses.ended ss' := by
      rcases hcase with ⟨q, _⟩ | ⟨_, q⟩
      · exact absurd hc q
      · exact q
    have hturn' := Lib.hid hturn
    subst hc
    have hB := hA.call1 (by with_reducible repeat (first | exact Sel.here | apply Sel.there)) hT
    clear hF hA hT hcase hturn
    obtain ⟨ax4, n4, cap4, hv4, hn4⟩ := hB.row_hid .here
    subst hv4
    have hA := hB
    clear hB
    simp only [List.cons_append, List.nil_append] at hA
    have hF := hA.facts
    (try simp only [setL, List.set_cons_zero, List.set_cons_succ, List.cons_append, List.nil_append] at hA); (have hF := hA.facts); (try simp only [facts_cons, facts_nil, facts_cells, facts_old, facts_fact, facts_obj, facts_map, facts_iter, and_true, true_and] at hF)
    go_wp2_with (first | ((with_reducible show wpList _ _ _ ({ dst := _, op := Op.store _ _ _, type := _, pos := _, after := _, guard := _ } :: _) _ _); refine wpList_store_at rfl rfl rfl (by (try simp only [Act.eval, Array.getD_eq_getD_getElem?, List.getElem?_toArray, List.getElem?_cons_succ, List.getElem?_cons_zero, Option.getD_some]) <;> exact rfl) (by exact rfl) hA (by with_reducible repeat (first | exact Sel.here | apply Sel.there)) (by kernel_rfl) rfl (by first | decide | (simp; done) | omega) ?_; intro w1 hB; clear hF hA; have hA := hB; clear hB; (try simp only [setL, List.set_cons_zero, List.set_cons_succ, List.cons_append, List.nil_append] at hA); (have hF := hA.facts); (try simp only [facts_cons, facts_nil, facts_cells, facts_old, facts_fact, facts_obj, facts_map, facts_iter, and_true, true_and] at hF)) | ((with_reducible show wpList _ _ _ ({ dst := _, op := Op.box _ _, type := _, pos := _, after := _, guard := _ } :: _) _ _); refine wpList_box_at rfl rfl (by (try simp only [Act.eval, Array.getD_eq_getD_getElem?, List.getElem?_toArray, List.getElem?_cons_succ, List.getElem?_cons_zero, Option.getD_some]) <;> exact rfl) (by exact rfl) hA ?_; intro b1 w1 hB hb1; clear hF hA; have hA := hB; clear hB; (try simp only [setL, List.set_cons_zero, List.set_cons_succ, List.cons_append, List.nil_append] at hA); (have hF := hA.facts); (try simp only [facts_cons, facts_nil, facts_cells, facts_old, facts_fact, facts_obj, facts_map, facts_iter, and_true, true_and] at hF)))
    refine bodyPost_ret (v := .tuple #[.agg #[.slice ax4 n4 cap4], .bool true]) (by simp [results, Try.results6, go_sem, hF]) rfl ?_
    have hrel : Rel ss' (putR L (s.ended)) := by
      have := hI'.out.rel.turned (ga := SR.ended) hturn'.out (fun _ => rfl) (fun s1 a1 r1 _ ea => r1.ended)
      rw [hs'.out] at this
      exact this
    exact ⟨ss', _, _, PL, rfl, hA.pick (by with_reducible repeat (first | exact Picks.nil | refine Picks.cons (by with_reducible repeat (first | exact Sel.here | apply Sel.there)) ?_)), hI'.out.put hrel (fun _ q => q) hpool'.out hfs.out, by have := put_len (L := L) (s.ended); omega⟩
set_option maxRecDepth 100000 in
set_option maxHeartbeats 4000000 in
theorem step_4 {w : World} {p m : Nat} {ss : List Ses} {v : Value} {L : List SR} {PL : List (Value × List AR)} (h : Sep [BookP p m ss, rowR v L, poolP PL] w) (hI : Inv ss L PL) (o : OpR) (ho : o.Ok) (hmax : L.length ≤ 100000) :
    Calls Try.prog 6 #[.pointer (some ⟨p, 0, none⟩), .agg #[v], opV 4 o] w (StepOut w p m ss v L PL) := by
  have hA := At.start h
  have hF := hA.facts
  clear h
  obtain ⟨vx, vn, vc, hv, hvn⟩ := hA.row_hid (v := v) (n := L.length) (xs := flatR L) (by with_reducible repeat (first | exact Sel.here | apply Sel.there))
  subst hv
  have hss : ss.length ≤ 100000 := by rw [hI.rel.len]; exact hmax
  obtain ⟨s, hs⟩ : ∃ s, findR L o.num o.foot = s := ⟨_, rfl⟩
  have hs' := Lib.hid hs
  have hrs : RelS (look ss o.num o.foot) s := by rw [← hs]; exact hI.rel.look _ _
  have hfs := Lib.hid (show s.foot.size ≤ 2000000 from by rw [← hs, findR_key.2]; exact ho.f2)
  have hpool : (s.tv, s.told) ∈ PL := by rw [← hs]; exact hI.found _ _
  have hsk : s.num = o.num ∧ s.foot = o.foot := by rw [← hs]; exact findR_key
  have hrs' := Lib.hid hrs
  have hpool' := Lib.hid hpool
  have hsk' := Lib.hid hsk
  have hI' := Lib.hid hI
  have ho' := Lib.hid ho
  clear hs hrs hpool hsk hI ho
  unfold opV
  go_enter Try.func6, Try.ntmps6
  go_wp2_with (first | ((with_reducible show wpList _ _ _ ({ dst := _, op := Op.box _ _, type := _, pos := _, after := _, guard := _ } :: _) _ _); refine wpList_box_at (E := 28) rfl rfl (by (try simp only [Act.eval, Array.getD_eq_getD_getElem?, List.getElem?_toArray, List.getElem?_cons_succ, List.getElem?_cons_zero, Option.getD_some]) <;> exact rfl) (by exact rfl) hA ?_; intro bB w1 hB hbB; clear hF hA; have hA := hB; clear hB; (try simp only [setL, List.set_cons_zero, List.set_cons_succ, List.cons_append, List.nil_append] at hA); (have hF := hA.facts); (try simp only [facts_cons, facts_nil, facts_cells, facts_old, facts_fact, facts_obj, facts_map, facts_iter, and_true, true_and] at hF)) | ((with_reducible show wpList _ _ _ ({ dst := _, op := Op.box _ _, type := _, pos := _, after := _, guard := _ } :: _) _ _); refine wpList_box_at (E := 36) rfl rfl (by (try simp only [Act.eval, Array.getD_eq_getD_getElem?, List.getElem?_toArray, List.getElem?_cons_succ, List.getElem?_cons_zero, Option.getD_some]) <;> exact rfl) (by exact rfl) hA ?_; intro bO w1 hB hbO; clear hF hA; have hA := hB; clear hB; (try simp only [setL, List.set_cons_zero, List.set_cons_succ, List.cons_append, List.nil_append] at hA); (have hF := hA.facts); (try simp only [facts_cons, facts_nil, facts_cells, facts_old, facts_fact, facts_obj, facts_map, facts_iter, and_true, true_and] at hF)) | ((with_reducible show wpList _ _ _ ({ dst := _, op := Op.alloc _, type := _, pos := _, after := _, guard := _ } :: _) _ _); refine wpList_alloc_at (E := 28) (z := .agg #[.slice none 0 0]) (vs := [.slice none 0 0]) rfl rfl (by kernel_rfl) rfl hA ?_; intro bZ w1 hB hbZ; clear hF hA; have hA := hB; clear hB; (try simp only [setL, List.set_cons_zero, List.set_cons_succ, List.cons_append, List.nil_append] at hA); (have hF := hA.facts); (try simp only [facts_cons, facts_nil, facts_cells, facts_old, facts_fact, facts_obj, facts_map, facts_iter, and_true, true_and] at hF)) | ((with_reducible show wpList _ _ _ ({ dst := _, op := Op.store _ _ _, type := _, pos := _, after := _, guard := _ } :: _) _ _); refine wpList_store_at rfl rfl rfl (by (try simp only [Act.eval, Array.getD_eq_getD_getElem?, List.getElem?_toArray, List.getElem?_cons_succ, List.getElem?_cons_zero, Option.getD_some]) <;> exact rfl) (by exact rfl) hA (by with_reducible repeat (first | exact Sel.here | apply Sel.there)) (by kernel_rfl) rfl (by first | decide | (simp; done) | omega) ?_; intro w1 hB; clear hF hA; have hA := hB; clear hB; (try simp only [setL, List.set_cons_zero, List.set_cons_succ, List.cons_append, List.nil_append] at hA); (have hF := hA.facts); (try simp only [facts_cons, facts_nil, facts_cells, facts_old, facts_fact, facts_obj, facts_map, facts_iter, and_true, true_and] at hF)) | ((with_reducible show wpList _ _ _ ({ dst := _, op := Op.box _ _, type := _, pos := _, after := _, guard := _ } :: _) _ _); refine wpList_box_at rfl rfl (by (try simp only [Act.eval, Array.getD_eq_getD_getElem?, List.getElem?_toArray, List.getElem?_cons_succ, List.getElem?_cons_zero, Option.getD_some]) <;> exact rfl) (by exact rfl) hA ?_; intro b1 w1 hB hb1; clear hF hA; have hA := hB; clear hB; (try simp only [setL, List.set_cons_zero, List.set_cons_succ, List.cons_append, List.nil_append] at hA); (have hF := hA.facts); (try simp only [facts_cons, facts_nil, facts_cells, facts_old, facts_fact, facts_obj, facts_map, facts_iter, and_true, true_and] at hF)))
  refine (findR_any (hA.sep1 (by with_reducible repeat (first | exact Sel.here | apply Sel.there))) o.num o.foot (by omega)).mono ?_
  rw [hs'.out]
  rintro e w1 ⟨rfl, hT⟩; have hB := hA.call1 (by with_reducible repeat (first | exact Sel.here | apply Sel.there)) hT; clear hF hA hT; have hA := hB; clear hB; (try simp only [setL, List.set_cons_zero, List.set_cons_succ, List.cons_append, List.nil_append] at hA); (have hF := hA.facts); (try simp only [facts_cons, facts_nil, facts_cells, facts_old, facts_fact, facts_obj, facts_map, facts_iter, and_true, true_and] at hF)
  go_wp2_with (first | ((with_reducible show wpList _ _ _ ({ dst := _, op := Op.alloc _, type := _, pos := _, after := _, guard := _ } :: _) _ _); refine wpList_alloc_at (E := 47) (z := .agg #[.int .u64 0, .string .empty, .bool false, .bool false, .int .i64 0, .int .i64 0, .slice none 0 0]) (vs := [.int .u64 0, .string .empty, .bool false, .bool false, .int .i64 0, .int .i64 0, .slice none 0 0]) rfl rfl (by kernel_rfl) rfl hA ?_; intro bS w1 hB hbS; clear hF hA; have hA := hB; clear hB; (try simp only [setL, List.set_cons_zero, List.set_cons_succ, List.cons_append, List.nil_append] at hA); (have hF := hA.facts); (try simp only [facts_cons, facts_nil, facts_cells, facts_old, facts_fact, facts_obj, facts_map, facts_iter, and_true, true_and] at hF)) | ((with_reducible show wpList _ _ _ ({ dst := _, op := Op.alloc _, type := _, pos := _, after := _, guard := _ } :: _) _ _); refine wpList_alloc_at (E := 61) (z := .agg #[.int .u64 0, .int .i64 0, .int .u64 0, .bool false]) (vs := [.int .u64 0, .int .i64 0, .int .u64 0, .bool false]) rfl rfl (by kernel_rfl) rfl hA ?_; intro bA w1 hB hbA; clear hF hA; have hA := hB; clear hB; (try simp only [setL, List.set_cons_zero, List.set_cons_succ, List.cons_append, List.nil_append] at hA); (have hF := hA.facts); (try simp only [facts_cons, facts_nil, facts_cells, facts_old, facts_fact, facts_obj, facts_map, facts_iter, and_true, true_and] at hF)) | (refine wpList_store_at (b := bS) (j := 0) (vs := SR.cells s) rfl rfl rfl (by (try simp only [Act.eval, Array.getD_eq_getD_getElem?, List.getElem?_toArray, List.getElem?_cons_succ, List.getElem?_cons_zero, Option.getD_some]) <;> exact rfl) (by exact rfl) hA (by with_reducible repeat (first | exact Sel.here | apply Sel.there)) (by kernel_rfl) (SR.ones _) (by show 0 + 7 ≤ 7; omega) ?_; intro w1 hB; clear hF hA; have hA := hB; clear hB; simp only [SR.cells] at hA; (try simp only [setL, List.set_cons_zero, List.set_cons_succ, List.cons_append, List.nil_append] at hA); (have hF := hA.facts); (try simp only [facts_cons, facts_nil, facts_cells, facts_old, facts_fact, facts_obj, facts_map, facts_iter, and_true, true_and] at hF)) | ((with_reducible show wpList _ _ _ ({ dst := _, op := Op.store _ _ _, type := _, pos := _, after := _, guard := _ } :: _) _ _); refine wpList_store_at rfl rfl rfl (by (try simp only [Act.eval, Array.getD_eq_getD_getElem?, List.getElem?_toArray, List.getElem?_cons_succ, List.getElem?_cons_zero, Option.getD_some]) <;> exact rfl) (by exact rfl) hA (by with_reducible repeat (first | exact Sel.here | apply Sel.there)) (by kernel_rfl) rfl (by first | decide | (simp; done) | omega) ?_; intro w1 hB; clear hF hA; have hA := hB; clear hB; (try simp only [setL, List.set_cons_zero, List.set_cons_succ, List.cons_append, List.nil_append] at hA); (have hF := hA.facts); (try simp only [facts_cons, facts_nil, facts_cells, facts_old, facts_fact, facts_obj, facts_map, facts_iter, and_true, true_and] at hF)) | ((with_reducible show wpList _ _ _ ({ dst := _, op := Op.box _ _, type := _, pos := _, after := _, guard := _ } :: _) _ _); refine wpList_box_at rfl rfl (by (try simp only [Act.eval, Array.getD_eq_getD_getElem?, List.getElem?_toArray, List.getElem?_cons_succ, List.getElem?_cons_zero, Option.getD_some]) <;> exact rfl) (by exact rfl) hA ?_; intro b1 w1 hB hb1; clear hF hA; have hA := hB; clear hB; (try simp only [setL, List.set_cons_zero, List.set_cons_succ, List.cons_append, List.nil_append] at hA); (have hF := hA.facts); (try simp only [facts_cons, facts_nil, facts_cells, facts_old, facts_fact, facts_obj, facts_map, facts_iter, and_true, true_and] at hF)))
  have hb := book_expire (hA.sep1 (by with_reducible repeat (first | exact Sel.here | apply Sel.there))) ho'.out.n0 ho'.out.n1 ho'.out.f o.a
  rw [hI'.out.rel.expE (n := o.num) (f := o.foot) o.a, hs'.out] at hb
  generalize hcd : expE s o.a = c at *
  have hcd' := Lib.hid hcd
  clear hcd
  refine hb.mono ?_
  clear hb
  rintro e w1 ⟨ss', rfl, hT, hcase⟩
  have hB := hA.call1 (by with_reducible repeat (first | exact Sel.here | apply Sel.there)) hT
  clear hF hA hT
  have hA := hB
  clear hB
  simp only [List.cons_append, List.nil_append] at hA
  have hF := hA.facts
  (try simp only [setL, List.set_cons_zero, List.set_cons_succ, List.cons_append, List.nil_append] at hA); (have hF := hA.facts); (try simp only [facts_cons, facts_nil, facts_cells, facts_old, facts_fact, facts_obj, facts_map, facts_iter, and_true, true_and] at hF)
  go_wp2_with (first | ((with_reducible show wpList _ _ _ ({ dst := _, op := Op.store _ _ _, type := _, pos := _, after := _, guard := _ } :: _) _ _); refine wpList_store_at rfl rfl rfl (by (try simp only [Act.eval, Array.getD_eq_getD_getElem?, List.getElem?_toArray, List.getElem?_cons_succ, List.getElem?_cons_zero, Option.getD_some]) <;> exact rfl) (by exact rfl) hA (by with_reducible repeat (first | exact Sel.here | apply Sel.there)) (by kernel_rfl) rfl (by first | decide | (simp; done) | omega) ?_; intro w1 hB; clear hF hA; have hA := hB; clear hB; (try simp only [setL, List.set_cons_zero, List.set_cons_succ, List.cons_append, List.nil_append] at hA); (have hF := hA.facts); (try simp only [facts_cons, facts_nil, facts_cells, facts_old, facts_fact, facts_obj, facts_map, facts_iter, and_true, true_and] at hF)) | ((with_reducible show wpList _ _ _ ({ dst := _, op := Op.box _ _, type := _, pos := _, after := _, guard := _ } :: _) _ _); refine wpList_box_at rfl rfl (by (try simp only [Act.eval, Array.getD_eq_getD_getElem?, List.getElem?_toArray, List.getElem?_cons_succ, List.getElem?_cons_zero, Option.getD_some]) <;> exact rfl) (by exact rfl) hA ?_; intro b1 w1 hB hb1; clear hF hA; have hA := hB; clear hB; (try simp only [setL, List.set_cons_zero, List.set_cons_succ, List.cons_append, List.nil_append] at hA); (have hF := hA.facts); (try simp only [facts_cons, facts_nil, facts_cells, facts_old, facts_fact, facts_obj, facts_map, facts_iter, and_true, true_and] at hF)))
  have hd := expireR_any (hA.sep1 (by with_reducible repeat (first | exact Sel.here | apply Sel.there))) s o.a (by omega)
  rw [hcd'.out] at hd
  refine hd.mono ?_
  clear hd
  rintro e w1 (⟨hc, rfl, hT⟩ | ⟨hc, v', rfl, hT⟩)
  · have hss' : ss' = ss := by
      rcases hcase with ⟨_, q⟩ | ⟨q, _⟩
      · exact q
      · exact absurd q hc
    subst hss'
    have hB := hA.call1 (by with_reducible repeat (first | exact Sel.here | apply Sel.there)) hT
    clear hF hA hT hcase
    have hc' := Lib.hid hc
    clear hc
    have hA := hB
    clear hB
    simp only [List.cons_append, List.nil_append] at hA
    have hF := hA.facts
    (try simp only [setL, List.set_cons_zero, List.set_cons_succ, List.cons_append, List.nil_append] at hA); (have hF := hA.facts); (try simp only [facts_cons, facts_nil, facts_cells, facts_old, facts_fact, facts_obj, facts_map, facts_iter, and_true, true_and] at hF)
    go_wp2_with (first | ((with_reducible show wpList _ _ _ ({ dst := _, op := Op.store _ _ _, type := _, pos := _, after := _, guard := _ } :: _) _ _); refine wpList_store_at rfl rfl rfl (by (try simp only [Act.eval, Array.getD_eq_getD_getElem?, List.getElem?_toArray, List.getElem?_cons_succ, List.getElem?_cons_zero, Option.getD_some]) <;> exact rfl) (by exact rfl) hA (by with_reducible repeat (first | exact Sel.here | apply Sel.there)) (by kernel_rfl) rfl (by first | decide | (simp; done) | omega) ?_; intro w1 hB; clear hF hA; have hA := hB; clear hB; (try simp only [setL, List.set_cons_zero, List.set_cons_succ, List.cons_append, List.nil_append] at hA); (have hF := hA.facts); (try simp only [facts_cons, facts_nil, facts_cells, facts_old, facts_fact, facts_obj, facts_map, facts_iter, and_true, true_and] at hF)) | ((with_reducible show wpList _ _ _ ({ dst := _, op := Op.box _ _, type := _, pos := _, after := _, guard := _ } :: _) _ _); refine wpList_box_at rfl rfl (by (try simp only [Act.eval, Array.getD_eq_getD_getElem?, List.getElem?_toArray, List.getElem?_cons_succ, List.getElem?_cons_zero, Option.getD_some]) <;> exact rfl) (by exact rfl) hA ?_; intro b1 w1 hB hb1; clear hF hA; have hA := hB; clear hB; (try simp only [setL, List.set_cons_zero, List.set_cons_succ, List.cons_append, List.nil_append] at hA); (have hF := hA.facts); (try simp only [facts_cons, facts_nil, facts_cells, facts_old, facts_fact, facts_obj, facts_map, facts_iter, and_true, true_and] at hF)))
    refine bodyPost_ret (v := .tuple #[.agg #[.slice vx vn vc], .bool true]) (by simp [results, Try.results6, go_sem, hF]) rfl ?_
    exact ⟨_, _, L, PL, rfl, hA.pick (by with_reducible repeat (first | exact Picks.nil | refine Picks.cons (by with_reducible repeat (first | exact Sel.here | apply Sel.there)) ?_)), hI'.out, by omega⟩
  · have hturn : Turned ss o.num o.foot Ses.ended ss' := by
      rcases hcase with ⟨q, _⟩ | ⟨_, q⟩
      · exact absurd hc q
      · exact q
    have hturn' := Lib.hid hturn
    subst hc
    have hB := hA.call1 (by with_reducible repeat (first | exact Sel.here | apply Sel.there)) hT
    clear hF hA hT hcase hturn
    obtain ⟨ax4, n4, cap4, hv4, hn4⟩ := hB.row_hid .here
    subst hv4
    have hA := hB
    clear hB
    simp only [List.cons_append, List.nil_append] at hA
    have hF := hA.facts
    (try simp only [setL, List.set_cons_zero, List.set_cons_succ, List.cons_append, List.nil_append] at hA); (have hF := hA.facts); (try simp only [facts_cons, facts_nil, facts_cells, facts_old, facts_fact, facts_obj, facts_map, facts_iter, and_true, true_and] at hF)
    go_wp2_with (first | ((with_reducible show wpList _ _ _ ({ dst := _, op := Op.store _ _ _, type := _, pos := _, after := _, guard := _ } :: _) _ _); refine wpList_store_at rfl rfl rfl (by (try simp only [Act.eval, Array.getD_eq_getD_getElem?, List.getElem?_toArray, List.getElem?_cons_succ, List.getElem?_cons_zero, Option.getD_some]) <;> exact rfl) (by exact rfl) hA (by with_reducible repeat (first | exact Sel.here | apply Sel.there)) (by kernel_rfl) rfl (by first | decide | (simp; done) | omega) ?_; intro w1 hB; clear hF hA; have hA := hB; clear hB; (try simp only [setL, List.set_cons_zero, List.set_cons_succ, List.cons_append, List.nil_append] at hA); (have hF := hA.facts); (try simp only [facts_cons, facts_nil, facts_cells, facts_old, facts_fact, facts_obj, facts_map, facts_iter, and_true, true_and] at hF)) | ((with_reducible show wpList _ _ _ ({ dst := _, op := Op.box _ _, type := _, pos := _, after := _, guard := _ } :: _) _ _); refine wpList_box_at rfl rfl (by (try simp only [Act.eval, Array.getD_eq_getD_getElem?, List.getElem?_toArray, List.getElem?_cons_succ, List.getElem?_cons_zero, Option.getD_some]) <;> exact rfl) (by exact rfl) hA ?_; intro b1 w1 hB hb1; clear hF hA; have hA := hB; clear hB; (try simp only [setL, List.set_cons_zero, List.set_cons_succ, List.cons_append, List.nil_append] at hA); (have hF := hA.facts); (try simp only [facts_cons, facts_nil, facts_cells, facts_old, facts_fact, facts_obj, facts_map, facts_iter, and_true, true_and] at hF)))
    refine bodyPost_ret (v := .tuple #[.agg #[.slice ax4 n4 cap4], .bool true]) (by simp [results, Try.results6, go_sem, hF]) rfl ?_
    have hrel : Rel ss' (putR L (s.ended)) := by
      have := hI'.out.rel.turned (ga := SR.ended) hturn'.out (fun _ => rfl) (fun s1 a1 r1 _ ea => r1.ended)
      rw [hs'.out] at this
      exact this
    exact ⟨ss', _, _, PL, rfl, hA.pick (by with_reducible repeat (first | exact Picks.nil | refine Picks.cons (by with_reducible repeat (first | exact Sel.here | apply Sel.there)) ?_)), hI'.out.put hrel (fun _ q => q) hpool'.out hfs.out, by have := put_len (L := L) (s.ended); omega⟩
end Go.Proofs.Ytnkddjomanaadaa.Lease
end

section
namespace Go.Proofs.Ytnkddjomanaadaa.Lease
open Go.RowKit
set_option linter.unusedSimpArgs false
set_option linter.unusedVariables false

/-- a call that leaves a part as it is -/
theorem through1 {L0 L F : List Part} {A : Part} {w0 w : World} {P : Program} {f : FuncId} {args : Array Value} {v : Value} (h : At L0 w0 L w) (s : Sel A L F) (hc : Sep [A] w → Calls P f args w fun e w' => e = .returned v ∧ At [A] w [A] w') :
    Calls P f args w fun e w' => e = .returned v ∧ At L0 w0 L w' := At.through (K := [A]) h (Eqv.perm s.perm) hc
/-- something is told, in both -/
theorem Inv.tell {ss ss' : List Ses} {L : List SR} {PL : List (Value × List AR)} (h : Inv ss L PL) {n : Int} {f : ByteArray} {x : AR} {c : Ans} (hx : arP x = (x.r, c)) (hb : 0 ≤ x.r ∧ x.r < big64) (hax : okA x) (hfs : f.size ≤ 2000000) (hc : (if (saidA (findR L n f).told x.r).isSome then (1 : Int) else if 256 ≤ (findR L n f).told.length then 1 else 0) = 0) (ht : Turned ss n f (fun s => s.tell x.r c) ss') (ax : Option Addr) (cap : Nat) :
    Inv ss' (putR L { findR L n f with ax := ax, cap := cap, told := insA (findR L n f).told x }) ((SR.tv { findR L n f with ax := ax, cap := cap, told := insA (findR L n f).told x }, insA (findR L n f).told x) :: PL) := by
  have h1 : saidA (findR L n f).told x.r = none := by
    cases q : saidA (findR L n f).told x.r with
    | none => rfl
    | some y => rw [q] at hc; simp at hc
  have h2 : (findR L n f).told.length < 256 := by
    rcases Nat.lt_or_ge (findR L n f).told.length 256 with q | q
    · exact q
    · rw [h1] at hc; simp [q] at hc
  have hr := h.rel.turned (ga := fun a => { a with ax := ax, cap := cap, told := insA a.told x }) ht (fun _ => rfl) (fun s1 a1 r1 _ ea => by
    have := r1.tell (x := x) (by rw [ea]; exact h1) (by rw [ea]; exact h2) hb hax ax cap
    rw [hx] at this
    exact this)
  exact h.put hr (fun q hq => by simp [hq]) (by simp) (by show (findR L n f).foot.size ≤ 2000000; rw [findR_key.2]; exact hfs)
set_option maxRecDepth 100000 in
set_option maxHeartbeats 4000000 in
theorem step_5 {w : World} {p m : Nat} {ss : List Ses} {v : Value} {L : List SR} {PL : List (Value × List AR)} (h : Sep [BookP p m ss, rowR v L, poolP PL] w) (hI : Inv ss L PL) (o : OpR) (ho : o.Ok) (hmax : L.length ≤ 100000) :
    Calls Try.prog 6 #[.pointer (some ⟨p, 0, none⟩), .agg #[v], opV 5 o] w (StepOut w p m ss v L PL) := by
  have hA := At.start h
  have hF := hA.facts
  clear h
  obtain ⟨vx, vn, vc, hv, hvn⟩ := hA.row_hid (v := v) (n := L.length) (xs := flatR L) (by with_reducible repeat (first | exact Sel.here | apply Sel.there))
  subst hv
  have hss : ss.length ≤ 100000 := by rw [hI.rel.len]; exact hmax
  obtain ⟨s, hs⟩ : ∃ s, findR L o.num o.foot = s := ⟨_, rfl⟩
  have hs' := Lib.hid hs
  have hrs : RelS (look ss o.num o.foot) s := by rw [← hs]; exact hI.rel.look _ _
  have hpool : (s.tv, s.told) ∈ PL := by rw [← hs]; exact hI.found _ _
  have hsk : s.num = o.num ∧ s.foot = o.foot := by rw [← hs]; exact findR_key
  have hrs' := Lib.hid hrs
  have hpool' := Lib.hid hpool
  have hsk' := Lib.hid hsk
  have hI' := Lib.hid hI
  have ho' := Lib.hid ho
  clear hs hrs hpool hsk hI ho
  unfold opV
  go_enter Try.func6, Try.ntmps6
  go_wp2_with (first | ((with_reducible show wpList _ _ _ ({ dst := _, op := Op.box _ _, type := _, pos := _, after := _, guard := _ } :: _) _ _); refine wpList_box_at (E := 28) rfl rfl (by (try simp only [Act.eval, Array.getD_eq_getD_getElem?, List.getElem?_toArray, List.getElem?_cons_succ, List.getElem?_cons_zero, Option.getD_some]) <;> exact rfl) (by exact rfl) hA ?_; intro bB w1 hB hbB; clear hF hA; have hA := hB; clear hB; (try simp only [setL, List.set_cons_zero, List.set_cons_succ, List.cons_append, List.nil_append] at hA); (have hF := hA.facts); (try simp only [facts_cons, facts_nil, facts_cells, facts_old, facts_fact, facts_obj, facts_map, facts_iter, and_true, true_and] at hF)) | ((with_reducible show wpList _ _ _ ({ dst := _, op := Op.box _ _, type := _, pos := _, after := _, guard := _ } :: _) _ _); refine wpList_box_at (E := 36) rfl rfl (by (try simp only [Act.eval, Array.getD_eq_getD_getElem?, List.getElem?_toArray, List.getElem?_cons_succ, List.getElem?_cons_zero, Option.getD_some]) <;> exact rfl) (by exact rfl) hA ?_; intro bO w1 hB hbO; clear hF hA; have hA := hB; clear hB; (try simp only [setL, List.set_cons_zero, List.set_cons_succ, List.cons_append, List.nil_append] at hA); (have hF := hA.facts); (try simp only [facts_cons, facts_nil, facts_cells, facts_old, facts_fact, facts_obj, facts_map, facts_iter, and_true, true_and] at hF)) | ((with_reducible show wpList _ _ _ ({ dst := _, op := Op.alloc _, type := _, pos := _, after := _, guard := _ } :: _) _ _); refine wpList_alloc_at (E := 28) (z := .agg #[.slice none 0 0]) (vs := [.slice none 0 0]) rfl rfl (by kernel_rfl) rfl hA ?_; intro bZ w1 hB hbZ; clear hF hA; have hA := hB; clear hB; (try simp only [setL, List.set_cons_zero, List.set_cons_succ, List.cons_append, List.nil_append] at hA); (have hF := hA.facts); (try simp only [facts_cons, facts_nil, facts_cells, facts_old, facts_fact, facts_obj, facts_map, facts_iter, and_true, true_and] at hF)) | ((with_reducible show wpList _ _ _ ({ dst := _, op := Op.store _ _ _, type := _, pos := _, after := _, guard := _ } :: _) _ _); refine wpList_store_at rfl rfl rfl (by (try simp only [Act.eval, Array.getD_eq_getD_getElem?, List.getElem?_toArray, List.getElem?_cons_succ, List.getElem?_cons_zero, Option.getD_some]) <;> exact rfl) (by exact rfl) hA (by with_reducible repeat (first | exact Sel.here | apply Sel.there)) (by kernel_rfl) rfl (by first | decide | (simp; done) | omega) ?_; intro w1 hB; clear hF hA; have hA := hB; clear hB; (try simp only [setL, List.set_cons_zero, List.set_cons_succ, List.cons_append, List.nil_append] at hA); (have hF := hA.facts); (try simp only [facts_cons, facts_nil, facts_cells, facts_old, facts_fact, facts_obj, facts_map, facts_iter, and_true, true_and] at hF)) | ((with_reducible show wpList _ _ _ ({ dst := _, op := Op.box _ _, type := _, pos := _, after := _, guard := _ } :: _) _ _); refine wpList_box_at rfl rfl (by (try simp only [Act.eval, Array.getD_eq_getD_getElem?, List.getElem?_toArray, List.getElem?_cons_succ, List.getElem?_cons_zero, Option.getD_some]) <;> exact rfl) (by exact rfl) hA ?_; intro b1 w1 hB hb1; clear hF hA; have hA := hB; clear hB; (try simp only [setL, List.set_cons_zero, List.set_cons_succ, List.cons_append, List.nil_append] at hA); (have hF := hA.facts); (try simp only [facts_cons, facts_nil, facts_cells, facts_old, facts_fact, facts_obj, facts_map, facts_iter, and_true, true_and] at hF)))
  refine (findR_any (hA.sep1 (by with_reducible repeat (first | exact Sel.here | apply Sel.there))) o.num o.foot (by omega)).mono ?_
  rw [hs'.out]
  rintro e w1 ⟨rfl, hT⟩; have hB := hA.call1 (by with_reducible repeat (first | exact Sel.here | apply Sel.there)) hT; clear hF hA hT; have hA := hB; clear hB; (try simp only [setL, List.set_cons_zero, List.set_cons_succ, List.cons_append, List.nil_append] at hA); (have hF := hA.facts); (try simp only [facts_cons, facts_nil, facts_cells, facts_old, facts_fact, facts_obj, facts_map, facts_iter, and_true, true_and] at hF)
  go_wp2_with (first | ((with_reducible show wpList _ _ _ ({ dst := _, op := Op.alloc _, type := _, pos := _, after := _, guard := _ } :: _) _ _); refine wpList_alloc_at (E := 47) (z := .agg #[.int .u64 0, .string .empty, .bool false, .bool false, .int .i64 0, .int .i64 0, .slice none 0 0]) (vs := [.int .u64 0, .string .empty, .bool false, .bool false, .int .i64 0, .int .i64 0, .slice none 0 0]) rfl rfl (by kernel_rfl) rfl hA ?_; intro bS w1 hB hbS; clear hF hA; have hA := hB; clear hB; (try simp only [setL, List.set_cons_zero, List.set_cons_succ, List.cons_append, List.nil_append] at hA); (have hF := hA.facts); (try simp only [facts_cons, facts_nil, facts_cells, facts_old, facts_fact, facts_obj, facts_map, facts_iter, and_true, true_and] at hF)) | ((with_reducible show wpList _ _ _ ({ dst := _, op := Op.alloc _, type := _, pos := _, after := _, guard := _ } :: _) _ _); refine wpList_alloc_at (E := 61) (z := .agg #[.int .u64 0, .int .i64 0, .int .u64 0, .bool false]) (vs := [.int .u64 0, .int .i64 0, .int .u64 0, .bool false]) rfl rfl (by kernel_rfl) rfl hA ?_; intro bA w1 hB hbA; clear hF hA; have hA := hB; clear hB; (try simp only [setL, List.set_cons_zero, List.set_cons_succ, List.cons_append, List.nil_append] at hA); (have hF := hA.facts); (try simp only [facts_cons, facts_nil, facts_cells, facts_old, facts_fact, facts_obj, facts_map, facts_iter, and_true, true_and] at hF)) | (refine wpList_store_at (b := bS) (j := 0) (vs := SR.cells s) rfl rfl rfl (by (try simp only [Act.eval, Array.getD_eq_getD_getElem?, List.getElem?_toArray, List.getElem?_cons_succ, List.getElem?_cons_zero, Option.getD_some]) <;> exact rfl) (by exact rfl) hA (by with_reducible repeat (first | exact Sel.here | apply Sel.there)) (by kernel_rfl) (SR.ones _) (by show 0 + 7 ≤ 7; omega) ?_; intro w1 hB; clear hF hA; have hA := hB; clear hB; simp only [SR.cells] at hA; (try simp only [setL, List.set_cons_zero, List.set_cons_succ, List.cons_append, List.nil_append] at hA); (have hF := hA.facts); (try simp only [facts_cons, facts_nil, facts_cells, facts_old, facts_fact, facts_obj, facts_map, facts_iter, and_true, true_and] at hF)) | ((with_reducible show wpList _ _ _ ({ dst := _, op := Op.store _ _ _, type := _, pos := _, after := _, guard := _ } :: _) _ _); refine wpList_store_at rfl rfl rfl (by (try simp only [Act.eval, Array.getD_eq_getD_getElem?, List.getElem?_toArray, List.getElem?_cons_succ, List.getElem?_cons_zero, Option.getD_some]) <;> exact rfl) (by exact rfl) hA (by with_reducible repeat (first | exact Sel.here | apply Sel.there)) (by kernel_rfl) rfl (by first | decide | (simp; done) | omega) ?_; intro w1 hB; clear hF hA; have hA := hB; clear hB; (try simp only [setL, List.set_cons_zero, List.set_cons_succ, List.cons_append, List.nil_append] at hA); (have hF := hA.facts); (try simp only [facts_cons, facts_nil, facts_cells, facts_old, facts_fact, facts_obj, facts_map, facts_iter, and_true, true_and] at hF)) | ((with_reducible show wpList _ _ _ ({ dst := _, op := Op.box _ _, type := _, pos := _, after := _, guard := _ } :: _) _ _); refine wpList_box_at rfl rfl (by (try simp only [Act.eval, Array.getD_eq_getD_getElem?, List.getElem?_toArray, List.getElem?_cons_succ, List.getElem?_cons_zero, Option.getD_some]) <;> exact rfl) (by exact rfl) hA ?_; intro b1 w1 hB hb1; clear hF hA; have hA := hB; clear hB; (try simp only [setL, List.set_cons_zero, List.set_cons_succ, List.cons_append, List.nil_append] at hA); (have hF := hA.facts); (try simp only [facts_cons, facts_nil, facts_cells, facts_old, facts_fact, facts_obj, facts_map, facts_iter, and_true, true_and] at hF)))
  refine (book_tell (hA.sep1 (by with_reducible repeat (first | exact Sel.here | apply Sel.there))) ho'.out.n0 ho'.out.n1 ho'.out.f ho'.out.r0 ho'.out.r1 o.ans).mono ?_
  rw [hrs'.out.tellE o.req]
  generalize hcd : (if (saidA s.told o.req).isSome = true then (1 : Int) else if 256 ≤ s.told.length then 1 else 0) = c at *
  have hcd' := Lib.hid hcd
  clear hcd
  rintro e w1 ⟨ss', rfl, hT, hcase⟩
  have hcase' := Lib.hid hcase
  have hB := hA.call1 (by with_reducible repeat (first | exact Sel.here | apply Sel.there)) hT
  clear hF hA hT hcase
  have hA := hB
  clear hB
  simp only [List.cons_append, List.nil_append] at hA
  have hF := hA.facts
  (try simp only [setL, List.set_cons_zero, List.set_cons_succ, List.cons_append, List.nil_append] at hA); (have hF := hA.facts); (try simp only [facts_cons, facts_nil, facts_cells, facts_old, facts_fact, facts_obj, facts_map, facts_iter, and_true, true_and] at hF)
  go_wp2_with (first | ((with_reducible show wpList _ _ _ ({ dst := _, op := Op.store _ _ _, type := _, pos := _, after := _, guard := _ } :: _) _ _); refine wpList_store_at rfl rfl rfl (by (try simp only [Act.eval, Array.getD_eq_getD_getElem?, List.getElem?_toArray, List.getElem?_cons_succ, List.getElem?_cons_zero, Option.getD_some]) <;> exact rfl) (by exact rfl) hA (by with_reducible repeat (first | exact Sel.here | apply Sel.there)) (by kernel_rfl) rfl (by first | decide | (simp; done) | omega) ?_; intro w1 hB; clear hF hA; have hA := hB; clear hB; (try simp only [setL, List.set_cons_zero, List.set_cons_succ, List.cons_append, List.nil_append] at hA); (have hF := hA.facts); (try simp only [facts_cons, facts_nil, facts_cells, facts_old, facts_fact, facts_obj, facts_map, facts_iter, and_true, true_and] at hF)) | ((with_reducible show wpList _ _ _ ({ dst := _, op := Op.box _ _, type := _, pos := _, after := _, guard := _ } :: _) _ _); refine wpList_box_at rfl rfl (by (try simp only [Act.eval, Array.getD_eq_getD_getElem?, List.getElem?_toArray, List.getElem?_cons_succ, List.getElem?_cons_zero, Option.getD_some]) <;> exact rfl) (by exact rfl) hA ?_; intro b1 w1 hB hb1; clear hF hA; have hA := hB; clear hB; (try simp only [setL, List.set_cons_zero, List.set_cons_succ, List.cons_append, List.nil_append] at hA); (have hF := hA.facts); (try simp only [facts_cons, facts_nil, facts_cells, facts_old, facts_fact, facts_obj, facts_map, facts_iter, and_true, true_and] at hF)))
  refine (doc_tell (hA.seps (by with_reducible repeat (first | exact Picks.nil | refine Picks.cons (by with_reducible repeat (first | exact Sel.here | apply Sel.there)) ?_))) hpool'.out ⟨o.req, o.ans.e, o.ans.n, o.ans.g⟩ (by omega) hrs'.out.told.len (code := c) hcd'.out.symm).mono ?_
  rintro e w1 (⟨hc, rfl, hT⟩ | ⟨hc, v', ax, cap, rfl, hT⟩)
  · have hss' : ss' = ss := by
      rcases hcase'.out with ⟨_, q⟩ | ⟨q, _⟩
      · exact q
      · exact absurd q hc
    subst hss'
    have hB := hA.call2 (by with_reducible repeat (first | exact Sel.here | apply Sel.there)) (by with_reducible repeat (first | exact Sel.here | apply Sel.there)) hT
    clear hF hA hT hcase'
    have hc' := Lib.hid hc
    clear hc
    have hA := hB
    clear hB
    simp only [List.cons_append, List.nil_append] at hA
    have hF := hA.facts
    (try simp only [setL, List.set_cons_zero, List.set_cons_succ, List.cons_append, List.nil_append] at hA); (have hF := hA.facts); (try simp only [facts_cons, facts_nil, facts_cells, facts_old, facts_fact, facts_obj, facts_map, facts_iter, and_true, true_and] at hF)
    go_wp2_with (first | ((with_reducible show wpList _ _ _ ({ dst := _, op := Op.store _ _ _, type := _, pos := _, after := _, guard := _ } :: _) _ _); refine wpList_store_at rfl rfl rfl (by (try simp only [Act.eval, Array.getD_eq_getD_getElem?, List.getElem?_toArray, List.getElem?_cons_succ, List.getElem?_cons_zero, Option.getD_some]) <;> exact rfl) (by exact rfl) hA (by with_reducible repeat (first | exact Sel.here | apply Sel.there)) (by kernel_rfl) rfl (by first | decide | (simp; done) | omega) ?_; intro w1 hB; clear hF hA; have hA := hB; clear hB; (try simp only [setL, List.set_cons_zero, List.set_cons_succ, List.cons_append, List.nil_append] at hA); (have hF := hA.facts); (try simp only [facts_cons, facts_nil, facts_cells, facts_old, facts_fact, facts_obj, facts_map, facts_iter, and_true, true_and] at hF)) | ((with_reducible show wpList _ _ _ ({ dst := _, op := Op.box _ _, type := _, pos := _, after := _, guard := _ } :: _) _ _); refine wpList_box_at rfl rfl (by (try simp only [Act.eval, Array.getD_eq_getD_getElem?, List.getElem?_toArray, List.getElem?_cons_succ, List.getElem?_cons_zero, Option.getD_some]) <;> exact rfl) (by exact rfl) hA ?_; intro b1 w1 hB hb1; clear hF hA; have hA := hB; clear hB; (try simp only [setL, List.set_cons_zero, List.set_cons_succ, List.cons_append, List.nil_append] at hA); (have hF := hA.facts); (try simp only [facts_cons, facts_nil, facts_cells, facts_old, facts_fact, facts_obj, facts_map, facts_iter, and_true, true_and] at hF)))
    refine bodyPost_ret (v := .tuple #[.agg #[.slice vx vn vc], .bool true]) (by simp [results, Try.results6, go_sem, hF]) rfl ?_
    exact ⟨_, _, L, PL, rfl, hA.pick (by with_reducible repeat (first | exact Picks.nil | refine Picks.cons (by with_reducible repeat (first | exact Sel.here | apply Sel.there)) ?_)), hI'.out, by omega⟩
  · have hturn : Turned ss o.num o.foot (fun s => s.tell o.req o.ans) ss' := by
      rcases hcase'.out with ⟨q, _⟩ | ⟨_, q⟩
      · exact absurd hc q
      · exact q
    have hturn' := Lib.hid hturn
    subst hc
    have hB := hA.call2 (by with_reducible repeat (first | exact Sel.here | apply Sel.there)) (by with_reducible repeat (first | exact Sel.here | apply Sel.there)) hT
    clear hF hA hT hcase' hturn
    obtain ⟨ax4, n4, cap4, hv4, hn4⟩ := hB.row_hid .here
    subst hv4
    have hA := hB
    clear hB
    simp only [List.cons_append, List.nil_append] at hA
    have hF := hA.facts
    (try simp only [setL, List.set_cons_zero, List.set_cons_succ, List.cons_append, List.nil_append] at hA); (have hF := hA.facts); (try simp only [facts_cons, facts_nil, facts_cells, facts_old, facts_fact, facts_obj, facts_map, facts_iter, and_true, true_and] at hF)
    go_wp2_with (first | ((with_reducible show wpList _ _ _ ({ dst := _, op := Op.store _ _ _, type := _, pos := _, after := _, guard := _ } :: _) _ _); refine wpList_store_at rfl rfl rfl (by (try simp only [Act.eval, Array.getD_eq_getD_getElem?, List.getElem?_toArray, List.getElem?_cons_succ, List.getElem?_cons_zero, Option.getD_some]) <;> exact rfl) (by exact rfl) hA (by with_reducible repeat (first | exact Sel.here | apply Sel.there)) (by kernel_rfl) rfl (by first | decide | (simp; done) | omega) ?_; intro w1 hB; clear hF hA; have hA := hB; clear hB; (try simp only [setL, List.set_cons_zero, List.set_cons_succ, List.cons_append, List.nil_append] at hA); (have hF := hA.facts); (try simp only [facts_cons, facts_nil, facts_cells, facts_old, facts_fact, facts_obj, facts_map, facts_iter, and_true, true_and] at hF)) | ((with_reducible show wpList _ _ _ ({ dst := _, op := Op.box _ _, type := _, pos := _, after := _, guard := _ } :: _) _ _); refine wpList_box_at rfl rfl (by (try simp only [Act.eval, Array.getD_eq_getD_getElem?, List.getElem?_toArray, List.getElem?_cons_succ, List.getElem?_cons_zero, Option.getD_some]) <;> exact rfl) (by exact rfl) hA ?_; intro b1 w1 hB hb1; clear hF hA; have hA := hB; clear hB; (try simp only [setL, List.set_cons_zero, List.set_cons_succ, List.cons_append, List.nil_append] at hA); (have hF := hA.facts); (try simp only [facts_cons, facts_nil, facts_cells, facts_old, facts_fact, facts_obj, facts_map, facts_iter, and_true, true_and] at hF)))
    refine bodyPost_ret (v := .tuple #[.agg #[.slice ax4 n4 cap4], .bool true]) (by simp [results, Try.results6, go_sem, hF]) rfl ?_
    have hnew := hI'.out.tell (n := o.num) (f := o.foot) (x := ⟨o.req, o.ans.e, o.ans.n, o.ans.g⟩) (c := o.ans) rfl ⟨ho'.out.r0, ho'.out.r1⟩ ho'.out.an ho'.out.f2 (by rw [hs'.out]; exact hcd'.out) hturn'.out ax cap
    rw [hs'.out] at hnew
    exact ⟨ss', _, _, _, rfl, hA.pick (by with_reducible repeat (first | exact Picks.nil | refine Picks.cons (by with_reducible repeat (first | exact Sel.here | apply Sel.there)) ?_)), hnew, Nat.le_trans (put_len _) (by omega)⟩
/-- so many are told -/
def Rel7 (L0 : List Part) (w : World) (L : List SR) (p m bB bO bZ bS bA : Nat) (cO cS : List Value) (o : OpR) (N : Nat) (k : Nat) (u : Value) (wr : World) : Prop :=
  ∃ (i : Nat) (ss' : List Ses) (v' : Value) (L' : List SR) (PL' : List (Value × List AR)) (q : Int), u = .int .i64 i ∧ i + k = N ∧ At L0 w [BookP p m ss', rowR v' L', poolP PL', Part.cells bB [v'] 28, Part.cells bO cO 36, Part.cells bZ [.slice none 0 0] 28, Part.cells bS cS 47, Part.cells bA [.int .u64 q, .int .i64 o.ans.e, .int .u64 o.ans.n, .bool o.ans.g] 61] wr ∧ Inv ss' L' PL' ∧ L'.length ≤ L.length + i
set_option maxRecDepth 100000 in
set_option maxHeartbeats 4000000 in
theorem step_7 {w : World} {p m : Nat} {ss : List Ses} {v : Value} {L : List SR} {PL : List (Value × List AR)} (h : Sep [BookP p m ss, rowR v L, poolP PL] w) (hI : Inv ss L PL) (o : OpR) (ho : o.Ok) (hmax : L.length ≤ 100000) :
    Calls Try.prog 6 #[.pointer (some ⟨p, 0, none⟩), .agg #[v], opV 7 o] w (StepOut w p m ss v L PL) := by
  have hA := At.start h
  have hF := hA.facts
  clear h
  obtain ⟨vx, vn, vc, hv, hvn⟩ := hA.row_hid (v := v) (n := L.length) (xs := flatR L) (by with_reducible repeat (first | exact Sel.here | apply Sel.there))
  subst hv
  have hss : ss.length ≤ 100000 := by rw [hI.rel.len]; exact hmax
  obtain ⟨s, hs⟩ : ∃ s, findR L o.num o.foot = s := ⟨_, rfl⟩
  have hs' := Lib.hid hs
  have hrs : RelS (look ss o.num o.foot) s := by rw [← hs]; exact hI.rel.look _ _
  have hpool : (s.tv, s.told) ∈ PL := by rw [← hs]; exact hI.found _ _
  have hsk : s.num = o.num ∧ s.foot = o.foot := by rw [← hs]; exact findR_key
  have hrs' := Lib.hid hrs
  have hpool' := Lib.hid hpool
  have hsk' := Lib.hid hsk
  have hI' := Lib.hid hI
  have ho' := Lib.hid ho
  clear hs hrs hpool hsk hI ho
  obtain ⟨N, hN⟩ : ∃ N : Nat, max (min o.many 300) 0 = (N : Int) := ⟨(max (min o.many 300) 0).toNat, by omega⟩
  have hN300 : N ≤ 300 := by omega
  unfold opV
  go_enter Try.func6, Try.ntmps6
  go_wp2_with (first | ((with_reducible show wpList _ _ _ ({ dst := _, op := Op.box _ _, type := _, pos := _, after := _, guard := _ } :: _) _ _); refine wpList_box_at (E := 28) rfl rfl (by (try simp only [Act.eval, Array.getD_eq_getD_getElem?, List.getElem?_toArray, List.getElem?_cons_succ, List.getElem?_cons_zero, Option.getD_some]) <;> exact rfl) (by exact rfl) hA ?_; intro bB w1 hB hbB; clear hF hA; have hA := hB; clear hB; (try simp only [setL, List.set_cons_zero, List.set_cons_succ, List.cons_append, List.nil_append] at hA); (have hF := hA.facts); (try simp only [facts_cons, facts_nil, facts_cells, facts_old, facts_fact, facts_obj, facts_map, facts_iter, and_true, true_and] at hF)) | ((with_reducible show wpList _ _ _ ({ dst := _, op := Op.box _ _, type := _, pos := _, after := _, guard := _ } :: _) _ _); refine wpList_box_at (E := 36) rfl rfl (by (try simp only [Act.eval, Array.getD_eq_getD_getElem?, List.getElem?_toArray, List.getElem?_cons_succ, List.getElem?_cons_zero, Option.getD_some]) <;> exact rfl) (by exact rfl) hA ?_; intro bO w1 hB hbO; clear hF hA; have hA := hB; clear hB; (try simp only [setL, List.set_cons_zero, List.set_cons_succ, List.cons_append, List.nil_append] at hA); (have hF := hA.facts); (try simp only [facts_cons, facts_nil, facts_cells, facts_old, facts_fact, facts_obj, facts_map, facts_iter, and_true, true_and] at hF)) | ((with_reducible show wpList _ _ _ ({ dst := _, op := Op.alloc _, type := _, pos := _, after := _, guard := _ } :: _) _ _); refine wpList_alloc_at (E := 28) (z := .agg #[.slice none 0 0]) (vs := [.slice none 0 0]) rfl rfl (by kernel_rfl) rfl hA ?_; intro bZ w1 hB hbZ; clear hF hA; have hA := hB; clear hB; (try simp only [setL, List.set_cons_zero, List.set_cons_succ, List.cons_append, List.nil_append] at hA); (have hF := hA.facts); (try simp only [facts_cons, facts_nil, facts_cells, facts_old, facts_fact, facts_obj, facts_map, facts_iter, and_true, true_and] at hF)) | ((with_reducible show wpList _ _ _ ({ dst := _, op := Op.store _ _ _, type := _, pos := _, after := _, guard := _ } :: _) _ _); refine wpList_store_at rfl rfl rfl (by (try simp only [Act.eval, Array.getD_eq_getD_getElem?, List.getElem?_toArray, List.getElem?_cons_succ, List.getElem?_cons_zero, Option.getD_some]) <;> exact rfl) (by exact rfl) hA (by with_reducible repeat (first | exact Sel.here | apply Sel.there)) (by kernel_rfl) rfl (by first | decide | (simp; done) | omega) ?_; intro w1 hB; clear hF hA; have hA := hB; clear hB; (try simp only [setL, List.set_cons_zero, List.set_cons_succ, List.cons_append, List.nil_append] at hA); (have hF := hA.facts); (try simp only [facts_cons, facts_nil, facts_cells, facts_old, facts_fact, facts_obj, facts_map, facts_iter, and_true, true_and] at hF)) | ((with_reducible show wpList _ _ _ ({ dst := _, op := Op.box _ _, type := _, pos := _, after := _, guard := _ } :: _) _ _); refine wpList_box_at rfl rfl (by (try simp only [Act.eval, Array.getD_eq_getD_getElem?, List.getElem?_toArray, List.getElem?_cons_succ, List.getElem?_cons_zero, Option.getD_some]) <;> exact rfl) (by exact rfl) hA ?_; intro b1 w1 hB hb1; clear hF hA; have hA := hB; clear hB; (try simp only [setL, List.set_cons_zero, List.set_cons_succ, List.cons_append, List.nil_append] at hA); (have hF := hA.facts); (try simp only [facts_cons, facts_nil, facts_cells, facts_old, facts_fact, facts_obj, facts_map, facts_iter, and_true, true_and] at hF)))
  refine (findR_any (hA.sep1 (by with_reducible repeat (first | exact Sel.here | apply Sel.there))) o.num o.foot (by omega)).mono ?_
  rw [hs'.out]
  rintro e w1 ⟨rfl, hT⟩; have hB := hA.call1 (by with_reducible repeat (first | exact Sel.here | apply Sel.there)) hT; clear hF hA hT; have hA := hB; clear hB; (try simp only [setL, List.set_cons_zero, List.set_cons_succ, List.cons_append, List.nil_append] at hA); (have hF := hA.facts); (try simp only [facts_cons, facts_nil, facts_cells, facts_old, facts_fact, facts_obj, facts_map, facts_iter, and_true, true_and] at hF)
  go_wp2_with (first | ((with_reducible show wpList _ _ _ ({ dst := _, op := Op.alloc _, type := _, pos := _, after := _, guard := _ } :: _) _ _); refine wpList_alloc_at (E := 47) (z := .agg #[.int .u64 0, .string .empty, .bool false, .bool false, .int .i64 0, .int .i64 0, .slice none 0 0]) (vs := [.int .u64 0, .string .empty, .bool false, .bool false, .int .i64 0, .int .i64 0, .slice none 0 0]) rfl rfl (by kernel_rfl) rfl hA ?_; intro bS w1 hB hbS; clear hF hA; have hA := hB; clear hB; (try simp only [setL, List.set_cons_zero, List.set_cons_succ, List.cons_append, List.nil_append] at hA); (have hF := hA.facts); (try simp only [facts_cons, facts_nil, facts_cells, facts_old, facts_fact, facts_obj, facts_map, facts_iter, and_true, true_and] at hF)) | ((with_reducible show wpList _ _ _ ({ dst := _, op := Op.alloc _, type := _, pos := _, after := _, guard := _ } :: _) _ _); refine wpList_alloc_at (E := 61) (z := .agg #[.int .u64 0, .int .i64 0, .int .u64 0, .bool false]) (vs := [.int .u64 0, .int .i64 0, .int .u64 0, .bool false]) rfl rfl (by kernel_rfl) rfl hA ?_; intro bA w1 hB hbA; clear hF hA; have hA := hB; clear hB; (try simp only [setL, List.set_cons_zero, List.set_cons_succ, List.cons_append, List.nil_append] at hA); (have hF := hA.facts); (try simp only [facts_cons, facts_nil, facts_cells, facts_old, facts_fact, facts_obj, facts_map, facts_iter, and_true, true_and] at hF)) | (refine wpList_store_at (b := bS) (j := 0) (vs := SR.cells s) rfl rfl rfl (by (try simp only [Act.eval, Array.getD_eq_getD_getElem?, List.getElem?_toArray, List.getElem?_cons_succ, List.getElem?_cons_zero, Option.getD_some]) <;> exact rfl) (by exact rfl) hA (by with_reducible repeat (first | exact Sel.here | apply Sel.there)) (by kernel_rfl) (SR.ones _) (by show 0 + 7 ≤ 7; omega) ?_; intro w1 hB; clear hF hA; have hA := hB; clear hB; simp only [SR.cells] at hA; (try simp only [setL, List.set_cons_zero, List.set_cons_succ, List.cons_append, List.nil_append] at hA); (have hF := hA.facts); (try simp only [facts_cons, facts_nil, facts_cells, facts_old, facts_fact, facts_obj, facts_map, facts_iter, and_true, true_and] at hF)) | ((with_reducible show wpList _ _ _ ({ dst := _, op := Op.store _ _ _, type := _, pos := _, after := _, guard := _ } :: _) _ _); refine wpList_store_at rfl rfl rfl (by (try simp only [Act.eval, Array.getD_eq_getD_getElem?, List.getElem?_toArray, List.getElem?_cons_succ, List.getElem?_cons_zero, Option.getD_some]) <;> exact rfl) (by exact rfl) hA (by with_reducible repeat (first | exact Sel.here | apply Sel.there)) (by kernel_rfl) rfl (by first | decide | (simp; done) | omega) ?_; intro w1 hB; clear hF hA; have hA := hB; clear hB; (try simp only [setL, List.set_cons_zero, List.set_cons_succ, List.cons_append, List.nil_append] at hA); (have hF := hA.facts); (try simp only [facts_cons, facts_nil, facts_cells, facts_old, facts_fact, facts_obj, facts_map, facts_iter, and_true, true_and] at hF)) | ((with_reducible show wpList _ _ _ ({ dst := _, op := Op.box _ _, type := _, pos := _, after := _, guard := _ } :: _) _ _); refine wpList_box_at rfl rfl (by (try simp only [Act.eval, Array.getD_eq_getD_getElem?, List.getElem?_toArray, List.getElem?_cons_succ, List.getElem?_cons_zero, Option.getD_some]) <;> exact rfl) (by exact rfl) hA ?_; intro b1 w1 hB hb1; clear hF hA; have hA := hB; clear hB; (try simp only [setL, List.set_cons_zero, List.set_cons_succ, List.cons_append, List.nil_append] at hA); (have hF := hA.facts); (try simp only [facts_cons, facts_nil, facts_cells, facts_old, facts_fact, facts_obj, facts_map, facts_iter, and_true, true_and] at hF)))
  try go_frame
  go_loopg [156] N (Rel7 [BookP p m ss, rowR (.slice vx vn vc) L, poolP PL] w L p m bB bO bZ bS bA _ _ o N)
  case atStart => exact ⟨0, ss, _, L, PL, _, by simp, by simp, hA.pick (by repeat (first | exact Picks.nil | refine Picks.cons (by repeat (first | exact Sel.here | apply Sel.there)) ?_)), hI'.out, by omega⟩
  case round =>
    obtain ⟨i, ss1, v1, L1, PL1, q, rfl, hik, hB, hI1, hL1⟩ := hrel
    have hI1' := Lib.hid hI1
    clear hF hA hI1
    have hA := hB
    clear hB
    have hF := hA.facts
    (try simp only [setL, List.set_cons_zero, List.set_cons_succ, List.cons_append, List.nil_append] at hA); (have hF := hA.facts); (try simp only [facts_cons, facts_nil, facts_cells, facts_old, facts_fact, facts_obj, facts_map, facts_iter, and_true, true_and] at hF)
    obtain ⟨vx1, vn1, vc1, hv1, hvn1⟩ := hA.row_hid (v := v1) (n := L1.length) (xs := flatR L1) (by with_reducible repeat (first | exact Sel.here | apply Sel.there))
    subst hv1
    by_cases hi : i < N
    · obtain ⟨s1, hs1⟩ : ∃ s1, findR L1 o.num o.foot = s1 := ⟨_, rfl⟩
      have hs1' := Lib.hid hs1
      have hrs1 := Lib.hid (show RelS (look ss1 o.num o.foot) s1 by rw [← hs1]; exact hI1'.out.rel.look _ _)
      have hpool1 := Lib.hid (show (s1.tv, s1.told) ∈ PL1 by rw [← hs1]; exact hI1'.out.found _ _)
      clear hs1
      have hwr : IntKind.u64.wrap (i : Int) = (i : Int) := by rw [IntKind.wrap_u64]; omega
      go_wp2_with (first | ((with_reducible show wpList _ _ _ ({ dst := _, op := Op.store _ _ _, type := _, pos := _, after := _, guard := _ } :: _) _ _); refine wpList_store_at rfl rfl rfl (by (try simp only [Act.eval, Array.getD_eq_getD_getElem?, List.getElem?_toArray, List.getElem?_cons_succ, List.getElem?_cons_zero, Option.getD_some]) <;> exact rfl) (by exact rfl) hA (by with_reducible repeat (first | exact Sel.here | apply Sel.there)) (by kernel_rfl) rfl (by first | decide | (simp; done) | omega) ?_; intro w1 hB; clear hF hA; have hA := hB; clear hB; (try simp only [setL, List.set_cons_zero, List.set_cons_succ, List.cons_append, List.nil_append] at hA); (have hF := hA.facts); (try simp only [facts_cons, facts_nil, facts_cells, facts_old, facts_fact, facts_obj, facts_map, facts_iter, and_true, true_and] at hF)) | ((with_reducible show wpList _ _ _ ({ dst := _, op := Op.box _ _, type := _, pos := _, after := _, guard := _ } :: _) _ _); refine wpList_box_at rfl rfl (by (try simp only [Act.eval, Array.getD_eq_getD_getElem?, List.getElem?_toArray, List.getElem?_cons_succ, List.getElem?_cons_zero, Option.getD_some]) <;> exact rfl) (by exact rfl) hA ?_; intro b1 w1 hB hb1; clear hF hA; have hA := hB; clear hB; (try simp only [setL, List.set_cons_zero, List.set_cons_succ, List.cons_append, List.nil_append] at hA); (have hF := hA.facts); (try simp only [facts_cons, facts_nil, facts_cells, facts_old, facts_fact, facts_obj, facts_map, facts_iter, and_true, true_and] at hF)))
      refine (book_tell (hA.sep1 (by with_reducible repeat (first | exact Sel.here | apply Sel.there))) ho'.out.n0 ho'.out.n1 ho'.out.f (r := (i : Int)) (by omega) (by unfold big64; omega) o.ans).mono ?_
      rw [hrs1.out.tellE (i : Int)]
      generalize hcd : (if (saidA s1.told (i : Int)).isSome = true then (1 : Int) else if 256 ≤ s1.told.length then 1 else 0) = c at *
      have hcd' := Lib.hid hcd
      clear hcd
      rintro e w1 ⟨ss', rfl, hT, hcase⟩
      have hcase' := Lib.hid hcase
      have hB := hA.call1 (by with_reducible repeat (first | exact Sel.here | apply Sel.there)) hT
      clear hF hA hT hcase
      have hA := hB
      clear hB
      simp only [List.cons_append, List.nil_append] at hA
      have hF := hA.facts
      (try simp only [setL, List.set_cons_zero, List.set_cons_succ, List.cons_append, List.nil_append] at hA); (have hF := hA.facts); (try simp only [facts_cons, facts_nil, facts_cells, facts_old, facts_fact, facts_obj, facts_map, facts_iter, and_true, true_and] at hF)
      go_wp2_with (first | ((with_reducible show wpList _ _ _ ({ dst := _, op := Op.store _ _ _, type := _, pos := _, after := _, guard := _ } :: _) _ _); refine wpList_store_at rfl rfl rfl (by (try simp only [Act.eval, Array.getD_eq_getD_getElem?, List.getElem?_toArray, List.getElem?_cons_succ, List.getElem?_cons_zero, Option.getD_some]) <;> exact rfl) (by exact rfl) hA (by with_reducible repeat (first | exact Sel.here | apply Sel.there)) (by kernel_rfl) rfl (by first | decide | (simp; done) | omega) ?_; intro w1 hB; clear hF hA; have hA := hB; clear hB; (try simp only [setL, List.set_cons_zero, List.set_cons_succ, List.cons_append, List.nil_append] at hA); (have hF := hA.facts); (try simp only [facts_cons, facts_nil, facts_cells, facts_old, facts_fact, facts_obj, facts_map, facts_iter, and_true, true_and] at hF)) | ((with_reducible show wpList _ _ _ ({ dst := _, op := Op.box _ _, type := _, pos := _, after := _, guard := _ } :: _) _ _); refine wpList_box_at rfl rfl (by (try simp only [Act.eval, Array.getD_eq_getD_getElem?, List.getElem?_toArray, List.getElem?_cons_succ, List.getElem?_cons_zero, Option.getD_some]) <;> exact rfl) (by exact rfl) hA ?_; intro b1 w1 hB hb1; clear hF hA; have hA := hB; clear hB; (try simp only [setL, List.set_cons_zero, List.set_cons_succ, List.cons_append, List.nil_append] at hA); (have hF := hA.facts); (try simp only [facts_cons, facts_nil, facts_cells, facts_old, facts_fact, facts_obj, facts_map, facts_iter, and_true, true_and] at hF)))
      try go_frame
      (refine wp_region_head 10 (Cl _ _ _) (by kernel_rfl) (by kernel_rfl) (Cl.drew hA) ?_); (simp only [List.take_succ_cons, List.take_zero, List.drop_succ_cons, List.drop_zero]); (have hn1 := Cl.none hA); (have hn2 := Cl.none2 hA); (repeat (first | go_big_quiet_skip | (go_big_quiet_want; (first | (refine quiet_loads_at (ty := 28) (n := 1) rfl rfl (by with_reducible repeat (first | exact Sel.here | apply Sel.there)) (by kernel_rfl) (by kernel_rfl) (by first | assumption | ((try simp only [List.drop_succ_cons, List.drop_zero, List.take_succ_cons, List.take_zero]) <;> exact rfl)) (by exact rfl) ?_; go_frame; go_big_quiet_on) | (refine quiet_loads_at (ty := 61) (n := 4) rfl rfl (by with_reducible repeat (first | exact Sel.here | apply Sel.there)) (by kernel_rfl) (by kernel_rfl) (by first | assumption | ((try simp only [List.drop_succ_cons, List.drop_zero, List.take_succ_cons, List.take_zero]) <;> exact rfl)) (by exact rfl) ?_; go_frame; go_big_quiet_on) | (refine quiet_load_at rfl rfl (by with_reducible repeat (first | exact Sel.here | apply Sel.there)) (by kernel_rfl) (by first | assumption | exact rfl) ?_; go_frame; go_big_quiet_on) | (go_big_quiet_op; (first | go_big_quiet_on | ((apply Exists.intro); (refine ⟨fun w1 hw => ?_, ?_⟩); (focus ((have hw := Cl.out hw); (exact through1 hw (A := rowR (.slice vx1 vn1 vc1) L1) (by with_reducible repeat (first | exact Sel.here | apply Sel.there)) (fun q => findR_any q o.num o.foot (by omega))))); (go_big_quiet_on))))))))
      (refine wpQuiet_nil ?_); (intro w1 hB); (clear hF hA hn1 hn2); (have hA := Cl.out hB); (clear hB); (try simp only [setL, List.set_cons_zero, List.set_cons_succ, List.cons_append, List.nil_append] at hA); (have hF := hA.facts); (try simp only [facts_cons, facts_nil, facts_cells, facts_old, facts_fact, facts_obj, facts_map, facts_iter, and_true, true_and] at hF)
      rw [hs1'.out]
      go_wp2_with fail
      refine (doc_tell (hA.seps (by with_reducible repeat (first | exact Picks.nil | refine Picks.cons (by with_reducible repeat (first | exact Sel.here | apply Sel.there)) ?_))) hpool1.out ⟨i, o.ans.e, o.ans.n, o.ans.g⟩ (by omega) hrs1.out.told.len (code := c) hcd'.out.symm).mono ?_
      rintro e w1 (⟨hc, rfl, hT⟩ | ⟨hc, v', ax, cap, rfl, hT⟩)
      · have hss' : ss' = ss1 := by
          rcases hcase'.out with ⟨_, q⟩ | ⟨q, _⟩
          · exact q
          · exact absurd q hc
        subst hss'
        have hB := hA.call2 (by with_reducible repeat (first | exact Sel.here | apply Sel.there)) (by with_reducible repeat (first | exact Sel.here | apply Sel.there)) hT
        clear hF hA hT hcase'
        have hc' := Lib.hid hc
        clear hc
        have hA := hB
        clear hB
        simp only [List.cons_append, List.nil_append] at hA
        have hF := hA.facts
        (try simp only [setL, List.set_cons_zero, List.set_cons_succ, List.cons_append, List.nil_append] at hA); (have hF := hA.facts); (try simp only [facts_cons, facts_nil, facts_cells, facts_old, facts_fact, facts_obj, facts_map, facts_iter, and_true, true_and] at hF)
        go_wp2_with (first | ((with_reducible show wpList _ _ _ ({ dst := _, op := Op.store _ _ _, type := _, pos := _, after := _, guard := _ } :: _) _ _); refine wpList_store_at rfl rfl rfl (by (try simp only [Act.eval, Array.getD_eq_getD_getElem?, List.getElem?_toArray, List.getElem?_cons_succ, List.getElem?_cons_zero, Option.getD_some]) <;> exact rfl) (by exact rfl) hA (by with_reducible repeat (first | exact Sel.here | apply Sel.there)) (by kernel_rfl) rfl (by first | decide | (simp; done) | omega) ?_; intro w1 hB; clear hF hA; have hA := hB; clear hB; (try simp only [setL, List.set_cons_zero, List.set_cons_succ, List.cons_append, List.nil_append] at hA); (have hF := hA.facts); (try simp only [facts_cons, facts_nil, facts_cells, facts_old, facts_fact, facts_obj, facts_map, facts_iter, and_true, true_and] at hF)) | ((with_reducible show wpList _ _ _ ({ dst := _, op := Op.box _ _, type := _, pos := _, after := _, guard := _ } :: _) _ _); refine wpList_box_at rfl rfl (by (try simp only [Act.eval, Array.getD_eq_getD_getElem?, List.getElem?_toArray, List.getElem?_cons_succ, List.getElem?_cons_zero, Option.getD_some]) <;> exact rfl) (by exact rfl) hA ?_; intro b1 w1 hB hb1; clear hF hA; have hA := hB; clear hB; (try simp only [setL, List.set_cons_zero, List.set_cons_succ, List.cons_append, List.nil_append] at hA); (have hF := hA.facts); (try simp only [facts_cons, facts_nil, facts_cells, facts_old, facts_fact, facts_obj, facts_map, facts_iter, and_true, true_and] at hF)))
        go_roundg (gk - 1)
        case measure => omega
        case rel => exact ⟨i + 1, _, _, L1, PL1, _, by simp, by omega, hA.pick (by with_reducible repeat (first | exact Picks.nil | refine Picks.cons (by with_reducible repeat (first | exact Sel.here | apply Sel.there)) ?_)), hI1'.out, by omega⟩
      · have hturn : Turned ss1 o.num o.foot (fun s => s.tell i o.ans) ss' := by
          rcases hcase'.out with ⟨q, _⟩ | ⟨_, q⟩
          · exact absurd hc q
          · exact q
        have hturn' := Lib.hid hturn
        subst hc
        have hB := hA.call2 (by with_reducible repeat (first | exact Sel.here | apply Sel.there)) (by with_reducible repeat (first | exact Sel.here | apply Sel.there)) hT
        clear hF hA hT hcase' hturn
        obtain ⟨ax4, n4, cap4, hv4, hn4⟩ := hB.row_hid .here
        subst hv4
        have hA := hB
        clear hB
        simp only [List.cons_append, List.nil_append] at hA
        have hF := hA.facts
        (try simp only [setL, List.set_cons_zero, List.set_cons_succ, List.cons_append, List.nil_append] at hA); (have hF := hA.facts); (try simp only [facts_cons, facts_nil, facts_cells, facts_old, facts_fact, facts_obj, facts_map, facts_iter, and_true, true_and] at hF)
        have hnew := hI1'.out.tell (n := o.num) (f := o.foot) (x := ⟨i, o.ans.e, o.ans.n, o.ans.g⟩) (c := o.ans) rfl ⟨by show (0 : Int) ≤ i; omega, by show (i : Int) < big64; unfold big64; omega⟩ ho'.out.an ho'.out.f2 (by rw [hs1'.out]; exact hcd'.out) hturn'.out ax cap
        rw [hs1'.out] at hnew
        have hnew' := Lib.hid hnew
        clear hnew
        go_wp2_with (first | ((with_reducible show wpList _ _ _ ({ dst := _, op := Op.store _ _ _, type := _, pos := _, after := _, guard := _ } :: _) _ _); refine wpList_store_at rfl rfl rfl (by (try simp only [Act.eval, Array.getD_eq_getD_getElem?, List.getElem?_toArray, List.getElem?_cons_succ, List.getElem?_cons_zero, Option.getD_some]) <;> exact rfl) (by exact rfl) hA (by with_reducible repeat (first | exact Sel.here | apply Sel.there)) (by kernel_rfl) rfl (by first | decide | (simp; done) | omega) ?_; intro w1 hB; clear hF hA; have hA := hB; clear hB; (try simp only [setL, List.set_cons_zero, List.set_cons_succ, List.cons_append, List.nil_append] at hA); (have hF := hA.facts); (try simp only [facts_cons, facts_nil, facts_cells, facts_old, facts_fact, facts_obj, facts_map, facts_iter, and_true, true_and] at hF)) | ((with_reducible show wpList _ _ _ ({ dst := _, op := Op.box _ _, type := _, pos := _, after := _, guard := _ } :: _) _ _); refine wpList_box_at rfl rfl (by (try simp only [Act.eval, Array.getD_eq_getD_getElem?, List.getElem?_toArray, List.getElem?_cons_succ, List.getElem?_cons_zero, Option.getD_some]) <;> exact rfl) (by exact rfl) hA ?_; intro b1 w1 hB hb1; clear hF hA; have hA := hB; clear hB; (try simp only [setL, List.set_cons_zero, List.set_cons_succ, List.cons_append, List.nil_append] at hA); (have hF := hA.facts); (try simp only [facts_cons, facts_nil, facts_cells, facts_old, facts_fact, facts_obj, facts_map, facts_iter, and_true, true_and] at hF)))
        go_roundg (gk - 1)
        case measure => omega
        case rel => exact ⟨i + 1, _, _, _, _, _, by simp, by omega, hA.pick (by with_reducible repeat (first | exact Picks.nil | refine Picks.cons (by with_reducible repeat (first | exact Sel.here | apply Sel.there)) ?_)), hnew'.out, Nat.le_trans (put_len _) (by omega)⟩
    · go_wp2_with (first | ((with_reducible show wpList _ _ _ ({ dst := _, op := Op.store _ _ _, type := _, pos := _, after := _, guard := _ } :: _) _ _); refine wpList_store_at rfl rfl rfl (by (try simp only [Act.eval, Array.getD_eq_getD_getElem?, List.getElem?_toArray, List.getElem?_cons_succ, List.getElem?_cons_zero, Option.getD_some]) <;> exact rfl) (by exact rfl) hA (by with_reducible repeat (first | exact Sel.here | apply Sel.there)) (by kernel_rfl) rfl (by first | decide | (simp; done) | omega) ?_; intro w1 hB; clear hF hA; have hA := hB; clear hB; (try simp only [setL, List.set_cons_zero, List.set_cons_succ, List.cons_append, List.nil_append] at hA); (have hF := hA.facts); (try simp only [facts_cons, facts_nil, facts_cells, facts_old, facts_fact, facts_obj, facts_map, facts_iter, and_true, true_and] at hF)) | ((with_reducible show wpList _ _ _ ({ dst := _, op := Op.box _ _, type := _, pos := _, after := _, guard := _ } :: _) _ _); refine wpList_box_at rfl rfl (by (try simp only [Act.eval, Array.getD_eq_getD_getElem?, List.getElem?_toArray, List.getElem?_cons_succ, List.getElem?_cons_zero, Option.getD_some]) <;> exact rfl) (by exact rfl) hA ?_; intro b1 w1 hB hb1; clear hF hA; have hA := hB; clear hB; (try simp only [setL, List.set_cons_zero, List.set_cons_succ, List.cons_append, List.nil_append] at hA); (have hF := hA.facts); (try simp only [facts_cons, facts_nil, facts_cells, facts_old, facts_fact, facts_obj, facts_map, facts_iter, and_true, true_and] at hF)))
      refine bodyPost_ret (v := .tuple #[.agg #[.slice vx1 vn1 vc1], .bool true]) (by simp [results, Try.results6, go_sem, hF]) rfl ?_
      exact ⟨_, _, L1, PL1, rfl, hA.pick (by with_reducible repeat (first | exact Picks.nil | refine Picks.cons (by with_reducible repeat (first | exact Sel.here | apply Sel.there)) ?_)), hI1'.out, by omega⟩
end Go.Proofs.Ytnkddjomanaadaa.Lease
end

section
namespace Go.Proofs.Ytnkddjomanaadaa.Lease
open Go.RowKit
set_option linter.unusedSimpArgs false
set_option linter.unusedVariables false

theorem Inv.opened {ss ss' : List Ses} {L : List SR} {PL : List (Value × List AR)} (h : Inv ss L PL) {n : Int} {f : ByteArray} {ttl time : Int} (hfs : f.size ≤ 2000000) (hc : openRE (findR L n f) (cntR L f) = 0) (ht : Turned ss n f (fun s => s.opened ttl time) ss') : Inv ss' (putR L ((findR L n f).opened ttl time)) PL := by
  have hdd : (findR L n f).dead = false := by
    cases q : (findR L n f).dead
    · rfl
    · simp [openRE, q] at hc
  have hr := h.rel.turned (ga := fun a => a.opened ttl time) ht (fun _ => rfl) (fun s1 a1 r1 _ ea => r1.opened ttl time (by rw [ea]; exact hdd))
  exact h.put hr (fun q hq => hq) (h.found n f) (by show (findR L n f).foot.size ≤ 2000000; rw [findR_key.2]; exact hfs)
theorem wpOp_val0 {P : Program} {ops : Array Oper} {Q : Exit → Act → World → Prop} {i : Nat} {o : Oper} {K : Act → World → Prop} {a : Act} {w : World} (ho : ops[i]? = some o) (hw : Region.wanted o (yielded ops a.tmps) = true) {v : Value} (hrun : (execOp a.eval o).run P w = .ok (.value v) w) (hK : K (a.put o.dst v) w) : wpOp P ops Q i K a w := wpOp_val ho hw hrun hK
/-- so many are opened -/
def Rel6 (L0 : List Part) (w : World) (L : List SR) (PL : List (Value × List AR)) (p m bB bO bZ bS bA : Nat) (cO cS cA : List Value) (N : Nat) (k : Nat) (u : Value) (wr : World) : Prop :=
  ∃ (i : Nat) (ss' : List Ses) (v' : Value) (L' : List SR), u = .int .i64 i ∧ i + k = N ∧ At L0 w [BookP p m ss', rowR v' L', poolP PL, Part.cells bB [v'] 28, Part.cells bO cO 36, Part.cells bZ [.slice none 0 0] 28, Part.cells bS cS 47, Part.cells bA cA 61] wr ∧ Inv ss' L' PL ∧ L'.length ≤ L.length + i
set_option maxRecDepth 100000 in
set_option maxHeartbeats 8000000 in
theorem step_6 {w : World} {p m : Nat} {ss : List Ses} {v : Value} {L : List SR} {PL : List (Value × List AR)} (h : Sep [BookP p m ss, rowR v L, poolP PL] w) (hI : Inv ss L PL) (o : OpR) (ho : o.Ok) (hmax : L.length ≤ 100000) :
    Calls Try.prog 6 #[.pointer (some ⟨p, 0, none⟩), .agg #[v], opV 6 o] w (StepOut w p m ss v L PL) := by
  have hA := At.start h
  have hF := hA.facts
  clear h
  obtain ⟨vx, vn, vc, hv, hvn⟩ := hA.row_hid (v := v) (n := L.length) (xs := flatR L) (by with_reducible repeat (first | exact Sel.here | apply Sel.there))
  subst hv
  have hss : ss.length ≤ 100000 := by rw [hI.rel.len]; exact hmax
  obtain ⟨s, hs⟩ : ∃ s, findR L o.num o.foot = s := ⟨_, rfl⟩
  have hs' := Lib.hid hs
  have hrs : RelS (look ss o.num o.foot) s := by rw [← hs]; exact hI.rel.look _ _
  have hpool : (s.tv, s.told) ∈ PL := by rw [← hs]; exact hI.found _ _
  have hsk : s.num = o.num ∧ s.foot = o.foot := by rw [← hs]; exact findR_key
  have hrs' := Lib.hid hrs
  have hpool' := Lib.hid hpool
  have hsk' := Lib.hid hsk
  have hI' := Lib.hid hI
  have ho' := Lib.hid ho
  clear hs hrs hpool hsk hI ho
  obtain ⟨N, hN⟩ : ∃ N : Nat, max (min o.many 40) 0 = (N : Int) := ⟨(max (min o.many 40) 0).toNat, by omega⟩
  have hN300 : N ≤ 40 := by omega
  unfold opV
  go_enter Try.func6, Try.ntmps6
  go_wp2_with (first | ((with_reducible show wpList _ _ _ ({ dst := _, op := Op.box _ _, type := _, pos := _, after := _, guard := _ } :: _) _ _); refine wpList_box_at (E := 28) rfl rfl (by (try simp only [Act.eval, Array.getD_eq_getD_getElem?, List.getElem?_toArray, List.getElem?_cons_succ, List.getElem?_cons_zero, Option.getD_some]) <;> exact rfl) (by exact rfl) hA ?_; intro bB w1 hB hbB; clear hF hA; have hA := hB; clear hB; (try simp only [setL, List.set_cons_zero, List.set_cons_succ, List.cons_append, List.nil_append] at hA); (have hF := hA.facts); (try simp only [facts_cons, facts_nil, facts_cells, facts_old, facts_fact, facts_obj, facts_map, facts_iter, and_true, true_and] at hF)) | ((with_reducible show wpList _ _ _ ({ dst := _, op := Op.box _ _, type := _, pos := _, after := _, guard := _ } :: _) _ _); refine wpList_box_at (E := 36) rfl rfl (by (try simp only [Act.eval, Array.getD_eq_getD_getElem?, List.getElem?_toArray, List.getElem?_cons_succ, List.getElem?_cons_zero, Option.getD_some]) <;> exact rfl) (by exact rfl) hA ?_; intro bO w1 hB hbO; clear hF hA; have hA := hB; clear hB; (try simp only [setL, List.set_cons_zero, List.set_cons_succ, List.cons_append, List.nil_append] at hA); (have hF := hA.facts); (try simp only [facts_cons, facts_nil, facts_cells, facts_old, facts_fact, facts_obj, facts_map, facts_iter, and_true, true_and] at hF)) | ((with_reducible show wpList _ _ _ ({ dst := _, op := Op.alloc _, type := _, pos := _, after := _, guard := _ } :: _) _ _); refine wpList_alloc_at (E := 28) (z := .agg #[.slice none 0 0]) (vs := [.slice none 0 0]) rfl rfl (by kernel_rfl) rfl hA ?_; intro bZ w1 hB hbZ; clear hF hA; have hA := hB; clear hB; (try simp only [setL, List.set_cons_zero, List.set_cons_succ, List.cons_append, List.nil_append] at hA); (have hF := hA.facts); (try simp only [facts_cons, facts_nil, facts_cells, facts_old, facts_fact, facts_obj, facts_map, facts_iter, and_true, true_and] at hF)) | ((with_reducible show wpList _ _ _ ({ dst := _, op := Op.store _ _ _, type := _, pos := _, after := _, guard := _ } :: _) _ _); refine wpList_store_at rfl rfl rfl (by (try simp only [Act.eval, Array.getD_eq_getD_getElem?, List.getElem?_toArray, List.getElem?_cons_succ, List.getElem?_cons_zero, Option.getD_some]) <;> exact rfl) (by exact rfl) hA (by with_reducible repeat (first | exact Sel.here | apply Sel.there)) (by kernel_rfl) rfl (by first | decide | (simp; done) | omega) ?_; intro w1 hB; clear hF hA; have hA := hB; clear hB; (try simp only [setL, List.set_cons_zero, List.set_cons_succ, List.cons_append, List.nil_append] at hA); (have hF := hA.facts); (try simp only [facts_cons, facts_nil, facts_cells, facts_old, facts_fact, facts_obj, facts_map, facts_iter, and_true, true_and] at hF)) | ((with_reducible show wpList _ _ _ ({ dst := _, op := Op.box _ _, type := _, pos := _, after := _, guard := _ } :: _) _ _); refine wpList_box_at rfl rfl (by (try simp only [Act.eval, Array.getD_eq_getD_getElem?, List.getElem?_toArray, List.getElem?_cons_succ, List.getElem?_cons_zero, Option.getD_some]) <;> exact rfl) (by exact rfl) hA ?_; intro b1 w1 hB hb1; clear hF hA; have hA := hB; clear hB; (try simp only [setL, List.set_cons_zero, List.set_cons_succ, List.cons_append, List.nil_append] at hA); (have hF := hA.facts); (try simp only [facts_cons, facts_nil, facts_cells, facts_old, facts_fact, facts_obj, facts_map, facts_iter, and_true, true_and] at hF)))
  refine (findR_any (hA.sep1 (by with_reducible repeat (first | exact Sel.here | apply Sel.there))) o.num o.foot (by omega)).mono ?_
  rw [hs'.out]
  rintro e w1 ⟨rfl, hT⟩; have hB := hA.call1 (by with_reducible repeat (first | exact Sel.here | apply Sel.there)) hT; clear hF hA hT; have hA := hB; clear hB; (try simp only [setL, List.set_cons_zero, List.set_cons_succ, List.cons_append, List.nil_append] at hA); (have hF := hA.facts); (try simp only [facts_cons, facts_nil, facts_cells, facts_old, facts_fact, facts_obj, facts_map, facts_iter, and_true, true_and] at hF)
  go_wp2_with (first | ((with_reducible show wpList _ _ _ ({ dst := _, op := Op.alloc _, type := _, pos := _, after := _, guard := _ } :: _) _ _); refine wpList_alloc_at (E := 47) (z := .agg #[.int .u64 0, .string .empty, .bool false, .bool false, .int .i64 0, .int .i64 0, .slice none 0 0]) (vs := [.int .u64 0, .string .empty, .bool false, .bool false, .int .i64 0, .int .i64 0, .slice none 0 0]) rfl rfl (by kernel_rfl) rfl hA ?_; intro bS w1 hB hbS; clear hF hA; have hA := hB; clear hB; (try simp only [setL, List.set_cons_zero, List.set_cons_succ, List.cons_append, List.nil_append] at hA); (have hF := hA.facts); (try simp only [facts_cons, facts_nil, facts_cells, facts_old, facts_fact, facts_obj, facts_map, facts_iter, and_true, true_and] at hF)) | ((with_reducible show wpList _ _ _ ({ dst := _, op := Op.alloc _, type := _, pos := _, after := _, guard := _ } :: _) _ _); refine wpList_alloc_at (E := 61) (z := .agg #[.int .u64 0, .int .i64 0, .int .u64 0, .bool false]) (vs := [.int .u64 0, .int .i64 0, .int .u64 0, .bool false]) rfl rfl (by kernel_rfl) rfl hA ?_; intro bA w1 hB hbA; clear hF hA; have hA := hB; clear hB; (try simp only [setL, List.set_cons_zero, List.set_cons_succ, List.cons_append, List.nil_append] at hA); (have hF := hA.facts); (try simp only [facts_cons, facts_nil, facts_cells, facts_old, facts_fact, facts_obj, facts_map, facts_iter, and_true, true_and] at hF)) | (refine wpList_store_at (b := bS) (j := 0) (vs := SR.cells s) rfl rfl rfl (by (try simp only [Act.eval, Array.getD_eq_getD_getElem?, List.getElem?_toArray, List.getElem?_cons_succ, List.getElem?_cons_zero, Option.getD_some]) <;> exact rfl) (by exact rfl) hA (by with_reducible repeat (first | exact Sel.here | apply Sel.there)) (by kernel_rfl) (SR.ones _) (by show 0 + 7 ≤ 7; omega) ?_; intro w1 hB; clear hF hA; have hA := hB; clear hB; simp only [SR.cells] at hA; (try simp only [setL, List.set_cons_zero, List.set_cons_succ, List.cons_append, List.nil_append] at hA); (have hF := hA.facts); (try simp only [facts_cons, facts_nil, facts_cells, facts_old, facts_fact, facts_obj, facts_map, facts_iter, and_true, true_and] at hF)) | ((with_reducible show wpList _ _ _ ({ dst := _, op := Op.store _ _ _, type := _, pos := _, after := _, guard := _ } :: _) _ _); refine wpList_store_at rfl rfl rfl (by (try simp only [Act.eval, Array.getD_eq_getD_getElem?, List.getElem?_toArray, List.getElem?_cons_succ, List.getElem?_cons_zero, Option.getD_some]) <;> exact rfl) (by exact rfl) hA (by with_reducible repeat (first | exact Sel.here | apply Sel.there)) (by kernel_rfl) rfl (by first | decide | (simp; done) | omega) ?_; intro w1 hB; clear hF hA; have hA := hB; clear hB; (try simp only [setL, List.set_cons_zero, List.set_cons_succ, List.cons_append, List.nil_append] at hA); (have hF := hA.facts); (try simp only [facts_cons, facts_nil, facts_cells, facts_old, facts_fact, facts_obj, facts_map, facts_iter, and_true, true_and] at hF)) | ((with_reducible show wpList _ _ _ ({ dst := _, op := Op.box _ _, type := _, pos := _, after := _, guard := _ } :: _) _ _); refine wpList_box_at rfl rfl (by (try simp only [Act.eval, Array.getD_eq_getD_getElem?, List.getElem?_toArray, List.getElem?_cons_succ, List.getElem?_cons_zero, Option.getD_some]) <;> exact rfl) (by exact rfl) hA ?_; intro b1 w1 hB hb1; clear hF hA; have hA := hB; clear hB; (try simp only [setL, List.set_cons_zero, List.set_cons_succ, List.cons_append, List.nil_append] at hA); (have hF := hA.facts); (try simp only [facts_cons, facts_nil, facts_cells, facts_old, facts_fact, facts_obj, facts_map, facts_iter, and_true, true_and] at hF)))
  try go_frame
  go_loopg [122] N (Rel6 [BookP p m ss, rowR (.slice vx vn vc) L, poolP PL] w L PL p m bB bO bZ bS bA _ _ _ N)
  case atStart => exact ⟨0, ss, _, L, by simp, by simp, hA.pick (by repeat (first | exact Picks.nil | refine Picks.cons (by repeat (first | exact Sel.here | apply Sel.there)) ?_)), hI'.out, by omega⟩
  case round =>
    obtain ⟨i, ss1, v1, L1, rfl, hik, hB, hI1, hL1⟩ := hrel
    have hI1' := Lib.hid hI1
    have hss1 : ss1.length ≤ 200000 := by rw [hI1.rel.len]; omega
    clear hF hA hI1
    have hA := hB
    clear hB
    have hF := hA.facts
    (try simp only [setL, List.set_cons_zero, List.set_cons_succ, List.cons_append, List.nil_append] at hA); (have hF := hA.facts); (try simp only [facts_cons, facts_nil, facts_cells, facts_old, facts_fact, facts_obj, facts_map, facts_iter, and_true, true_and] at hF)
    obtain ⟨vx1, vn1, vc1, hv1, hvn1⟩ := hA.row_hid (v := v1) (n := L1.length) (xs := flatR L1) (by with_reducible repeat (first | exact Sel.here | apply Sel.there))
    subst hv1
    by_cases hi : i < N
    · obtain ⟨kn, hkn⟩ : ∃ kn : Nat, 100 + i = kn := ⟨_, rfl⟩
      have ek : (100 : Int) + (i : Int) = (kn : Int) := by omega
      have hkb : (kn : Int) < 1000 := by omega
      have hwr : IntKind.u64.wrap (i : Int) = (i : Int) := by rw [IntKind.wrap_u64]; omega
      have hwk : IntKind.u64.wrap (kn : Int) = (kn : Int) := by rw [IntKind.wrap_u64]; omega
      clear hkn
      obtain ⟨s1, hs1⟩ : ∃ s1, findR L1 (kn : Int) o.foot = s1 := ⟨_, rfl⟩
      have hs1' := Lib.hid hs1
      have hsk1 : s1.foot = o.foot := by rw [← hs1]; exact findR_key.2
      clear hs1
      have hsk1' := Lib.hid hsk1
      clear hsk1
      go_wp2_with (first | ((with_reducible show wpList _ _ _ ({ dst := _, op := Op.alloc _, type := _, pos := _, after := _, guard := _ } :: _) _ _); refine wpList_alloc_at (E := 31) (z := .agg #[.int .u64 0, .string .empty]) (vs := [.int .u64 0, .string .empty]) rfl rfl (by kernel_rfl) rfl hA ?_; intro bK w1 hB hbK; clear hF hA; have hA := hB; clear hB; (try simp only [setL, List.set_cons_zero, List.set_cons_succ, List.cons_append, List.nil_append] at hA); (have hF := hA.facts); (try simp only [facts_cons, facts_nil, facts_cells, facts_old, facts_fact, facts_obj, facts_map, facts_iter, and_true, true_and] at hF)) | ((with_reducible show wpList _ _ _ ({ dst := _, op := Op.store _ _ _, type := _, pos := _, after := _, guard := _ } :: _) _ _); refine wpList_store_at rfl rfl rfl (by (try simp only [Act.eval, Array.getD_eq_getD_getElem?, List.getElem?_toArray, List.getElem?_cons_succ, List.getElem?_cons_zero, Option.getD_some]) <;> exact rfl) (by exact rfl) hA (by with_reducible repeat (first | exact Sel.here | apply Sel.there)) (by kernel_rfl) rfl (by first | decide | (simp; done) | omega) ?_; intro w1 hB; clear hF hA; have hA := hB; clear hB; (try simp only [setL, List.set_cons_zero, List.set_cons_succ, List.cons_append, List.nil_append] at hA); (have hF := hA.facts); (try simp only [facts_cons, facts_nil, facts_cells, facts_old, facts_fact, facts_obj, facts_map, facts_iter, and_true, true_and] at hF)) | ((with_reducible show wpList _ _ _ ({ dst := _, op := Op.box _ _, type := _, pos := _, after := _, guard := _ } :: _) _ _); refine wpList_box_at rfl rfl (by (try simp only [Act.eval, Array.getD_eq_getD_getElem?, List.getElem?_toArray, List.getElem?_cons_succ, List.getElem?_cons_zero, Option.getD_some]) <;> exact rfl) (by exact rfl) hA ?_; intro b1 w1 hB hb1; clear hF hA; have hA := hB; clear hB; (try simp only [setL, List.set_cons_zero, List.set_cons_succ, List.cons_append, List.nil_append] at hA); (have hF := hA.facts); (try simp only [facts_cons, facts_nil, facts_cells, facts_old, facts_fact, facts_obj, facts_map, facts_iter, and_true, true_and] at hF)))
      try go_frame
      (refine wp_region_headA 7 (Cl _ _ _) (by kernel_rfl) (by kernel_rfl) (Cl.drew hA) ?_); (simp only [List.take_succ_cons, List.take_zero, List.drop_succ_cons, List.drop_zero]); (have hn1 := Cl.none hA); (have hn2 := Cl.none2 hA); (repeat (first | go_big_quiet_skip | (go_big_quiet_want; (first | (refine quiet_loads_at (ty := 28) (n := 1) rfl rfl (by with_reducible repeat (first | exact Sel.here | apply Sel.there)) (by kernel_rfl) (by kernel_rfl) (by first | assumption | ((try simp only [List.drop_succ_cons, List.drop_zero, List.take_succ_cons, List.take_zero]) <;> exact rfl)) (by exact rfl) ?_; go_frame; go_big_quiet_on) | (refine quiet_load_at rfl rfl (by with_reducible repeat (first | exact Sel.here | apply Sel.there)) (by kernel_rfl) (by first | assumption | exact rfl) ?_; go_frame; go_big_quiet_on) | (go_big_quiet_op; (first | go_big_quiet_on | ((apply Exists.intro); (refine ⟨fun w1 hw => ?_, ?_⟩); (focus ((have hw := Cl.out hw); (exact through1 hw (A := rowR (.slice vx1 vn1 vc1) L1) (by with_reducible repeat (first | exact Sel.here | apply Sel.there)) (fun q => findR_any q (kn : Int) o.foot (by omega))))); (go_big_quiet_on))))))))
      (refine wpQuiet_nil ?_); (intro w1 hB); (clear hF hA hn1 hn2); (have hA := Cl.out hB); (clear hB); (try simp only [setL, List.set_cons_zero, List.set_cons_succ, List.cons_append, List.nil_append] at hA); (have hF := hA.facts); (try simp only [facts_cons, facts_nil, facts_cells, facts_old, facts_fact, facts_obj, facts_map, facts_iter, and_true, true_and] at hF)
      rw [hs1'.out]
      have hE := Lib.hid (hI1'.out.rel.openE (n := (kn : Int)) (f := o.foot))
      rw [hs1'.out] at hE
      have hd := openR_any (hA.sep1 (by with_reducible repeat (first | exact Sel.here | apply Sel.there))) s1 1 1 (by omega)
      unfold OpenPostR at hd
      simp only [hsk1'.out] at hd
      generalize hcd : openRE s1 (cntR L1 o.foot) = c at *
      have hcd' := Lib.hid hcd
      clear hcd
      refine wpAny_step (f := 5) [7] (by kernel_rfl) (by simp) ?_
      intro j hj
      obtain rfl : j = 7 := by simpa using hj
      refine wpOp_call rfl rfl (by kernel_rfl) hd ?_
      clear hd hj
      rintro e w2 (⟨hc, rfl, hT⟩ | ⟨hc, v', rfl, hT⟩)
      · refine ⟨_, rfl, ?_⟩
        go_frame
        have hc' := Lib.hid hc
        clear hc
        have hB := hA.call1 (by with_reducible repeat (first | exact Sel.here | apply Sel.there)) hT
        clear hF hA hT
        have hA := hB
        clear hB
        simp only [List.cons_append, List.nil_append] at hA
        have hF := hA.facts
        (try simp only [setL, List.set_cons_zero, List.set_cons_succ, List.cons_append, List.nil_append] at hA); (have hF := hA.facts); (try simp only [facts_cons, facts_nil, facts_cells, facts_old, facts_fact, facts_obj, facts_map, facts_iter, and_true, true_and] at hF)
        refine wpAny_step (f := 4) [8] (by kernel_rfl) (by simp) ?_
        intro j hj
        obtain rfl : j = 8 := by simpa using hj
        refine wpOp_val0 (v := .tuple #[.agg #[.slice vx1 vn1 vc1], .int .i64 c]) rfl rfl (by kernel_rfl) ?_
        go_frame
        refine wpAny_step (f := 3) [9, 10] (by kernel_rfl) (by simp) ?_
        intro j hj
        rcases (show j = 9 ∨ j = 10 by simpa using hj) with rfl | rfl
        · refine wpOp_val0 (v := .agg #[.slice vx1 vn1 vc1]) rfl rfl (by kernel_rfl) ?_
          go_frame
          refine wpAny_step (f := 2) [10, 11] (by kernel_rfl) (by simp) ?_
          intro j hj
          rcases (show j = 10 ∨ j = 11 by simpa using hj) with rfl | rfl
          · refine wpOp_val0 (v := .int .i64 c) rfl rfl (by kernel_rfl) ?_
            go_frame
            refine wpAny_step (f := 1) [11] (by kernel_rfl) (by simp) ?_
            intro j hj
            obtain rfl : j = 11 := by simpa using hj
            refine wpOp_store_at (b := bB) (j := 0) (vs := [.slice vx1 vn1 vc1]) rfl rfl rfl (by (try simp only [Act.eval, Array.getD_eq_getD_getElem?, List.getElem?_toArray, List.getElem?_cons_succ, List.getElem?_cons_zero, Option.getD_some]) <;> exact rfl) (by (try simp only [Act.eval, Array.getD_eq_getD_getElem?, List.getElem?_toArray, List.getElem?_cons_succ, List.getElem?_cons_zero, Option.getD_some]) <;> exact rfl) (by exact rfl) hA (by with_reducible repeat (first | exact Sel.here | apply Sel.there)) (by kernel_rfl) rfl (by show 0 + 1 ≤ 1; omega) ?_
            intro w1 hB; clear hF hA; have hA := hB; clear hB; (try simp only [setL, List.set_cons_zero, List.set_cons_succ, List.cons_append, List.nil_append] at hA); (have hF := hA.facts); (try simp only [facts_cons, facts_nil, facts_cells, facts_old, facts_fact, facts_obj, facts_map, facts_iter, and_true, true_and] at hF)
            go_frame
            refine wpAny_step (f := 0) [12] (by kernel_rfl) (by simp) ?_
            intro j hj
            obtain rfl : j = 12 := by simpa using hj
            refine wpOp_val0 (v := .int .i64 c) rfl rfl (by kernel_rfl) ?_
            go_frame
            refine wpAny_end (by kernel_rfl) ?_
            clear hj
            go_wp2_with (first | ((with_reducible show wpList _ _ _ ({ dst := _, op := Op.store _ _ _, type := _, pos := _, after := _, guard := _ } :: _) _ _); refine wpList_store_at rfl rfl rfl (by (try simp only [Act.eval, Array.getD_eq_getD_getElem?, List.getElem?_toArray, List.getElem?_cons_succ, List.getElem?_cons_zero, Option.getD_some]) <;> exact rfl) (by exact rfl) hA (by with_reducible repeat (first | exact Sel.here | apply Sel.there)) (by kernel_rfl) rfl (by first | decide | (simp; done) | omega) ?_; intro w1 hB; clear hF hA; have hA := hB; clear hB; (try simp only [setL, List.set_cons_zero, List.set_cons_succ, List.cons_append, List.nil_append] at hA); (have hF := hA.facts); (try simp only [facts_cons, facts_nil, facts_cells, facts_old, facts_fact, facts_obj, facts_map, facts_iter, and_true, true_and] at hF)) | ((with_reducible show wpList _ _ _ ({ dst := _, op := Op.box _ _, type := _, pos := _, after := _, guard := _ } :: _) _ _); refine wpList_box_at rfl rfl (by (try simp only [Act.eval, Array.getD_eq_getD_getElem?, List.getElem?_toArray, List.getElem?_cons_succ, List.getElem?_cons_zero, Option.getD_some]) <;> exact rfl) (by exact rfl) hA ?_; intro b1 w1 hB hb1; clear hF hA; have hA := hB; clear hB; (try simp only [setL, List.set_cons_zero, List.set_cons_succ, List.cons_append, List.nil_append] at hA); (have hF := hA.facts); (try simp only [facts_cons, facts_nil, facts_cells, facts_old, facts_fact, facts_obj, facts_map, facts_iter, and_true, true_and] at hF)))
            have hb := book_open (hA.sep1 (by with_reducible repeat (first | exact Sel.here | apply Sel.there))) (n := (kn : Int)) (by omega) (by unfold big64; omega) ho'.out.f (by omega) 1 1
            rw [hE.out] at hb
            refine hb.mono ?_
            clear hb
            rintro e w3 ⟨ss', rfl, hT, hcase⟩
            have hss' : ss' = ss1 := by
              rcases hcase with ⟨_, q⟩ | ⟨q, _⟩
              · exact q
              · exact absurd q hc'.out
            subst hss'
            have hB := hA.call1 (by with_reducible repeat (first | exact Sel.here | apply Sel.there)) hT
            clear hF hA hT hcase
            have hA := hB
            clear hB
            simp only [List.cons_append, List.nil_append] at hA
            have hF := hA.facts
            (try simp only [setL, List.set_cons_zero, List.set_cons_succ, List.cons_append, List.nil_append] at hA); (have hF := hA.facts); (try simp only [facts_cons, facts_nil, facts_cells, facts_old, facts_fact, facts_obj, facts_map, facts_iter, and_true, true_and] at hF)
            go_wp2_with (first | ((with_reducible show wpList _ _ _ ({ dst := _, op := Op.store _ _ _, type := _, pos := _, after := _, guard := _ } :: _) _ _); refine wpList_store_at rfl rfl rfl (by (try simp only [Act.eval, Array.getD_eq_getD_getElem?, List.getElem?_toArray, List.getElem?_cons_succ, List.getElem?_cons_zero, Option.getD_some]) <;> exact rfl) (by exact rfl) hA (by with_reducible repeat (first | exact Sel.here | apply Sel.there)) (by kernel_rfl) rfl (by first | decide | (simp; done) | omega) ?_; intro w1 hB; clear hF hA; have hA := hB; clear hB; (try simp only [setL, List.set_cons_zero, List.set_cons_succ, List.cons_append, List.nil_append] at hA); (have hF := hA.facts); (try simp only [facts_cons, facts_nil, facts_cells, facts_old, facts_fact, facts_obj, facts_map, facts_iter, and_true, true_and] at hF)) | ((with_reducible show wpList _ _ _ ({ dst := _, op := Op.box _ _, type := _, pos := _, after := _, guard := _ } :: _) _ _); refine wpList_box_at rfl rfl (by (try simp only [Act.eval, Array.getD_eq_getD_getElem?, List.getElem?_toArray, List.getElem?_cons_succ, List.getElem?_cons_zero, Option.getD_some]) <;> exact rfl) (by exact rfl) hA ?_; intro b1 w1 hB hb1; clear hF hA; have hA := hB; clear hB; (try simp only [setL, List.set_cons_zero, List.set_cons_succ, List.cons_append, List.nil_append] at hA); (have hF := hA.facts); (try simp only [facts_cons, facts_nil, facts_cells, facts_old, facts_fact, facts_obj, facts_map, facts_iter, and_true, true_and] at hF)))
            go_roundg (gk - 1)
            case measure => omega
            case rel => exact ⟨i + 1, _, _, L1, by simp, by omega, hA.pick (by with_reducible repeat (first | exact Picks.nil | refine Picks.cons (by with_reducible repeat (first | exact Sel.here | apply Sel.there)) ?_)), hI1'.out, by omega⟩
          · refine wpOp_store_at (b := bB) (j := 0) (vs := [.slice vx1 vn1 vc1]) rfl rfl rfl (by (try simp only [Act.eval, Array.getD_eq_getD_getElem?, List.getElem?_toArray, List.getElem?_cons_succ, List.getElem?_cons_zero, Option.getD_some]) <;> exact rfl) (by (try simp only [Act.eval, Array.getD_eq_getD_getElem?, List.getElem?_toArray, List.getElem?_cons_succ, List.getElem?_cons_zero, Option.getD_some]) <;> exact rfl) (by exact rfl) hA (by with_reducible repeat (first | exact Sel.here | apply Sel.there)) (by kernel_rfl) rfl (by show 0 + 1 ≤ 1; omega) ?_
            intro w1 hB; clear hF hA; have hA := hB; clear hB; (try simp only [setL, List.set_cons_zero, List.set_cons_succ, List.cons_append, List.nil_append] at hA); (have hF := hA.facts); (try simp only [facts_cons, facts_nil, facts_cells, facts_old, facts_fact, facts_obj, facts_map, facts_iter, and_true, true_and] at hF)
            go_frame
            refine wpAny_step (f := 1) [10] (by kernel_rfl) (by simp) ?_
            intro j hj
            obtain rfl : j = 10 := by simpa using hj
            refine wpOp_val0 (v := .int .i64 c) rfl rfl (by kernel_rfl) ?_
            go_frame
            refine wpAny_step (f := 0) [12] (by kernel_rfl) (by simp) ?_
            intro j hj
            obtain rfl : j = 12 := by simpa using hj
            refine wpOp_val0 (v := .int .i64 c) rfl rfl (by kernel_rfl) ?_
            go_frame
            refine wpAny_end (by kernel_rfl) ?_
            clear hj
            go_wp2_with (first | ((with_reducible show wpList _ _ _ ({ dst := _, op := Op.store _ _ _, type := _, pos := _, after := _, guard := _ } :: _) _ _); refine wpList_store_at rfl rfl rfl (by (try simp only [Act.eval, Array.getD_eq_getD_getElem?, List.getElem?_toArray, List.getElem?_cons_succ, List.getElem?_cons_zero, Option.getD_some]) <;> exact rfl) (by exact rfl) hA (by with_reducible repeat (first | exact Sel.here | apply Sel.there)) (by kernel_rfl) rfl (by first | decide | (simp; done) | omega) ?_; intro w1 hB; clear hF hA; have hA := hB; clear hB; (try simp only [setL, List.set_cons_zero, List.set_cons_succ, List.cons_append, List.nil_append] at hA); (have hF := hA.facts); (try simp only [facts_cons, facts_nil, facts_cells, facts_old, facts_fact, facts_obj, facts_map, facts_iter, and_true, true_and] at hF)) | ((with_reducible show wpList _ _ _ ({ dst := _, op := Op.box _ _, type := _, pos := _, after := _, guard := _ } :: _) _ _); refine wpList_box_at rfl rfl (by (try simp only [Act.eval, Array.getD_eq_getD_getElem?, List.getElem?_toArray, List.getElem?_cons_succ, List.getElem?_cons_zero, Option.getD_some]) <;> exact rfl) (by exact rfl) hA ?_; intro b1 w1 hB hb1; clear hF hA; have hA := hB; clear hB; (try simp only [setL, List.set_cons_zero, List.set_cons_succ, List.cons_append, List.nil_append] at hA); (have hF := hA.facts); (try simp only [facts_cons, facts_nil, facts_cells, facts_old, facts_fact, facts_obj, facts_map, facts_iter, and_true, true_and] at hF)))
            have hb := book_open (hA.sep1 (by with_reducible repeat (first | exact Sel.here | apply Sel.there))) (n := (kn : Int)) (by omega) (by unfold big64; omega) ho'.out.f (by omega) 1 1
            rw [hE.out] at hb
            refine hb.mono ?_
            clear hb
            rintro e w3 ⟨ss', rfl, hT, hcase⟩
            have hss' : ss' = ss1 := by
              rcases hcase with ⟨_, q⟩ | ⟨q, _⟩
              · exact q
              · exact absurd q hc'.out
            subst hss'
            have hB := hA.call1 (by with_reducible repeat (first | exact Sel.here | apply Sel.there)) hT
            clear hF hA hT hcase
            have hA := hB
            clear hB
            simp only [List.cons_append, List.nil_append] at hA
            have hF := hA.facts
            (try simp only [setL, List.set_cons_zero, List.set_cons_succ, List.cons_append, List.nil_append] at hA); (have hF := hA.facts); (try simp only [facts_cons, facts_nil, facts_cells, facts_old, facts_fact, facts_obj, facts_map, facts_iter, and_true, true_and] at hF)
            go_wp2_with (first | ((with_reducible show wpList _ _ _ ({ dst := _, op := Op.store _ _ _, type := _, pos := _, after := _, guard := _ } :: _) _ _); refine wpList_store_at rfl rfl rfl (by (try simp only [Act.eval, Array.getD_eq_getD_getElem?, List.getElem?_toArray, List.getElem?_cons_succ, List.getElem?_cons_zero, Option.getD_some]) <;> exact rfl) (by exact rfl) hA (by with_reducible repeat (first | exact Sel.here | apply Sel.there)) (by kernel_rfl) rfl (by first | decide | (simp; done) | omega) ?_; intro w1 hB; clear hF hA; have hA := hB; clear hB; (try simp only [setL, List.set_cons_zero, List.set_cons_succ, List.cons_append, List.nil_append] at hA); (have hF := hA.facts); (try simp only [facts_cons, facts_nil, facts_cells, facts_old, facts_fact, facts_obj, facts_map, facts_iter, and_true, true_and] at hF)) | ((with_reducible show wpList _ _ _ ({ dst := _, op := Op.box _ _, type := _, pos := _, after := _, guard := _ } :: _) _ _); refine wpList_box_at rfl rfl (by (try simp only [Act.eval, Array.getD_eq_getD_getElem?, List.getElem?_toArray, List.getElem?_cons_succ, List.getElem?_cons_zero, Option.getD_some]) <;> exact rfl) (by exact rfl) hA ?_; intro b1 w1 hB hb1; clear hF hA; have hA := hB; clear hB; (try simp only [setL, List.set_cons_zero, List.set_cons_succ, List.cons_append, List.nil_append] at hA); (have hF := hA.facts); (try simp only [facts_cons, facts_nil, facts_cells, facts_old, facts_fact, facts_obj, facts_map, facts_iter, and_true, true_and] at hF)))
            go_roundg (gk - 1)
            case measure => omega
            case rel => exact ⟨i + 1, _, _, L1, by simp, by omega, hA.pick (by with_reducible repeat (first | exact Picks.nil | refine Picks.cons (by with_reducible repeat (first | exact Sel.here | apply Sel.there)) ?_)), hI1'.out, by omega⟩
        · refine wpOp_val0 (v := .int .i64 c) rfl rfl (by kernel_rfl) ?_
          go_frame
          refine wpAny_step (f := 2) [9] (by kernel_rfl) (by simp) ?_
          intro j hj
          obtain rfl : j = 9 := by simpa using hj
          refine wpOp_val0 (v := .agg #[.slice vx1 vn1 vc1]) rfl rfl (by kernel_rfl) ?_
          go_frame
          refine wpAny_step (f := 1) [11] (by kernel_rfl) (by simp) ?_
          intro j hj
          obtain rfl : j = 11 := by simpa using hj
          refine wpOp_store_at (b := bB) (j := 0) (vs := [.slice vx1 vn1 vc1]) rfl rfl rfl (by (try simp only [Act.eval, Array.getD_eq_getD_getElem?, List.getElem?_toArray, List.getElem?_cons_succ, List.getElem?_cons_zero, Option.getD_some]) <;> exact rfl) (by (try simp only [Act.eval, Array.getD_eq_getD_getElem?, List.getElem?_toArray, List.getElem?_cons_succ, List.getElem?_cons_zero, Option.getD_some]) <;> exact rfl) (by exact rfl) hA (by with_reducible repeat (first | exact Sel.here | apply Sel.there)) (by kernel_rfl) rfl (by show 0 + 1 ≤ 1; omega) ?_
          intro w1 hB; clear hF hA; have hA := hB; clear hB; (try simp only [setL, List.set_cons_zero, List.set_cons_succ, List.cons_append, List.nil_append] at hA); (have hF := hA.facts); (try simp only [facts_cons, facts_nil, facts_cells, facts_old, facts_fact, facts_obj, facts_map, facts_iter, and_true, true_and] at hF)
          go_frame
          refine wpAny_step (f := 0) [12] (by kernel_rfl) (by simp) ?_
          intro j hj
          obtain rfl : j = 12 := by simpa using hj
          refine wpOp_val0 (v := .int .i64 c) rfl rfl (by kernel_rfl) ?_
          go_frame
          refine wpAny_end (by kernel_rfl) ?_
          clear hj
          go_wp2_with (first | ((with_reducible show wpList _ _ _ ({ dst := _, op := Op.store _ _ _, type := _, pos := _, after := _, guard := _ } :: _) _ _); refine wpList_store_at rfl rfl rfl (by (try simp only [Act.eval, Array.getD_eq_getD_getElem?, List.getElem?_toArray, List.getElem?_cons_succ, List.getElem?_cons_zero, Option.getD_some]) <;> exact rfl) (by exact rfl) hA (by with_reducible repeat (first | exact Sel.here | apply Sel.there)) (by kernel_rfl) rfl (by first | decide | (simp; done) | omega) ?_; intro w1 hB; clear hF hA; have hA := hB; clear hB; (try simp only [setL, List.set_cons_zero, List.set_cons_succ, List.cons_append, List.nil_append] at hA); (have hF := hA.facts); (try simp only [facts_cons, facts_nil, facts_cells, facts_old, facts_fact, facts_obj, facts_map, facts_iter, and_true, true_and] at hF)) | ((with_reducible show wpList _ _ _ ({ dst := _, op := Op.box _ _, type := _, pos := _, after := _, guard := _ } :: _) _ _); refine wpList_box_at rfl rfl (by (try simp only [Act.eval, Array.getD_eq_getD_getElem?, List.getElem?_toArray, List.getElem?_cons_succ, List.getElem?_cons_zero, Option.getD_some]) <;> exact rfl) (by exact rfl) hA ?_; intro b1 w1 hB hb1; clear hF hA; have hA := hB; clear hB; (try simp only [setL, List.set_cons_zero, List.set_cons_succ, List.cons_append, List.nil_append] at hA); (have hF := hA.facts); (try simp only [facts_cons, facts_nil, facts_cells, facts_old, facts_fact, facts_obj, facts_map, facts_iter, and_true, true_and] at hF)))
          have hb := book_open (hA.sep1 (by with_reducible repeat (first | exact Sel.here | apply Sel.there))) (n := (kn : Int)) (by omega) (by unfold big64; omega) ho'.out.f (by omega) 1 1
          rw [hE.out] at hb
          refine hb.mono ?_
          clear hb
          rintro e w3 ⟨ss', rfl, hT, hcase⟩
          have hss' : ss' = ss1 := by
            rcases hcase with ⟨_, q⟩ | ⟨q, _⟩
            · exact q
            · exact absurd q hc'.out
          subst hss'
          have hB := hA.call1 (by with_reducible repeat (first | exact Sel.here | apply Sel.there)) hT
          clear hF hA hT hcase
          have hA := hB
          clear hB
          simp only [List.cons_append, List.nil_append] at hA
          have hF := hA.facts
          (try simp only [setL, List.set_cons_zero, List.set_cons_succ, List.cons_append, List.nil_append] at hA); (have hF := hA.facts); (try simp only [facts_cons, facts_nil, facts_cells, facts_old, facts_fact, facts_obj, facts_map, facts_iter, and_true, true_and] at hF)
          go_wp2_with (first | ((with_reducible show wpList _ _ _ ({ dst := _, op := Op.store _ _ _, type := _, pos := _, after := _, guard := _ } :: _) _ _); refine wpList_store_at rfl rfl rfl (by (try simp only [Act.eval, Array.getD_eq_getD_getElem?, List.getElem?_toArray, List.getElem?_cons_succ, List.getElem?_cons_zero, Option.getD_some]) <;> exact rfl) (by exact rfl) hA (by with_reducible repeat (first | exact Sel.here | apply Sel.there)) (by kernel_rfl) rfl (by first | decide | (simp; done) | omega) ?_; intro w1 hB; clear hF hA; have hA := hB; clear hB; (try simp only [setL, List.set_cons_zero, List.set_cons_succ, List.cons_append, List.nil_append] at hA); (have hF := hA.facts); (try simp only [facts_cons, facts_nil, facts_cells, facts_old, facts_fact, facts_obj, facts_map, facts_iter, and_true, true_and] at hF)) | ((with_reducible show wpList _ _ _ ({ dst := _, op := Op.box _ _, type := _, pos := _, after := _, guard := _ } :: _) _ _); refine wpList_box_at rfl rfl (by (try simp only [Act.eval, Array.getD_eq_getD_getElem?, List.getElem?_toArray, List.getElem?_cons_succ, List.getElem?_cons_zero, Option.getD_some]) <;> exact rfl) (by exact rfl) hA ?_; intro b1 w1 hB hb1; clear hF hA; have hA := hB; clear hB; (try simp only [setL, List.set_cons_zero, List.set_cons_succ, List.cons_append, List.nil_append] at hA); (have hF := hA.facts); (try simp only [facts_cons, facts_nil, facts_cells, facts_old, facts_fact, facts_obj, facts_map, facts_iter, and_true, true_and] at hF)))
          go_roundg (gk - 1)
          case measure => omega
          case rel => exact ⟨i + 1, _, _, L1, by simp, by omega, hA.pick (by with_reducible repeat (first | exact Picks.nil | refine Picks.cons (by with_reducible repeat (first | exact Sel.here | apply Sel.there)) ?_)), hI1'.out, by omega⟩
      · refine ⟨_, rfl, ?_⟩
        go_frame
        subst hc
        have hB := hA.call1 (by with_reducible repeat (first | exact Sel.here | apply Sel.there)) hT
        clear hF hA hT
        obtain ⟨ax4, n4, cap4, hv4, hn4⟩ := hB.row_hid .here
        subst hv4
        have hA := hB
        clear hB
        simp only [List.cons_append, List.nil_append] at hA
        have hF := hA.facts
        (try simp only [setL, List.set_cons_zero, List.set_cons_succ, List.cons_append, List.nil_append] at hA); (have hF := hA.facts); (try simp only [facts_cons, facts_nil, facts_cells, facts_old, facts_fact, facts_obj, facts_map, facts_iter, and_true, true_and] at hF)
        refine wpAny_step (f := 4) [8] (by kernel_rfl) (by simp) ?_
        intro j hj
        obtain rfl : j = 8 := by simpa using hj
        refine wpOp_val0 (v := .tuple #[.agg #[.slice ax4 n4 cap4], .int .i64 0]) rfl rfl (by kernel_rfl) ?_
        go_frame
        refine wpAny_step (f := 3) [9, 10] (by kernel_rfl) (by simp) ?_
        intro j hj
        rcases (show j = 9 ∨ j = 10 by simpa using hj) with rfl | rfl
        · refine wpOp_val0 (v := .agg #[.slice ax4 n4 cap4]) rfl rfl (by kernel_rfl) ?_
          go_frame
          refine wpAny_step (f := 2) [10, 11] (by kernel_rfl) (by simp) ?_
          intro j hj
          rcases (show j = 10 ∨ j = 11 by simpa using hj) with rfl | rfl
          · refine wpOp_val0 (v := .int .i64 0) rfl rfl (by kernel_rfl) ?_
            go_frame
            refine wpAny_step (f := 1) [11] (by kernel_rfl) (by simp) ?_
            intro j hj
            obtain rfl : j = 11 := by simpa using hj
            refine wpOp_store_at (b := bB) (j := 0) (vs := [.slice ax4 n4 cap4]) rfl rfl rfl (by (try simp only [Act.eval, Array.getD_eq_getD_getElem?, List.getElem?_toArray, List.getElem?_cons_succ, List.getElem?_cons_zero, Option.getD_some]) <;> exact rfl) (by (try simp only [Act.eval, Array.getD_eq_getD_getElem?, List.getElem?_toArray, List.getElem?_cons_succ, List.getElem?_cons_zero, Option.getD_some]) <;> exact rfl) (by exact rfl) hA (by with_reducible repeat (first | exact Sel.here | apply Sel.there)) (by kernel_rfl) rfl (by show 0 + 1 ≤ 1; omega) ?_
            intro w1 hB; clear hF hA; have hA := hB; clear hB; (try simp only [setL, List.set_cons_zero, List.set_cons_succ, List.cons_append, List.nil_append] at hA); (have hF := hA.facts); (try simp only [facts_cons, facts_nil, facts_cells, facts_old, facts_fact, facts_obj, facts_map, facts_iter, and_true, true_and] at hF)
            go_frame
            refine wpAny_step (f := 0) [12] (by kernel_rfl) (by simp) ?_
            intro j hj
            obtain rfl : j = 12 := by simpa using hj
            refine wpOp_val0 (v := .int .i64 0) rfl rfl (by kernel_rfl) ?_
            go_frame
            refine wpAny_end (by kernel_rfl) ?_
            clear hj
            go_wp2_with (first | ((with_reducible show wpList _ _ _ ({ dst := _, op := Op.store _ _ _, type := _, pos := _, after := _, guard := _ } :: _) _ _); refine wpList_store_at rfl rfl rfl (by (try simp only [Act.eval, Array.getD_eq_getD_getElem?, List.getElem?_toArray, List.getElem?_cons_succ, List.getElem?_cons_zero, Option.getD_some]) <;> exact rfl) (by exact rfl) hA (by with_reducible repeat (first | exact Sel.here | apply Sel.there)) (by kernel_rfl) rfl (by first | decide | (simp; done) | omega) ?_; intro w1 hB; clear hF hA; have hA := hB; clear hB; (try simp only [setL, List.set_cons_zero, List.set_cons_succ, List.cons_append, List.nil_append] at hA); (have hF := hA.facts); (try simp only [facts_cons, facts_nil, facts_cells, facts_old, facts_fact, facts_obj, facts_map, facts_iter, and_true, true_and] at hF)) | ((with_reducible show wpList _ _ _ ({ dst := _, op := Op.box _ _, type := _, pos := _, after := _, guard := _ } :: _) _ _); refine wpList_box_at rfl rfl (by (try simp only [Act.eval, Array.getD_eq_getD_getElem?, List.getElem?_toArray, List.getElem?_cons_succ, List.getElem?_cons_zero, Option.getD_some]) <;> exact rfl) (by exact rfl) hA ?_; intro b1 w1 hB hb1; clear hF hA; have hA := hB; clear hB; (try simp only [setL, List.set_cons_zero, List.set_cons_succ, List.cons_append, List.nil_append] at hA); (have hF := hA.facts); (try simp only [facts_cons, facts_nil, facts_cells, facts_old, facts_fact, facts_obj, facts_map, facts_iter, and_true, true_and] at hF)))
            have hb := book_open (hA.sep1 (by with_reducible repeat (first | exact Sel.here | apply Sel.there))) (n := (kn : Int)) (by omega) (by unfold big64; omega) ho'.out.f (by omega) 1 1
            rw [hE.out] at hb
            refine hb.mono ?_
            clear hb
            rintro e w3 ⟨ss', rfl, hT, hcase⟩
            have hturn : Turned ss1 (kn : Int) o.foot (fun s => s.opened 1 1) ss' := by
              rcases hcase with ⟨q, _⟩ | ⟨_, q⟩
              · exact absurd rfl q
              · exact q
            have hnew := hI1'.out.opened ho'.out.f2 (by rw [hs1'.out]; exact hcd'.out) hturn
            rw [hs1'.out] at hnew
            have hnew' := Lib.hid hnew
            have hB := hA.call1 (by with_reducible repeat (first | exact Sel.here | apply Sel.there)) hT
            clear hF hA hT hcase hnew hturn
            have hA := hB
            clear hB
            simp only [List.cons_append, List.nil_append] at hA
            have hF := hA.facts
            (try simp only [setL, List.set_cons_zero, List.set_cons_succ, List.cons_append, List.nil_append] at hA); (have hF := hA.facts); (try simp only [facts_cons, facts_nil, facts_cells, facts_old, facts_fact, facts_obj, facts_map, facts_iter, and_true, true_and] at hF)
            go_wp2_with (first | ((with_reducible show wpList _ _ _ ({ dst := _, op := Op.store _ _ _, type := _, pos := _, after := _, guard := _ } :: _) _ _); refine wpList_store_at rfl rfl rfl (by (try simp only [Act.eval, Array.getD_eq_getD_getElem?, List.getElem?_toArray, List.getElem?_cons_succ, List.getElem?_cons_zero, Option.getD_some]) <;> exact rfl) (by exact rfl) hA (by with_reducible repeat (first | exact Sel.here | apply Sel.there)) (by kernel_rfl) rfl (by first | decide | (simp; done) | omega) ?_; intro w1 hB; clear hF hA; have hA := hB; clear hB; (try simp only [setL, List.set_cons_zero, List.set_cons_succ, List.cons_append, List.nil_append] at hA); (have hF := hA.facts); (try simp only [facts_cons, facts_nil, facts_cells, facts_old, facts_fact, facts_obj, facts_map, facts_iter, and_true, true_and] at hF)) | ((with_reducible show wpList _ _ _ ({ dst := _, op := Op.box _ _, type := _, pos := _, after := _, guard := _ } :: _) _ _); refine wpList_box_at rfl rfl (by (try simp only [Act.eval, Array.getD_eq_getD_getElem?, List.getElem?_toArray, List.getElem?_cons_succ, List.getElem?_cons_zero, Option.getD_some]) <;> exact rfl) (by exact rfl) hA ?_; intro b1 w1 hB hb1; clear hF hA; have hA := hB; clear hB; (try simp only [setL, List.set_cons_zero, List.set_cons_succ, List.cons_append, List.nil_append] at hA); (have hF := hA.facts); (try simp only [facts_cons, facts_nil, facts_cells, facts_old, facts_fact, facts_obj, facts_map, facts_iter, and_true, true_and] at hF)))
            go_roundg (gk - 1)
            case measure => omega
            case rel => exact ⟨i + 1, _, _, _, by simp, by omega, hA.pick (by with_reducible repeat (first | exact Picks.nil | refine Picks.cons (by with_reducible repeat (first | exact Sel.here | apply Sel.there)) ?_)), hnew'.out, Nat.le_trans (put_len _) (by omega)⟩
          · refine wpOp_store_at (b := bB) (j := 0) (vs := [.slice ax4 n4 cap4]) rfl rfl rfl (by (try simp only [Act.eval, Array.getD_eq_getD_getElem?, List.getElem?_toArray, List.getElem?_cons_succ, List.getElem?_cons_zero, Option.getD_some]) <;> exact rfl) (by (try simp only [Act.eval, Array.getD_eq_getD_getElem?, List.getElem?_toArray, List.getElem?_cons_succ, List.getElem?_cons_zero, Option.getD_some]) <;> exact rfl) (by exact rfl) hA (by with_reducible repeat (first | exact Sel.here | apply Sel.there)) (by kernel_rfl) rfl (by show 0 + 1 ≤ 1; omega) ?_
            intro w1 hB; clear hF hA; have hA := hB; clear hB; (try simp only [setL, List.set_cons_zero, List.set_cons_succ, List.cons_append, List.nil_append] at hA); (have hF := hA.facts); (try simp only [facts_cons, facts_nil, facts_cells, facts_old, facts_fact, facts_obj, facts_map, facts_iter, and_true, true_and] at hF)
            go_frame
            refine wpAny_step (f := 1) [10] (by kernel_rfl) (by simp) ?_
            intro j hj
            obtain rfl : j = 10 := by simpa using hj
            refine wpOp_val0 (v := .int .i64 0) rfl rfl (by kernel_rfl) ?_
            go_frame
            refine wpAny_step (f := 0) [12] (by kernel_rfl) (by simp) ?_
            intro j hj
            obtain rfl : j = 12 := by simpa using hj
            refine wpOp_val0 (v := .int .i64 0) rfl rfl (by kernel_rfl) ?_
            go_frame
            refine wpAny_end (by kernel_rfl) ?_
            clear hj
            go_wp2_with (first | ((with_reducible show wpList _ _ _ ({ dst := _, op := Op.store _ _ _, type := _, pos := _, after := _, guard := _ } :: _) _ _); refine wpList_store_at rfl rfl rfl (by (try simp only [Act.eval, Array.getD_eq_getD_getElem?, List.getElem?_toArray, List.getElem?_cons_succ, List.getElem?_cons_zero, Option.getD_some]) <;> exact rfl) (by exact rfl) hA (by with_reducible repeat (first | exact Sel.here | apply Sel.there)) (by kernel_rfl) rfl (by first | decide | (simp; done) | omega) ?_; intro w1 hB; clear hF hA; have hA := hB; clear hB; (try simp only [setL, List.set_cons_zero, List.set_cons_succ, List.cons_append, List.nil_append] at hA); (have hF := hA.facts); (try simp only [facts_cons, facts_nil, facts_cells, facts_old, facts_fact, facts_obj, facts_map, facts_iter, and_true, true_and] at hF)) | ((with_reducible show wpList _ _ _ ({ dst := _, op := Op.box _ _, type := _, pos := _, after := _, guard := _ } :: _) _ _); refine wpList_box_at rfl rfl (by (try simp only [Act.eval, Array.getD_eq_getD_getElem?, List.getElem?_toArray, List.getElem?_cons_succ, List.getElem?_cons_zero, Option.getD_some]) <;> exact rfl) (by exact rfl) hA ?_; intro b1 w1 hB hb1; clear hF hA; have hA := hB; clear hB; (try simp only [setL, List.set_cons_zero, List.set_cons_succ, List.cons_append, List.nil_append] at hA); (have hF := hA.facts); (try simp only [facts_cons, facts_nil, facts_cells, facts_old, facts_fact, facts_obj, facts_map, facts_iter, and_true, true_and] at hF)))
            have hb := book_open (hA.sep1 (by with_reducible repeat (first | exact Sel.here | apply Sel.there))) (n := (kn : Int)) (by omega) (by unfold big64; omega) ho'.out.f (by omega) 1 1
            rw [hE.out] at hb
            refine hb.mono ?_
            clear hb
            rintro e w3 ⟨ss', rfl, hT, hcase⟩
            have hturn : Turned ss1 (kn : Int) o.foot (fun s => s.opened 1 1) ss' := by
              rcases hcase with ⟨q, _⟩ | ⟨_, q⟩
              · exact absurd rfl q
              · exact q
            have hnew := hI1'.out.opened ho'.out.f2 (by rw [hs1'.out]; exact hcd'.out) hturn
            rw [hs1'.out] at hnew
            have hnew' := Lib.hid hnew
            have hB := hA.call1 (by with_reducible repeat (first | exact Sel.here | apply Sel.there)) hT
            clear hF hA hT hcase hnew hturn
            have hA := hB
            clear hB
            simp only [List.cons_append, List.nil_append] at hA
            have hF := hA.facts
            (try simp only [setL, List.set_cons_zero, List.set_cons_succ, List.cons_append, List.nil_append] at hA); (have hF := hA.facts); (try simp only [facts_cons, facts_nil, facts_cells, facts_old, facts_fact, facts_obj, facts_map, facts_iter, and_true, true_and] at hF)
            go_wp2_with (first | ((with_reducible show wpList _ _ _ ({ dst := _, op := Op.store _ _ _, type := _, pos := _, after := _, guard := _ } :: _) _ _); refine wpList_store_at rfl rfl rfl (by (try simp only [Act.eval, Array.getD_eq_getD_getElem?, List.getElem?_toArray, List.getElem?_cons_succ, List.getElem?_cons_zero, Option.getD_some]) <;> exact rfl) (by exact rfl) hA (by with_reducible repeat (first | exact Sel.here | apply Sel.there)) (by kernel_rfl) rfl (by first | decide | (simp; done) | omega) ?_; intro w1 hB; clear hF hA; have hA := hB; clear hB; (try simp only [setL, List.set_cons_zero, List.set_cons_succ, List.cons_append, List.nil_append] at hA); (have hF := hA.facts); (try simp only [facts_cons, facts_nil, facts_cells, facts_old, facts_fact, facts_obj, facts_map, facts_iter, and_true, true_and] at hF)) | ((with_reducible show wpList _ _ _ ({ dst := _, op := Op.box _ _, type := _, pos := _, after := _, guard := _ } :: _) _ _); refine wpList_box_at rfl rfl (by (try simp only [Act.eval, Array.getD_eq_getD_getElem?, List.getElem?_toArray, List.getElem?_cons_succ, List.getElem?_cons_zero, Option.getD_some]) <;> exact rfl) (by exact rfl) hA ?_; intro b1 w1 hB hb1; clear hF hA; have hA := hB; clear hB; (try simp only [setL, List.set_cons_zero, List.set_cons_succ, List.cons_append, List.nil_append] at hA); (have hF := hA.facts); (try simp only [facts_cons, facts_nil, facts_cells, facts_old, facts_fact, facts_obj, facts_map, facts_iter, and_true, true_and] at hF)))
            go_roundg (gk - 1)
            case measure => omega
            case rel => exact ⟨i + 1, _, _, _, by simp, by omega, hA.pick (by with_reducible repeat (first | exact Picks.nil | refine Picks.cons (by with_reducible repeat (first | exact Sel.here | apply Sel.there)) ?_)), hnew'.out, Nat.le_trans (put_len _) (by omega)⟩
        · refine wpOp_val0 (v := .int .i64 0) rfl rfl (by kernel_rfl) ?_
          go_frame
          refine wpAny_step (f := 2) [9] (by kernel_rfl) (by simp) ?_
          intro j hj
          obtain rfl : j = 9 := by simpa using hj
          refine wpOp_val0 (v := .agg #[.slice ax4 n4 cap4]) rfl rfl (by kernel_rfl) ?_
          go_frame
          refine wpAny_step (f := 1) [11] (by kernel_rfl) (by simp) ?_
          intro j hj
          obtain rfl : j = 11 := by simpa using hj
          refine wpOp_store_at (b := bB) (j := 0) (vs := [.slice ax4 n4 cap4]) rfl rfl rfl (by (try simp only [Act.eval, Array.getD_eq_getD_getElem?, List.getElem?_toArray, List.getElem?_cons_succ, List.getElem?_cons_zero, Option.getD_some]) <;> exact rfl) (by (try simp only [Act.eval, Array.getD_eq_getD_getElem?, List.getElem?_toArray, List.getElem?_cons_succ, List.getElem?_cons_zero, Option.getD_some]) <;> exact rfl) (by exact rfl) hA (by with_reducible repeat (first | exact Sel.here | apply Sel.there)) (by kernel_rfl) rfl (by show 0 + 1 ≤ 1; omega) ?_
          intro w1 hB; clear hF hA; have hA := hB; clear hB; (try simp only [setL, List.set_cons_zero, List.set_cons_succ, List.cons_append, List.nil_append] at hA); (have hF := hA.facts); (try simp only [facts_cons, facts_nil, facts_cells, facts_old, facts_fact, facts_obj, facts_map, facts_iter, and_true, true_and] at hF)
          go_frame
          refine wpAny_step (f := 0) [12] (by kernel_rfl) (by simp) ?_
          intro j hj
          obtain rfl : j = 12 := by simpa using hj
          refine wpOp_val0 (v := .int .i64 0) rfl rfl (by kernel_rfl) ?_
          go_frame
          refine wpAny_end (by kernel_rfl) ?_
          clear hj
          go_wp2_with (first | ((with_reducible show wpList _ _ _ ({ dst := _, op := Op.store _ _ _, type := _, pos := _, after := _, guard := _ } :: _) _ _); refine wpList_store_at rfl rfl rfl (by (try simp only [Act.eval, Array.getD_eq_getD_getElem?, List.getElem?_toArray, List.getElem?_cons_succ, List.getElem?_cons_zero, Option.getD_some]) <;> exact rfl) (by exact rfl) hA (by with_reducible repeat (first | exact Sel.here | apply Sel.there)) (by kernel_rfl) rfl (by first | decide | (simp; done) | omega) ?_; intro w1 hB; clear hF hA; have hA := hB; clear hB; (try simp only [setL, List.set_cons_zero, List.set_cons_succ, List.cons_append, List.nil_append] at hA); (have hF := hA.facts); (try simp only [facts_cons, facts_nil, facts_cells, facts_old, facts_fact, facts_obj, facts_map, facts_iter, and_true, true_and] at hF)) | ((with_reducible show wpList _ _ _ ({ dst := _, op := Op.box _ _, type := _, pos := _, after := _, guard := _ } :: _) _ _); refine wpList_box_at rfl rfl (by (try simp only [Act.eval, Array.getD_eq_getD_getElem?, List.getElem?_toArray, List.getElem?_cons_succ, List.getElem?_cons_zero, Option.getD_some]) <;> exact rfl) (by exact rfl) hA ?_; intro b1 w1 hB hb1; clear hF hA; have hA := hB; clear hB; (try simp only [setL, List.set_cons_zero, List.set_cons_succ, List.cons_append, List.nil_append] at hA); (have hF := hA.facts); (try simp only [facts_cons, facts_nil, facts_cells, facts_old, facts_fact, facts_obj, facts_map, facts_iter, and_true, true_and] at hF)))
          have hb := book_open (hA.sep1 (by with_reducible repeat (first | exact Sel.here | apply Sel.there))) (n := (kn : Int)) (by omega) (by unfold big64; omega) ho'.out.f (by omega) 1 1
          rw [hE.out] at hb
          refine hb.mono ?_
          clear hb
          rintro e w3 ⟨ss', rfl, hT, hcase⟩
          have hturn : Turned ss1 (kn : Int) o.foot (fun s => s.opened 1 1) ss' := by
            rcases hcase with ⟨q, _⟩ | ⟨_, q⟩
            · exact absurd rfl q
            · exact q
          have hnew := hI1'.out.opened ho'.out.f2 (by rw [hs1'.out]; exact hcd'.out) hturn
          rw [hs1'.out] at hnew
          have hnew' := Lib.hid hnew
          have hB := hA.call1 (by with_reducible repeat (first | exact Sel.here | apply Sel.there)) hT
          clear hF hA hT hcase hnew hturn
          have hA := hB
          clear hB
          simp only [List.cons_append, List.nil_append] at hA
          have hF := hA.facts
          (try simp only [setL, List.set_cons_zero, List.set_cons_succ, List.cons_append, List.nil_append] at hA); (have hF := hA.facts); (try simp only [facts_cons, facts_nil, facts_cells, facts_old, facts_fact, facts_obj, facts_map, facts_iter, and_true, true_and] at hF)
          go_wp2_with (first | ((with_reducible show wpList _ _ _ ({ dst := _, op := Op.store _ _ _, type := _, pos := _, after := _, guard := _ } :: _) _ _); refine wpList_store_at rfl rfl rfl (by (try simp only [Act.eval, Array.getD_eq_getD_getElem?, List.getElem?_toArray, List.getElem?_cons_succ, List.getElem?_cons_zero, Option.getD_some]) <;> exact rfl) (by exact rfl) hA (by with_reducible repeat (first | exact Sel.here | apply Sel.there)) (by kernel_rfl) rfl (by first | decide | (simp; done) | omega) ?_; intro w1 hB; clear hF hA; have hA := hB; clear hB; (try simp only [setL, List.set_cons_zero, List.set_cons_succ, List.cons_append, List.nil_append] at hA); (have hF := hA.facts); (try simp only [facts_cons, facts_nil, facts_cells, facts_old, facts_fact, facts_obj, facts_map, facts_iter, and_true, true_and] at hF)) | ((with_reducible show wpList _ _ _ ({ dst := _, op := Op.box _ _, type := _, pos := _, after := _, guard := _ } :: _) _ _); refine wpList_box_at rfl rfl (by (try simp only [Act.eval, Array.getD_eq_getD_getElem?, List.getElem?_toArray, List.getElem?_cons_succ, List.getElem?_cons_zero, Option.getD_some]) <;> exact rfl) (by exact rfl) hA ?_; intro b1 w1 hB hb1; clear hF hA; have hA := hB; clear hB; (try simp only [setL, List.set_cons_zero, List.set_cons_succ, List.cons_append, List.nil_append] at hA); (have hF := hA.facts); (try simp only [facts_cons, facts_nil, facts_cells, facts_old, facts_fact, facts_obj, facts_map, facts_iter, and_true, true_and] at hF)))
          go_roundg (gk - 1)
          case measure => omega
          case rel => exact ⟨i + 1, _, _, _, by simp, by omega, hA.pick (by with_reducible repeat (first | exact Picks.nil | refine Picks.cons (by with_reducible repeat (first | exact Sel.here | apply Sel.there)) ?_)), hnew'.out, Nat.le_trans (put_len _) (by omega)⟩
    · go_wp2_with (first | ((with_reducible show wpList _ _ _ ({ dst := _, op := Op.store _ _ _, type := _, pos := _, after := _, guard := _ } :: _) _ _); refine wpList_store_at rfl rfl rfl (by (try simp only [Act.eval, Array.getD_eq_getD_getElem?, List.getElem?_toArray, List.getElem?_cons_succ, List.getElem?_cons_zero, Option.getD_some]) <;> exact rfl) (by exact rfl) hA (by with_reducible repeat (first | exact Sel.here | apply Sel.there)) (by kernel_rfl) rfl (by first | decide | (simp; done) | omega) ?_; intro w1 hB; clear hF hA; have hA := hB; clear hB; (try simp only [setL, List.set_cons_zero, List.set_cons_succ, List.cons_append, List.nil_append] at hA); (have hF := hA.facts); (try simp only [facts_cons, facts_nil, facts_cells, facts_old, facts_fact, facts_obj, facts_map, facts_iter, and_true, true_and] at hF)) | ((with_reducible show wpList _ _ _ ({ dst := _, op := Op.box _ _, type := _, pos := _, after := _, guard := _ } :: _) _ _); refine wpList_box_at rfl rfl (by (try simp only [Act.eval, Array.getD_eq_getD_getElem?, List.getElem?_toArray, List.getElem?_cons_succ, List.getElem?_cons_zero, Option.getD_some]) <;> exact rfl) (by exact rfl) hA ?_; intro b1 w1 hB hb1; clear hF hA; have hA := hB; clear hB; (try simp only [setL, List.set_cons_zero, List.set_cons_succ, List.cons_append, List.nil_append] at hA); (have hF := hA.facts); (try simp only [facts_cons, facts_nil, facts_cells, facts_old, facts_fact, facts_obj, facts_map, facts_iter, and_true, true_and] at hF)))
      refine bodyPost_ret (v := .tuple #[.agg #[.slice vx1 vn1 vc1], .bool true]) (by simp [results, Try.results6, go_sem, hF]) rfl ?_
      exact ⟨_, _, L1, PL, rfl, hA.pick (by with_reducible repeat (first | exact Picks.nil | refine Picks.cons (by with_reducible repeat (first | exact Sel.here | apply Sel.there)) ?_)), hI1'.out, by omega⟩
end Go.Proofs.Ytnkddjomanaadaa.Lease
end

section
namespace Go.Proofs.Ytnkddjomanaadaa.Lease
open Go.RowKit
open _root_.Go.Proofs.Ytnkddjomanaadaa.SortU (rowI sortI sortI_perm)
set_option linter.unusedSimpArgs false
set_option linter.unusedVariables false

theorem step_any {w : World} {p m : Nat} {ss : List Ses} {v : Value} {L : List SR} {PL : List (Value × List AR)} (h : Sep [BookP p m ss, rowR v L, poolP PL] w) (hI : Inv ss L PL) (o : OpR) (ho : o.Ok) (hmax : L.length ≤ 100000) (k : Int) :
    Calls Try.prog 6 #[.pointer (some ⟨p, 0, none⟩), .agg #[v], opV k o] w (StepOut w p m ss v L PL) := by
  by_cases h1 : k = 1
  · subst h1; exact step_1 h hI o ho hmax
  by_cases h2 : k = 2
  · subst h2; exact step_2 h hI o ho hmax
  by_cases h3 : k = 3
  · subst h3; exact step_3 h hI o ho hmax
  by_cases h4 : k = 4
  · subst h4; exact step_4 h hI o ho hmax
  by_cases h5 : k = 5
  · subst h5; exact step_5 h hI o ho hmax
  by_cases h6 : k = 6
  · subst h6; exact step_6 h hI o ho hmax
  by_cases h7 : k = 7
  · subst h7; exact step_7 h hI o ho hmax
  exact step_none h hI o ho hmax k h1 h2 h3 h4 h5 h6 h7

theorem Rel.mine {ss : List Ses} {L : List SR} (h : Rel ss L) {x : SR} (hx : x ∈ L) : RelS (Lease.look ss x.num x.foot) x := by
  rcases h.both x.num x.foot with ⟨_, h2, _⟩ | ⟨s, a, h1, _⟩
  · have := h2 x hx
    simp [SR.is] at this
  · obtain ⟨l1, l2, e, en, ef, _⟩ := find_split h1
    have e2 : Lease.look ss x.num x.foot = s := by unfold Lease.look; rw [h1]; rfl
    rw [e2]
    exact h.each s (by rw [e]; simp) x hx (by simp [keyE, keyR, en, ef])
/-- a book's information, by the document's session -/
theorem info_look {w : World} {p m : Nat} {ss : List Ses} (h : Sep [BookP p m ss] w) {n : Int} {f : ByteArray} (h0 : 0 ≤ n) (h1 : n < big64) (hf : f.size ≤ maxLen) {s : SR} (hrs : RelS (look ss n f) s) :
    Calls Try.prog 13 #[.pointer (some ⟨p, 0, none⟩), .agg #[.int .u64 n, .string f]] w fun e w' => e = .returned (.agg #[.bool s.op, .bool s.dead, .int .i64 s.dl, .int .i64 s.ttl, .int .i64 s.told.length]) ∧ At [BookP p m ss] w [BookP p m ss] w' := by
  cases hn : find ss n f with
  | none =>
    have hlk : look ss n f = fresh n f 0 0 := by unfold look; rw [hn]; rfl
    rw [hlk] at hrs
    have e := info_none h h0 h1 hf hn
    simp only [infoOf] at e
    rw [← hrs.op, ← hrs.dead, ← hrs.dl, ← hrs.ttl, ← hrs.told.size]
    exact e
  | some t =>
    have hlk : look ss n f = t := by unfold look; rw [hn]; rfl
    rw [hlk] at hrs
    have e := info_some h h0 h1 hf hn
    simp only [infoOf] at e
    rw [← hrs.op, ← hrs.dead, ← hrs.dl, ← hrs.ttl, ← hrs.told.size]
    exact e
theorem room_look {w : World} {p m : Nat} {ss : List Ses} (h : Sep [BookP p m ss] w) {n : Int} {f : ByteArray} (h0 : 0 ≤ n) (h1 : n < big64) (hf : f.size ≤ maxLen) {s : SR} (hrs : RelS (look ss n f) s) {b : Bool} (hb : decide ((s.told.length : Int) < 256) = b) :
    Calls Try.prog 37 #[.pointer (some ⟨p, 0, none⟩), .agg #[.int .u64 n, .string f]] w fun e w' => e = .returned (.bool b) ∧ At [BookP p m ss] w [BookP p m ss] w' := by
  have hl := hrs.told.size
  cases b
  · exact room_no h h0 h1 hf (by have := of_decide_eq_false hb; omega)
  · exact room_yes h h0 h1 hf (by have := of_decide_eq_true hb; omega)
theorem RelT.reqs {told : List (Int × Ans)} {l : List AR} (h : RelT told l) : sortI (told.map (·.1)) = l.map (·.r) := by
  have h1 : (told.map (·.1)).Perm (l.map (·.r)) := by
    have := h.perm.map (·.1)
    rw [List.map_map] at this
    exact this
  rw [sortI_perm h1]
  unfold sortI
  refine List.mergeSort_of_pairwise ?_
  rw [List.pairwise_map]
  exact h.srt.imp fun h => by simp; omega
theorem requests_look {w : World} {p m : Nat} {ss : List Ses} (h : Sep [BookP p m ss] w) {n : Int} {f : ByteArray} (h0 : 0 ≤ n) (h1 : n < big64) (hf : f.size ≤ maxLen) {s : SR} (hrs : RelS (look ss n f) s) :
    Calls Try.prog 28 #[.pointer (some ⟨p, 0, none⟩), .agg #[.int .u64 n, .string f]] w fun e w' => ∃ v, e = .returned v ∧ At [BookP p m ss] w [rowI v (s.told.map (·.r)), BookP p m ss] w' := by
  have hl := hrs.told.size
  have hb := hrs.told.len
  have e := requests_any h h0 h1 hf (by omega)
  unfold ReqPost at e
  rw [show Lease.reqs (look ss n f) = (look ss n f).told.map (·.1) from rfl, hrs.told.reqs] at e
  exact e
theorem told_look {w : World} {p m : Nat} {ss : List Ses} (h : Sep [BookP p m ss] w) {n : Int} {f : ByteArray} (h0 : 0 ≤ n) (h1 : n < big64) (hf : f.size ≤ maxLen) {s : SR} (hrs : RelS (look ss n f) s) {x : AR} (hx : x ∈ s.told) :
    Calls Try.prog 29 #[.pointer (some ⟨p, 0, none⟩), .agg #[.int .u64 n, .string f], .int .u64 x.r] w fun e w' => e = .returned (.tuple #[.agg #[.int .i64 x.e, .int .u64 x.n, .bool x.g], .bool true]) ∧ At [BookP p m ss] w [BookP p m ss] w' := by
  have e := told_any h (n := n) (f := f) h0 h1 hf (hrs.told.bd x hx).1 (hrs.told.bd x hx).2
  rw [hrs.told.said, show saidA s.told x.r = some x from ?_] at e
  · exact e
  · unfold saidA
    cases hq : s.told.find? (fun y => y.r == x.r) with
    | none => exact absurd (List.find?_eq_none.1 hq x hx) (by simp)
    | some y =>
      have h2 := List.find?_some hq
      rw [hrs.told.uniq (List.mem_of_find?_eq_some hq) hx (by simpa using h2)]

@[local go_sem] theorem guardI (op : BinOp) (x y : Operand) (a b : Bool) (c d e : Int) (w : World) : (eqGuard op 54 x y (.agg #[.bool a, .bool b, .int .i64 c, .int .i64 d, .int .i64 e]) (.agg #[.bool a, .bool b, .int .i64 c, .int .i64 d, .int .i64 e])).run Try.prog w = .ok () w := run_eqGuard_agg _ _ _ _ _ _ _ (by kernel_rfl)
theorem sameIn (a b : Bool) (c d e : Int) (w : World) : (Op.equalIn 10000 54 (.agg #[.bool a, .bool b, .int .i64 c, .int .i64 d, .int .i64 e]) (.agg #[.bool a, .bool b, .int .i64 c, .int .i64 d, .int .i64 e])).run Try.prog w = .ok true w := by
  rw [run_equalIn_agg _ 9999 _ _ _ (by kernel_rfl) (by kernel_rfl)]
  simp [go_sem, Op.eqFields]
theorem neqI (a b : Bool) (c d e : Int) (w : World) : (binOp .neq 54 (.agg #[.bool a, .bool b, .int .i64 c, .int .i64 d, .int .i64 e]) (.agg #[.bool a, .bool b, .int .i64 c, .int .i64 d, .int .i64 e])).run Try.prog w = .ok (.bool false) w := by
  rw [run_neq_struct, sameIn]; rfl
theorem guardA (op : BinOp) (x y : Operand) (a b : Int) (c : Bool) (w : World) : (eqGuard op 34 x y (.agg #[.int .i64 a, .int .u64 b, .bool c]) (.agg #[.int .i64 a, .int .u64 b, .bool c])).run Try.prog w = .ok () w := run_eqGuard_agg _ _ _ _ _ _ _ (by kernel_rfl)
theorem sameAn (a b : Int) (c : Bool) (w : World) : (Op.equalIn 10000 34 (.agg #[.int .i64 a, .int .u64 b, .bool c]) (.agg #[.int .i64 a, .int .u64 b, .bool c])).run Try.prog w = .ok true w := by
  rw [run_equalIn_agg _ 9999 _ _ _ (by kernel_rfl) (by kernel_rfl)]
  simp [go_sem, Op.eqFields]
theorem neqA (a b : Int) (c : Bool) (w : World) : (binOp .neq 34 (.agg #[.int .i64 a, .int .u64 b, .bool c]) (.agg #[.int .i64 a, .int .u64 b, .bool c])).run Try.prog w = .ok (.bool false) w := by
  rw [run_neq_struct, sameAn]; rfl
theorem guardS (op : BinOp) (x y : Operand) (a : Int) (b : ByteArray) (w : World) : (eqGuard op 31 x y (.agg #[.int .u64 a, .string b]) (.agg #[.int .u64 a, .string b])).run Try.prog w = .ok () w := run_eqGuard_agg _ _ _ _ _ _ _ (by kernel_rfl)
theorem sameS (a : Int) (b : ByteArray) (w : World) : (Op.equalIn 10000 31 (.agg #[.int .u64 a, .string b]) (.agg #[.int .u64 a, .string b])).run Try.prog w = .ok true w := by
  rw [run_equalIn_agg _ 9999 _ _ _ (by kernel_rfl) (by kernel_rfl)]
  simp [go_sem, Op.eqFields]
theorem neqS (a : Int) (b : ByteArray) (w : World) : (binOp .neq 31 (.agg #[.int .u64 a, .string b]) (.agg #[.int .u64 a, .string b])).run Try.prog w = .ok (.bool false) w := by
  rw [run_neq_struct, sameS]; rfl
end Go.Proofs.Ytnkddjomanaadaa.Lease
end
