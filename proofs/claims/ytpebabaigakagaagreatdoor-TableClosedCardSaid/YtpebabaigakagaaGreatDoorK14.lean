/- LockJ, LockK, RegE, RegG, joined. -/
import Derived.Test.YtpebabaigakagaaGreatDoorK13
import Derived.Test.YtpebabaigakagaaGreatDoorK5
import Derived.Test.YtpebabaigakagaaGreatDoorK2
import Derived.OrdersHeld
section
namespace Go.Proofs.YtpebabaigakagaaGreatDoor.Lock
open Go.RowKit
open Go.Maps (Keyed)
open Path (bl rightB overB)
set_option linter.unusedSimpArgs false
set_option linter.unusedVariables false
attribute [-go_sem] run_eql_struct run_neq_struct run_eqGuard_agg
attribute [local go_sem] guardS eqlS

/-- what stands of a list while those that D tells are taken away: of dn it is settled -/
structure Kept (es cur dn : List Ent) (D : Ent → Bool) : Prop where
  sub : cur.Sublist es
  kept : ∀ x ∈ es, x ∈ cur ∨ (D x = true ∧ x ∈ dn)
  done : ∀ x ∈ cur, x ∈ dn → D x = false
  inn : ∀ x ∈ dn, x ∈ es
  nd : dn.Nodup
theorem Kept.len {es cur dn : List Ent} {D : Ent → Bool} (h : Kept es cur dn D) : dn.length ≤ es.length := h.nd.length_le_of_subset (fun x hx => h.inn x hx)
theorem notin_mid {l1 l2 : List Ent} {x : Ent} (h : (l1 ++ x :: l2).Nodup) : x ∉ l1 ++ l2 := (List.nodup_cons.1 (List.perm_middle.nodup h)).1
theorem Kept.next {es cur dn : List Ent} {D : Ent → Bool} (h : Kept es cur dn D) {x : Ent} (hx : x ∈ cur) (hn : x ∉ dn) : (D x = false → Kept es cur (dn ++ [x]) D) ∧
    (D x = true → ∀ l1 l2, cur = l1 ++ x :: l2 → x ∉ l1 ++ l2 → Kept es (l1 ++ l2) (dn ++ [x]) D) := by
  have hpw : (dn ++ [x]).Nodup := List.nodup_append.2 ⟨h.nd, by simp, fun a ha c hc => by rw [List.mem_singleton.1 hc]; intro e; subst e; exact hn ha⟩
  have hdm : ∀ y ∈ dn ++ [x], y ∈ es := fun y hy => by
    rcases List.mem_append.1 hy with hy | hy
    · exact h.inn y hy
    · rw [List.mem_singleton.1 hy]; exact h.sub.subset hx
  constructor
  · intro hl
    refine ⟨h.sub, fun y hy => ?_, fun y hy hz => ?_, hdm, hpw⟩
    · rcases h.kept y hy with q | ⟨q, r⟩
      · exact .inl q
      · exact .inr ⟨q, by simp [r]⟩
    · rcases List.mem_append.1 hz with hz | hz
      · exact h.done y hy hz
      · rw [List.mem_singleton.1 hz]; exact hl
  · intro hl l1 l2 e hne
    subst e
    refine ⟨(List.Sublist.append (List.Sublist.refl _) (List.sublist_cons_self _ _)).trans h.sub, fun y hy => ?_, fun y hy hz => ?_, hdm, hpw⟩
    · rcases h.kept y hy with q | ⟨q, r⟩
      · by_cases hyx : y = x
        · subst hyx; exact .inr ⟨hl, by simp⟩
        · left
          simp only [List.mem_append, List.mem_cons] at q ⊢
          rcases q with q | q | q
          · exact .inl q
          · exact absurd q hyx
          · exact .inr q
      · exact .inr ⟨q, by simp [r]⟩
    · rcases List.mem_append.1 hz with hz | hz
      · exact h.done y (by simp only [List.mem_append, List.mem_cons] at hy ⊢; rcases hy with hy | hy <;> simp [hy]) hz
      · rw [List.mem_singleton.1 hz] at hy; exact absurd hy hne
theorem Kept.end {es cur dn : List Ent} {D : Ent → Bool} (h : Kept es cur dn D) (hnd : es.Nodup) (hall : ∀ x ∈ cur, x ∈ dn) : cur = es.filter (fun x => !D x) := by
  have hs : cur.Sublist (es.filter (fun x => !D x)) := by
    have := h.sub.filter (fun x => !D x)
    rwa [List.filter_eq_self.2 (fun x hx => by rw [h.done x hx (hall x hx)]; rfl)] at this
  refine hs.eq_of_length ?_
  refine (List.Perm.length_eq ?_)
  refine (List.perm_ext_iff_of_nodup (h.sub.nodup hnd) (hnd.sublist List.filter_sublist)).2 fun x => ?_
  rw [List.mem_filter]
  constructor
  · intro hx
    exact ⟨h.sub.subset hx, by rw [h.done x hx (hall x hx)]; rfl⟩
  · rintro ⟨h1, h2⟩
    rcases h.kept x h1 with q | ⟨q, _⟩
    · exact q
    · rw [q] at h2; cases h2
theorem ents_mid (l1 l2 : List Ent) (e : Ent) : ents (l1 ++ e :: l2) = ents l1 ++ (e.key, e.val) :: ents l2 := by simp [ents, ent]
theorem ents_app (l1 l2 : List Ent) : ents l1 ++ ents l2 = ents (l1 ++ l2) := by simp [ents]

set_option maxRecDepth 100000 in
theorem drop1_any {w : World} {bS : Nat} {n k : Int} {f p g : ByteArray} {v : List Value} (h : Sep [boxS bS n f] w) {c : Bool} (hc : decide (k = n ∧ g = f) = c) {c1 c2 c3 c4 c5 c6 : Value} :
    Calls Tryz.prog 99 #[.agg #[.string p, .int .u64 k, .string g], .agg #[c1, c2, c3, c4, c5, c6], .pointer (some ⟨bS, 0, none⟩)] w fun e w' => e = .returned (.bool c) ∧ At [boxS bS n f] w [boxS bS n f] w' := by
  have hA := At.start h
  (try simp only [uA] at hA); have hF := hA.facts; (try simp only [fA, and_true, true_and] at hF)
  clear h
  have hc' := Lib.hid hc
  clear hc
  go_enter Tryz.func99, Tryz.ntmps99
  go_wp2_with (first | ((with_reducible refine gst ?_); refine wS hA ?_; clear hF hA; intro w1 hA; (try simp only [uA] at hA); have hF := hA.facts; (try simp only [fA, and_true, true_and] at hF)) | ((with_reducible refine gbx ?_); refine wB hA ?_; clear hF hA; intro b1 w1 hA hb1; (try simp only [uA] at hA); have hF := hA.facts; (try simp only [fA, and_true, true_and] at hF)))
  go_ret
  exact ⟨by rw [← hc'.out, Bool.decide_and]; rfl, hA.only1 sR⟩
abbrev iterE (r b : Nat) (cur dn : List Ent) : Part := .iterD Tryz.prog 90 r b (ents cur) (ents dn)
def DelRel (L0 : List Part) (w : World) (m r bS : Nat) (n : Int) (f : ByteArray) (es : List Ent) (k : Nat) (wr : World) : Prop :=
  ∃ cur dn : List Ent, Kept es cur dn (·.of n f) ∧ dn.length + k = es.length ∧ At L0 w [iterE r m cur dn, boxS bS n f] wr
set_option maxRecDepth 100000 in
set_option maxHeartbeats 2000000 in
theorem del_any {w : World} {m bS : Nat} {n : Int} {f : ByteArray} {es : List Ent} (h : Sep [mapC m (ents es), boxS bS n f] w) (hok : ∀ x ∈ es, x.path.size ≤ maxLen ∧ 0 ≤ x.num ∧ x.num < big64 ∧ x.foot.size ≤ maxLen) :
    Calls Tryz.prog 98 #[.map (some m), .func (.func 99) #[] #[.pointer (some ⟨bS, 0, none⟩)]] w fun e w' => e = .returned (.tuple #[]) ∧ At [mapC m (ents es), boxS bS n f] w [mapC m (ents (es.filter (fun x => !x.of n f))), boxS bS n f] w' := by
  have hA := At.start h
  have hkeys := keys_of (MapAt.keys (hA.get (A := mapC m (ents es)) sR))
  have hnde : es.Nodup := hkeys.imp (fun h e => h (by rw [e]))
  (try simp only [uA] at hA); have hF := hA.facts; (try simp only [fA, and_true, true_and] at hF)
  clear h hkeys
  go_enter Tryz.func98, Tryz.ntmps98
  go_wp2_with (first | (refine wpList_range_at rfl rfl rfl hA sR Tryz.underlying88 ?_; intro r w1 hB hr; have hB := hB.rangeD sR; clear hF hA; have hA := hB; clear hB; (try simp only [uA] at hA); have hF := hA.facts; (try simp only [fA, and_true, true_and] at hF)))
  try go_frame
  go_loopg [5] es.length (fun k _ wr => DelRel [mapC m (ents es), boxS bS n f] w m r bS n f es k wr)
  case atStart => exact ⟨es, [], ⟨List.Sublist.refl _, fun x hx => .inl hx, fun x _ hx => (by cases hx), nofun, List.nodup_nil⟩, by simp, hA⟩
  case round =>
    obtain ⟨cur, dn, hL, hk, hB⟩ := hrel
    clear hF hA; have hA := hB; clear hB
    (try simp only [uA] at hA); have hF := hA.facts; (try simp only [fA, and_true, true_and] at hF)
    go_step
    go_step
    refine wpList_nextD_at rfl rfl rfl hA sR (fun hp => ?_) (fun q w1 hq hd hB => ?_)
    · have hM := hA.rangedD sR
      have hfin := Lib.hid (hL.end hnde (fun x hx => ent_mem (hp _ (List.mem_map.2 ⟨x, hx, rfl⟩))))
      clear hp hL
      go_wp2_with fail
      go_end0
      exact ⟨rfl, by rw [← hfin.out]; exact hM.only2 sR sR⟩
    · obtain ⟨x, hx, rfl⟩ := List.mem_map.1 hq
      have hI : IterD Tryz.prog 90 w1 r m (ents cur) (ents dn ++ [ent x]) := hB.get (A := Part.iterD Tryz.prog 90 r m (ents cur) (ents dn ++ [ent x])) sR
      have hen := hI.entry hq
      have hnot : x ∉ dn := fun q => hd (ent x) (List.mem_map.2 ⟨x, q, rfl⟩) rfl
      obtain ⟨hn1, hn2⟩ := hL.next hx hnot
      obtain ⟨o1, o2, o3, o4⟩ := hok x (hL.sub.subset hx)
      obtain ⟨kl, hkl⟩ := keyP o1 o2 o3 o4
      have hnd : cur.Nodup := hL.sub.nodup hnde
      have hlen : dn.length < es.length := by
        cases hin : x.of n f with
        | false => have := (hn1 hin).len; simp at this; omega
        | true =>
          obtain ⟨l1, l2, e⟩ := List.append_of_mem hx
          have := (hn2 hin l1 l2 e (by rw [e] at hnd; exact notin_mid hnd)).len
          simp at this; omega
      rw [show ents dn ++ [ent x] = ents (dn ++ [x]) by simp [ents]] at hB
      clear hF hA
      have hA := hB
      simp only [ent, Ent.key, keyV, Ent.val] at hen
      unfold keyV at hkl
      have hok' := Lib.hid hok
      clear hB hI hd hq hok o1 o2 o3 o4 hnot
      have hL' := Lib.hid hL
      clear hL
      (try simp only [uA] at hA); have hF := hA.facts; (try simp only [fA, and_true, true_and] at hF)
      cases hin : x.of n f with
      | false =>
        have hK := Lib.hid (hn1 hin)
        have hnde' := Lib.hid hnde
        clear hn1 hn2 hnde hnd
        go_wp2_with (first | ((with_reducible refine gst ?_); refine wS hA ?_; clear hF hA; intro w1 hA; (try simp only [uA] at hA); have hF := hA.facts; (try simp only [fA, and_true, true_and] at hF)) | ((with_reducible refine gbx ?_); refine wB hA ?_; clear hF hA; intro b1 w1 hA hb1; (try simp only [uA] at hA); have hF := hA.facts; (try simp only [fA, and_true, true_and] at hF)) | ((with_reducible refine gal ?_); refine wA 90 (.agg #[.string .empty, .int .u64 0, .string .empty]) [.string .empty, .int .u64 0, .string .empty] hA ?_; clear hF hA; intro b1 w1 hA hb1; (try simp only [uA] at hA); have hF := hA.facts; (try simp only [fA, and_true, true_and] at hF)) | ((with_reducible refine gal ?_); refine wA 51 (.agg #[.string .empty, .int .u64 0, .string .empty, .int .i64 0, .int .u64 0, .int .i64 0]) [.string .empty, .int .u64 0, .string .empty, .int .i64 0, .int .u64 0, .int .i64 0] hA ?_; clear hF hA; intro b1 w1 hA hb1; (try simp only [uA] at hA); have hF := hA.facts; (try simp only [fA, and_true, true_and] at hF)))
        refine (drop1_any (v := []) (hA.sep1 (A := boxS bS n f) sR) hin).mono ?_
        rintro e w1 ⟨rfl, hT⟩; have hB := hA.call1 sR hT; clear hF hA hT; have hA := hB; clear hB; (try simp only [uA] at hA); have hF := hA.facts; (try simp only [fA, and_true, true_and] at hF)
        go_wp2_with fail
        go_roundg (gk - 1)
        case measure => omega
        case rel => exact ⟨cur, dn ++ [x], hK.out, by simp; omega, hA.only2 sR sR⟩
      | true =>
        obtain ⟨l1, l2, e⟩ := List.append_of_mem hx
        subst e
        have hK := Lib.hid (hn2 hin l1 l2 rfl (notin_mid hnd))
        have hnde' := Lib.hid hnde
        clear hn1 hn2 hx hnd hnde
        unfold iterE at *
        rw [ents_mid] at hA
        unfold Ent.key keyV at hA
        go_wp2_with (first | ((with_reducible refine gst ?_); refine wS hA ?_; clear hF hA; intro w1 hA; (try simp only [uA] at hA); have hF := hA.facts; (try simp only [fA, and_true, true_and] at hF)) | ((with_reducible refine gbx ?_); refine wB hA ?_; clear hF hA; intro b1 w1 hA hb1; (try simp only [uA] at hA); have hF := hA.facts; (try simp only [fA, and_true, true_and] at hF)) | ((with_reducible refine gal ?_); refine wA 90 (.agg #[.string .empty, .int .u64 0, .string .empty]) [.string .empty, .int .u64 0, .string .empty] hA ?_; clear hF hA; intro b1 w1 hA hb1; (try simp only [uA] at hA); have hF := hA.facts; (try simp only [fA, and_true, true_and] at hF)) | ((with_reducible refine gal ?_); refine wA 51 (.agg #[.string .empty, .int .u64 0, .string .empty, .int .i64 0, .int .u64 0, .int .i64 0]) [.string .empty, .int .u64 0, .string .empty, .int .i64 0, .int .u64 0, .int .i64 0] hA ?_; clear hF hA; intro b1 w1 hA hb1; (try simp only [uA] at hA); have hF := hA.facts; (try simp only [fA, and_true, true_and] at hF)))
        refine (drop1_any (v := []) (hA.sep1 (A := boxS bS n f) sR) hin).mono ?_
        rintro e w1 ⟨rfl, hT⟩; have hB := hA.call1 sR hT; clear hF hA hT; have hA := hB; clear hB; (try simp only [uA] at hA); have hF := hA.facts; (try simp only [fA, and_true, true_and] at hF)
        go_wp2_with (first | (refine wpList_del_iter_at rfl rfl rfl (by (try simp only [Act.eval, eV]) <;> exact rfl) hA (k := 90) sR lawP Tryz.underlying88 hkl ?_; intro w1 hB; rw [ents_app l1 l2] at hB; clear hF hA; have hA := hB; clear hB; (try simp only [uA] at hA); have hF := hA.facts; (try simp only [fA, and_true, true_and] at hF)))
        go_roundg (gk - 1)
        case measure => omega
        case rel => exact ⟨l1 ++ l2, dn ++ [x], hK.out, by simp; omega, hA.only2 sR sR⟩
set_option maxRecDepth 100000 in
set_option maxHeartbeats 2000000 in
/-- Drop -/
theorem drop_any {w : World} {b : Bk} (h : Sep [BookP b] w) (n : Int) (f : ByteArray) (hl : b.es.length ≤ 1000000000) (hok : ∀ x ∈ b.es, x.path.size ≤ maxLen ∧ 0 ≤ x.num ∧ x.num < big64 ∧ x.foot.size ≤ maxLen) :
    Calls Tryz.prog 64 #[.pointer (some ⟨b.p, 0, none⟩), .agg #[.int .u64 n, .string f]] w fun e w' => e = .returned (.int .i64 (b.es.length - (b.st.dropAll n f).es.length)) ∧ At [BookP b] w [BookP (b.with (b.st.dropAll n f))] w' := by
  have hA := begin0 h
  have hF := hA.facts
  have hle : (b.es.filter (fun x => !x.of n f)).length ≤ b.es.length := List.length_filter_le _ _
  show Calls _ _ _ _ fun e w' => e = .returned (.int .i64 (b.es.length - (b.es.filter (fun x => !x.of n f)).length)) ∧ At [BookP b] w [BookP ⟨b.p, b.m, b.c, b.first, b.es.filter (fun x => !x.of n f), b.cs⟩] w'
  have hdel := fun (w1 : World) (bS : Nat) (q : Sep [mapC b.m (ents b.es), boxS bS n f] w1) => del_any q hok
  generalize b.es.filter (fun x => !x.of n f) = es' at *
  have e1 : (ents b.es).length = b.es.length := by simp [ents]
  have e2 : (ents es').length = es'.length := by simp [ents]
  (try simp only [uA] at hA); have hF := hA.facts; (try simp only [fA, and_true, true_and] at hF)
  clear h hok
  go_enter Tryz.func64, Tryz.ntmps64
  go_wp2_with (first | ((with_reducible refine gbx ?_); refine wB (E := 25) hA ?_; clear hF hA; intro bS w1 hA hbS; (try simp only [uA] at hA); have hF := hA.facts; (try simp only [fA, and_true, true_and] at hF)) | (refine wpList_len_map_at (k := 90) (es := ents b.es) rfl rfl rfl hA sR Tryz.underlying88 ?_; rw [e1]))
  refine (hdel _ bS (hA.sep2 (A := mapC b.m (ents b.es)) (B := boxS bS n f) sR sR)).mono ?_
  clear hdel
  rintro e w2 ⟨rfl, hT⟩
  have hB := hA.call2 (A := mapC b.m (ents b.es)) (B := boxS bS n f) sR sR hT
  clear hF hA hT; have hA := hB; clear hB
  (try simp only [uA] at hA); have hF := hA.facts; (try simp only [fA, and_true, true_and] at hF)
  have hw : IntKind.i64.wrap ((b.es.length : Int) - (es'.length : Int)) = (b.es.length : Int) - (es'.length : Int) := by rw [IntKind.wrap_i64] <;> omega
  go_wp2_with (first | (refine wpList_len_map_at (k := 90) (es := ents es') rfl rfl rfl hA sR Tryz.underlying88 ?_; rw [e2]))
  go_ret
  exact ⟨rfl, close0 ⟨b.p, b.m, b.c, b.first, es', b.cs⟩ hA sR sR sR⟩
end Go.Proofs.YtpebabaigakagaaGreatDoor.Lock
end

section
namespace Go.Proofs.YtpebabaigakagaaGreatDoor.Lock
open Go.RowKit
open Go.Maps (Keyed)
open Path (bl rightB overB)
set_option linter.unusedSimpArgs false
set_option linter.unusedVariables false
attribute [-go_sem] run_eql_struct run_neq_struct run_eqGuard_agg
theorem eqlE6 (p1 f1 p2 f2 : ByteArray) (n1 m1 k1 s1 n2 m2 k2 s2 : Int) (w : World) : (binOp .eql 51 (.agg #[.string p1, .int .u64 n1, .string f1, .int .i64 m1, .int .u64 k1, .int .i64 s1]) (.agg #[.string p2, .int .u64 n2, .string f2, .int .i64 m2, .int .u64 k2, .int .i64 s2])).run Tryz.prog w = .ok (.bool (decide ((⟨p1, n1, f1, m1, k1, s1⟩ : Ent) = ⟨p2, n2, f2, m2, k2, s2⟩))) w := eqlE ⟨p1, n1, f1, m1, k1, s1⟩ ⟨p2, n2, f2, m2, k2, s2⟩ w
attribute [local go_sem] guardE eqlE6

/-- is an entry granted? -/
def grantedB (es : List Ent) (e : Ent) : Bool := decide (find es e.path e.num e.foot = some e) && clearB es e

def ChRel (b : Bk) (r : Nat) (p : ByteArray) (n : Int) (w : World) (k : Nat) (wr : World) : Prop :=
  ∃ ds : List Ent, At [BookP b] w [Part.iter Tryz.prog 90 r b.m (ents b.es) (ents ds), headC b.p b.m b.c b.first, ctrC b.c (ctrs b.cs)] wr ∧ (∀ s ∈ ds, s ∈ b.es ∧ ¬(s.path = p ∧ s.n = n)) ∧ ds.length + k = b.es.length
set_option maxRecDepth 100000 in
set_option maxHeartbeats 2000000 in
/-- Check -/
theorem check_any {w : World} {b : Bk} (h : Sep [BookP b] w) (p : ByteArray) (n : Int) (hok : ∀ x ∈ b.es, x.path.size ≤ 1000000) {c : Bool} (h1 : ∀ e ∈ b.es, e.path = p → e.n = n → clearB b.es e = c) (h2 : (∀ e ∈ b.es, ¬(e.path = p ∧ e.n = n)) → c = false) :
    Calls Tryz.prog 107 #[.pointer (some ⟨b.p, 0, none⟩), .string p, .int .u64 n] w fun o w' => o = .returned (.bool c) ∧ At [BookP b] w [BookP b] w' := by
  have hA := begin0 h
  have hF := hA.facts
  have h1' := Lib.hid h1
  have h2' := Lib.hid h2
  clear h1 h2
  (try simp only [uA] at hA); have hF := hA.facts; (try simp only [fA, and_true, true_and] at hF)
  clear h
  go_enter Tryz.func107, Tryz.ntmps107
  go_wp2_with (first | ((with_reducible refine gst ?_); refine wS hA ?_; clear hF hA; intro w1 hA; (try simp only [uA] at hA); have hF := hA.facts; (try simp only [fA, and_true, true_and] at hF)) | ((with_reducible refine gbx ?_); refine wB hA ?_; clear hF hA; intro b1 w1 hA hb1; (try simp only [uA] at hA); have hF := hA.facts; (try simp only [fA, and_true, true_and] at hF)) | (refine wpList_range_at rfl rfl rfl hA sR Tryz.underlying88 ?_; intro r w1 hB hr; clear hF hA; have hA := hB; clear hB; (try simp only [uA] at hA); have hF := hA.facts; (try simp only [fA, and_true, true_and] at hF)))
  try go_frame
  go_loopg [] b.es.length (ChRel b r p n w)
  case atStart => exact ⟨[], hA.pick pZ, nofun, by simp⟩
  case round =>
    obtain ⟨ds, hA2, hds, hk⟩ := hrel
    clear hF hA
    have hA := hA2
    clear hA2
    (try simp only [uA] at hA); have hF := hA.facts; (try simp only [fA, and_true, true_and] at hF)
    go_step
    go_step
    refine wpList_next_at rfl rfl rfl hA sR (fun hp => ?_) (fun q w1 hq hd hB => ?_)
    · have hpp := ents_perm hp
      have hc := Lib.hid (h2'.out (fun e he => (hds e (hpp.mem_iff.1 he)).2))
      have hM := At.ranged hA sR
      clear hp hpp hds
      go_wp2_with fail
      go_ret
      exact ⟨by rw [hc.out]; rfl, close0 b hM sR sR sR⟩
    · obtain ⟨s, hs, rfl⟩ := List.mem_map.1 hq
      have hI : IterAt Tryz.prog 90 w1 r b.m (ents b.es) (ents ds ++ [ent s]) := hB.get (A := Part.iter _ _ r b.m (ents b.es) (ents ds ++ [ent s])) sR
      have hen := hI.entry
      have hlen : (ds ++ [s]).length ≤ b.es.length := by have := hI.len; simpa [ents] using this
      have hsub : ¬(s.path = p ∧ s.n = n) → ∀ x ∈ ds ++ [s], x ∈ b.es ∧ ¬(x.path = p ∧ x.n = n) := fun hn x hx => by
        rcases List.mem_append.1 hx with hx | hx
        · exact hds x hx
        · have : x = s := by simpa using hx
          rw [this]; exact ⟨hs, hn⟩
      rw [ents_snoc] at hB
      have hs1 := hok s hs
      clear hF hA
      have hA := hB
      have hk' := Lib.hid hk
      have hsub' := Lib.hid hsub
      have hc1 := Lib.hid (h1'.out s hs)
      have hcl := fun (w1 : World) (q : Sep [BookP b] w1) => clear_any q s hs1 hok
      obtain ⟨cc, hcc⟩ : ∃ cc, clearB b.es s = cc := ⟨_, rfl⟩
      rw [hcc] at hcl
      have hcc' := Lib.hid hcc
      simp only [List.length_append, List.length_cons, List.length_nil, Nat.zero_add] at hlen
      clear hI hB hk hsub hds hq hd hs hcc
      (try simp only [uA] at hA); have hF := hA.facts; (try simp only [fA, and_true, true_and] at hF)
      simp only [ent, Ent.key, Ent.val, keyV] at hen
      by_cases e1 : s.path = p
      · have b1 : (s.path.toList == p.toList) = true := by rw [same_ba]; exact decide_eq_true e1
        have e1' := Lib.hid e1
        by_cases e2 : s.n = n
        · have b2 : (s.n == n) = true := by simpa using e2
          have e2' := Lib.hid e2
          clear e1 e2
          go_wp2_with (first | ((with_reducible refine gst ?_); refine wS hA ?_; clear hF hA; intro w1 hA; (try simp only [uA] at hA); have hF := hA.facts; (try simp only [fA, and_true, true_and] at hF)) | ((with_reducible refine gbx ?_); refine wB hA ?_; clear hF hA; intro b1 w1 hA hb1; (try simp only [uA] at hA); have hF := hA.facts; (try simp only [fA, and_true, true_and] at hF)) | ((with_reducible refine gal ?_); refine wA 51 (.agg #[.string .empty, .int .u64 0, .string .empty, .int .i64 0, .int .u64 0, .int .i64 0]) [.string .empty, .int .u64 0, .string .empty, .int .i64 0, .int .u64 0, .int .i64 0] hA ?_; clear hF hA; intro b1 w1 hA hb1; (try simp only [uA] at hA); have hF := hA.facts; (try simp only [fA, and_true, true_and] at hF)))
          have hM := At.ranged hA sR
          have hB := fold0 b hM sR sR sR
          clear hF hA hM; have hA := hB; clear hB
          refine (hcl _ (hA.sep1 (A := BookP b) sR)).mono ?_
          clear hcl
          rintro o w2 ⟨rfl, hT⟩
          have hB := hA.call1 (A := BookP b) sR hT
          have hres := Lib.hid ((hc1.out e1'.out e2'.out).symm.trans hcc'.out)
          clear hA hT
          go_wp2_with fail
          go_ret
          exact ⟨by rw [hres.out]; rfl, hB.only1 .here⟩
        · have b2 : (s.n == n) = false := by simpa using e2
          have hs3 := Lib.hid (hsub'.out (fun q => e2 q.2))
          clear e1 e2
          go_wp2_with (first | ((with_reducible refine gst ?_); refine wS hA ?_; clear hF hA; intro w1 hA; (try simp only [uA] at hA); have hF := hA.facts; (try simp only [fA, and_true, true_and] at hF)) | ((with_reducible refine gbx ?_); refine wB hA ?_; clear hF hA; intro b1 w1 hA hb1; (try simp only [uA] at hA); have hF := hA.facts; (try simp only [fA, and_true, true_and] at hF)) | ((with_reducible refine gal ?_); refine wA 51 (.agg #[.string .empty, .int .u64 0, .string .empty, .int .i64 0, .int .u64 0, .int .i64 0]) [.string .empty, .int .u64 0, .string .empty, .int .i64 0, .int .u64 0, .int .i64 0] hA ?_; clear hF hA; intro b1 w1 hA hb1; (try simp only [uA] at hA); have hF := hA.facts; (try simp only [fA, and_true, true_and] at hF)))
          go_roundg (gk - 1)
          case measure => have := hk'.out; omega
          case rel => exact ⟨ds ++ [s], hA.pick (by with_reducible repeat (first | exact Picks.nil | refine Picks.cons sR ?_)), hs3.out, by have := hk'.out; simp; omega⟩
      · have b1 : (s.path.toList == p.toList) = false := by rw [same_ba]; exact decide_eq_false e1
        have hs3 := Lib.hid (hsub'.out (fun q => e1 q.1))
        clear e1
        go_wp2_with (first | ((with_reducible refine gst ?_); refine wS hA ?_; clear hF hA; intro w1 hA; (try simp only [uA] at hA); have hF := hA.facts; (try simp only [fA, and_true, true_and] at hF)) | ((with_reducible refine gbx ?_); refine wB hA ?_; clear hF hA; intro b1 w1 hA hb1; (try simp only [uA] at hA); have hF := hA.facts; (try simp only [fA, and_true, true_and] at hF)) | ((with_reducible refine gal ?_); refine wA 51 (.agg #[.string .empty, .int .u64 0, .string .empty, .int .i64 0, .int .u64 0, .int .i64 0]) [.string .empty, .int .u64 0, .string .empty, .int .i64 0, .int .u64 0, .int .i64 0] hA ?_; clear hF hA; intro b1 w1 hA hb1; (try simp only [uA] at hA); have hF := hA.facts; (try simp only [fA, and_true, true_and] at hF)))
        go_roundg (gk - 1)
        case measure => have := hk'.out; omega
        case rel => exact ⟨ds ++ [s], hA.pick (by with_reducible repeat (first | exact Picks.nil | refine Picks.cons sR ?_)), hs3.out, by have := hk'.out; simp; omega⟩
end Go.Proofs.YtpebabaigakagaaGreatDoor.Lock
end

section
namespace Go
open _root_.Go.Proofs.YtpebabaigakagaaGreatDoor
open Go.RowKit
set_option linter.unusedVariables false
set_option linter.unusedSimpArgs false

section
variable {P : Program} {ops : Array Oper} {Q : Exit → Act → World → Prop} {md : Region.Mode} {S : World → Prop} {L0 L F : List Part} {w0 w : World}
theorem wpAnyH_one {i fuel : Nat} {listed : Array Bool} {a : Act} (hr : Region.ready md ops listed = [i]) (h : wpOp P ops Q i (fun a' w' => S w' ∧ wpAnyH P md ops Q S fuel (listed.setIfInBounds i true) a' w') a w) : wpAnyH P md ops Q S (fuel + 1) listed a w :=
  wpAnyH_all hr (by simp) (fun k hk => by rw [List.mem_singleton.1 hk]; exact h)
theorem wpAnyH_two {i j fuel : Nat} {listed : Array Bool} {a : Act} (hr : Region.ready md ops listed = [i, j]) (h1 : wpOp P ops Q i (fun a' w' => S w' ∧ wpAnyH P md ops Q S fuel (listed.setIfInBounds i true) a' w') a w)
    (h2 : wpOp P ops Q j (fun a' w' => S w' ∧ wpAnyH P md ops Q S fuel (listed.setIfInBounds j true) a' w') a w) : wpAnyH P md ops Q S (fuel + 1) listed a w :=
  wpAnyH_all hr (by simp) (fun k hk => by
    rcases List.mem_cons.1 hk with rfl | hk
    · exact h1
    · rw [List.mem_singleton.1 hk]; exact h2)
/-- number i first; its slot given -/
theorem wpAnyH_takeD {i : Nat} {oi : Oper} {v : Value} {d : Option Tmp} {fuel : Nat} {listed : Array Bool} {a : Act} (hi : ops[i]? = some oi) (hd : oi.dst = d)
    (hs : Region.noSelect ops = true) (hf : Region.free md ops listed i = true) (hr : (Region.ready md ops listed).contains i = true)
    (hQ : ∀ c a w, Q (.panic c) (a.put oi.dst v) w → Q (.panic c) a w) (hw : Region.wanted oi (yielded ops a.tmps) = true) (hrun : ∀ w, S w → (execOp a.eval oi).run P w = .ok (.value v) w) (hS : S w)
    (h : wpAnyH P md ops Q S fuel (listed.setIfInBounds i true) (a.put d v) w) : wpAnyH P md ops Q S (fuel + 1) listed a w := by
  subst hd
  exact wpAnyH_take hi hs hf hr hQ (.inl ⟨hw, hrun⟩) hS h
/-- a row of one element is laid -/
theorem opOne_at {i : Nat} {d : Option Tmp} {o : Oper} {a : Act} {K : Act → World → Prop} {t : TypeId} {x : Operand} {e : TypeId} (ho : ops[i]? = some o) (hd : o.dst = d) (hw : Region.wanted o (yielded ops a.tmps) = true) (hop : o.op = .buildSlice t 1 #[(0, x)]) {xv : Value} (hx : a.eval x = xv) {vs : List Value}
    (hrun : ∀ w, (Instr.buildSlice t 1 #[(0, xv)]).run P w = .ok (.slice (some ⟨w.heap.size, 0, none⟩) 1 1) (w.alloc (.cells vs.toArray e))) (h : At L0 w0 L w)
    (hK : ∀ b w', At L0 w0 (Part.cells b vs e :: L) w' → K (a.put d (.slice (some ⟨b, 0, none⟩) 1 1)) w') : wpOp P ops Q i K a w := by
  subst hd
  exact wpOp_val ho hw (v := .slice (some ⟨w.heap.size, 0, none⟩) 1 1) (w' := w.alloc (.cells vs.toArray e)) (by simp [execOp, hop, hx, hrun, Result.andThen]) (hK _ _ (h.alloc vs e))
/-- append of a row that is read -/
theorem opAppend_at {k : Nat} {d : Option Tmp} {o : Oper} {a : Act} {K : Act → World → Prop} {e : TypeId} {size n : Nat} {v : Value} {xs : List Value} {i : TypeInfo} {z : Value} {bytes : Nat} (hok : ops[k]? = some o) (hd : o.dst = d) (hw : Region.wanted o (yielded ops a.tmps) = true) (hg : o.guard = none) (s' x : Operand) (t : TypeId) (ho : o.op = .call { callee := .builtin .append, args := #[s', x], argTypes := #[t, t] })
    (ht : P.underlying t = some (.slice e)) (hi : P.info? e = some i) (hz : i.zero = some z) (hsize : i.size = size) (hby : i.bytes = bytes) (hzs : z.cells.size = size) (hsz : 0 < size)
    (h : At L0 w0 L w) (s : Sel (Part.row e size v n xs) L F) (hs : a.eval s' = v) {xv : Value} {m : Nat} {news : List Value} (hxv : a.eval x = xv) (hl : news.length = m * size) (hx : Reads w xv m news) (h1 : ∀ u ∈ news, u.oneCell' = true)
    (h63 : n + m ≤ maxLen) (hbytes : (n + m) * bytes ≤ 140737488355328)
    (hK : ∀ v' w', At L0 w0 (Part.row e size v' (n + m) (xs ++ news) :: F) w' → K (a.put d v') w') : wpOp P ops Q k K a w := by
  subst hd
  have hst := step_append_all w (K := K) (Q := Q) (E := True) (ops := ops) (a := a) (o := o) hg s' x t ho 0 e i z size bytes ht hi hz hsize hby hzs hsz v n xs hs (h.get s) xv m news hxv hl hx h1 h63 hbytes (Nat.zero_le _) (fun v' w' h2 h3 h4 =>
    hK v' w' (h.turn s _ h2 (fun b hb => by
      rcases h4 with h4 | h4
      · exact .inl (show v.ownBlock = some b from by rw [← h4]; exact hb)
      · right
        have hb' : v'.ownBlock = some b := hb
        rw [h4] at hb'
        cases hb'
        exact Nat.le_refl _) (exc_grown h3)))
  rw [if_pos hw] at hst
  unfold wpOp
  simp only [hok, hw, if_true]
  exact .inl hst
/-- a call -/
theorem opCall_at {i : Nat} {d : Option Tmp} {o : Oper} {a : Act} {K : Act → World → Prop} (ho : ops[i]? = some o) (hd : o.dst = d) (hw : Region.wanted o (yielded ops a.tmps) = true) {fn : FuncId} {args : Array Value} (hrun : (execOp a.eval o).run P w = .ok (.enter fn args) w)
    {R : Value → World → Prop} (hc : Calls P fn args w fun e w' => ∃ u, e = .returned u ∧ R u w') (hK : ∀ u w', R u w' → K (a.put d u) w') : wpOp P ops Q i K a w := by
  subst hd
  exact wpOp_call ho hw hrun hc (fun e w' ⟨u, he, hr⟩ => ⟨u, he, hK u w' hr⟩)
/-- a store -/
theorem opStore_at {i : Nat} {o : Oper} {a : Act} {K : Act → World → Prop} (ho : ops[i]? = some o) (hd : o.dst = none) (hw : Region.wanted o (yielded ops a.tmps) = true) {ty : TypeId} {x y : Operand} (hop : o.op = .store ty x y) {b j : Nat} (hx : a.eval x = .pointer (some ⟨b, j, none⟩)) {v : Value} (hy : a.eval y = v) {vs : List Value} (hv : v.cells = vs.toArray)
    (h : At L0 w0 L w) {c : List Value} {T : TypeId} (s : Sel (Part.cells b c T) L F) (hi : (P.info? ty).map (·.size) = some vs.length) (h1 : vs.all (·.oneCell') = true) (hj : j + vs.length ≤ c.length)
    (hK : ∀ w', At L0 w0 (Part.cells b (setL c j vs) T :: F) w' → K (a.put none undef) w') : wpOp P ops Q i K a w := by
  have hb : BlockIs w b c T := h.get s
  have hs : v.cells.size = vs.length := by rw [hv]; simp
  have h1' : v.cells.all (·.oneCell') = true := by
    rw [hv, Array.all_eq_true_iff_forall_mem]
    intro u hu
    exact List.all_eq_true.1 h1 u (by simpa using hu)
  have hrun := run_storeAt_cells (P := P) w b j ty v (hb.there j _ (by omega)) (by rw [hs]; exact hi) h1'
  rw [show v.cells.toList = vs from by rw [hv]] at hrun
  refine wpOp_unit ho hw (w' := _) ?_ (by rw [hd]; exact hK _ (h.stores s j vs))
  simp [execOp, hop, hx, hy, hrun, Result.andThen]
end
end Go
end
section
namespace Go
open _root_.Go.Proofs.YtpebabaigakagaaGreatDoor
open Go.RowKit
theorem tZ {P : Program} {ops : Array Oper} {Q : Exit → Act → World → Prop} {md : Region.Mode} {S : World → Prop} {w : World} {fuel : Nat} {listed : Array Bool} {a : Act} {oi : Oper} (i d : Nat) (v : Value) (hi : ops[i]? = some oi := by exact rfl) (hd : oi.dst = some d := by exact rfl) (hs : Region.noSelect ops = true := by kernel_rfl) (hf : Region.free md ops listed i = true := by kernel_rfl) (hr : (Region.ready md ops listed).contains i = true := by kernel_rfl) (hQ : ∀ c a w, Q (.panic c) (a.put oi.dst v) w → Q (.panic c) a w := by exact fun _ _ _ h => h) (hw : Region.wanted oi (yielded ops a.tmps) = true := by exact rfl) (r : ∀ w, S w → (execOp a.eval oi).run P w = .ok (.value v) w) (s : S w) (h : wpAnyH P md ops Q S fuel (listed.setIfInBounds i true) (a.put (some d) v) w) : wpAnyH P md ops Q S (fuel + 1) listed a w := wpAnyH_takeD hi hd hs hf hr hQ hw r s h
theorem tP {P : Program} {ops : Array Oper} {Q : Exit → Act → World → Prop} {md : Region.Mode} {S : World → Prop} {w : World} {fuel : Nat} {listed : Array Bool} {a : Act} {oi : Oper} (i d : Nat) (v : Value) (hi : ops[i]? = some oi := by exact rfl) (hd : oi.dst = some d := by exact rfl) (hs : Region.noSelect ops = true := by kernel_rfl) (hf : Region.free md ops listed i = true := by kernel_rfl) (hr : (Region.ready md ops listed).contains i = true := by kernel_rfl) (hQ : ∀ c a w, Q (.panic c) (a.put oi.dst v) w → Q (.panic c) a w := by exact fun _ _ _ h => h) (hw : Region.wanted oi (yielded ops a.tmps) = true := by exact rfl) (r : ∀ w, S w → (execOp a.eval oi).run P w = .ok (.value v) w := by intro _ _; first | (simp [execOp, go_sem, Act.eval, Act.put]; done) | kernel_rfl) (s : S w) (h : wpAnyH P md ops Q S fuel (listed.setIfInBounds i true) (a.put (some d) v) w) : wpAnyH P md ops Q S (fuel + 1) listed a w := wpAnyH_takeD hi hd hs hf hr hQ hw r s h
end Go
end

section
namespace Go
open _root_.Go.Proofs.YtpebabaigakagaaGreatDoor
open Go.RowKit
set_option linter.unusedVariables false
set_option linter.unusedSimpArgs false

section
variable {P : Program} {ops : Array Oper} {Q : Exit → Act → World → Prop} {md : Region.Mode} {S : World → Prop} {L0 L F : List Part} {w0 w : World}
/-- a new variable -/
theorem opAlloc_at {i : Nat} {d : Option Tmp} {o : Oper} {a : Act} {K : Act → World → Prop} {E : TypeId} (ho : ops[i]? = some o) (hd : o.dst = d) (hw : Region.wanted o (yielded ops a.tmps) = true) (hop : o.op = .alloc E) {z : Value} (hz : (P.info? E).map (·.zero) = some (some z)) {vs : List Value} (hv : z.cells = vs.toArray) (h : At L0 w0 L w)
    (hK : ∀ b w', At L0 w0 (Part.cells b vs E :: L) w' → K (a.put d (.pointer (some ⟨b, 0, none⟩))) w') : wpOp P ops Q i K a w := by
  subst hd
  refine wpOp_val ho hw (v := .pointer (some ⟨w.heap.size, 0, none⟩)) (w' := w.alloc (.cells vs.toArray E)) ?_ (hK _ _ (h.alloc vs E))
  cases hq : P.info? E with
  | none => simp [hq] at hz
  | some i =>
    have hi : i.zero = some z := by simpa [hq] using hz
    simp [execOp, hop, Instr.alloc, zeroValue, typeInfo, hq, hi, newVar, newRow, hv, Result.andThen]
/-- a row of no element is laid -/
theorem opZero_at {i : Nat} {d : Option Tmp} {o : Oper} {a : Act} {K : Act → World → Prop} {t : TypeId} {e : TypeId} (size : Nat) (ho : ops[i]? = some o) (hd : o.dst = d) (hw : Region.wanted o (yielded ops a.tmps) = true) (hop : o.op = .buildSlice t 0 #[])
    (hrun : ∀ w, (Instr.buildSlice t 0 #[]).run P w = .ok (.slice (some ⟨w.heap.size, 0, none⟩) 0 0) (w.alloc (.cells #[] e))) (h : At L0 w0 L w)
    (hK : ∀ b w', At L0 w0 (Part.row e size (.slice (some ⟨b, 0, none⟩) 0 0) 0 [] :: L) w' → K (a.put d (.slice (some ⟨b, 0, none⟩) 0 0)) w') : wpOp P ops Q i K a w := by
  subst hd
  refine wpOp_val ho hw (v := .slice (some ⟨w.heap.size, 0, none⟩) 0 0) (w' := w.alloc (.cells #[] e)) (by simp [execOp, hop, hrun, Result.andThen]) (hK _ _ ?_)
  refine h.new ((Ext.refl w).alloc _) _ ⟨by simp, .inr ⟨w.heap.size, 0, #[], rfl, Nat.zero_le _, heap_alloc_new w _, Nat.le_refl _, Nat.zero_le _, by simp, by simp⟩⟩ (fun b hb => ?_)
  have hb2 : (Value.slice (some ⟨w.heap.size, 0, none⟩) 0 0).ownBlock = some b := hb
  cases hb2
  exact Nat.le_refl _
theorem ret_eq {e : Ending} {v : Value} {R : World → Prop} {w' : World} (h : e = .returned v ∧ R w') : ∃ u, e = .returned u ∧ (u = v ∧ R w') := ⟨v, h.1, rfl, h.2⟩
end
end Go
end
