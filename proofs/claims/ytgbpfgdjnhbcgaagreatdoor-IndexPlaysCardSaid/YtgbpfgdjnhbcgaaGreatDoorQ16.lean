/- IndexL, IpA, joined. -/
import Derived.Test.YtgbpfgdjnhbcgaaGreatDoorQ15
set_option linter.unusedSimpArgs false
set_option linter.unusedVariables false
set_option maxRecDepth 100000
set_option maxHeartbeats 16000000
section
namespace Go.Proofs.YtgbpfgdjnhbcgaaGreatDoor.Ix
open Path (bl rightB overB)
open Attr (A8 rightI)
open Cmd (Cm keyC footC)
open Go.Lib (compareBytes)
theorem bl_same {a b : ByteArray} (h : bl a = bl b) : a = b := by
 cases a
 cases b
 exact congrArg ByteArray.mk (Array.toList_inj.1 h)
theorem fine_mergeE {f : ByteArray} {n : Int} {a : A8} (ha : Fine a) : ∀ {es : List En}, (∀ e ∈ es, Fine e.a) → ∀ e ∈ mergeE es f n a, Fine e.a
 | [], _, e, he => by rw [List.mem_singleton.1 he]; exact fine_merge fine_zero ha
 | x :: es, h, e, he => by
  unfold mergeE at he
  split at he
  · rcases List.mem_cons.1 he with rfl | he
    · exact fine_merge (h x (by simp)) ha
    · exact h e (by simp [he])
  · rcases List.mem_cons.1 he with rfl | he
    · exact h e (by simp)
    · exact fine_mergeE ha (fun y hy => h y (by simp [hy])) e he
theorem view_of_perm {l m : List En} (hl : Kn l) (hm : Kn m) (h : l.Perm m) : view l = view m := by
 funext k
 have H : ∀ a, view l k = some a ↔ view m k = some a := fun a => by
  have h1 := mem_view hl ⟨k.1, k.2, a⟩
  have h2 := mem_view hm ⟨k.1, k.2, a⟩
  rw [h.mem_iff] at h1
  exact h1.symm.trans h2
 cases hq : view l k with
 | none => cases hq2 : view m k with
  | none => rfl
  | some a => rw [(H a).2 hq2] at hq; cases hq
 | some a => exact ((H a).1 hq).symm
theorem zero_merge {a : A8} (h : Fine a) : A8.zero.merge a = a := by
 obtain ⟨s, d0, d1, d2, d3, d4, d5, d6⟩ := a
 obtain ⟨h0, h1, h2, h3, h4, h5, h6, h7, h8⟩ := h
 simp only at h0 h1 h2 h3 h4 h5 h6 h7 h8
 simp only [A8.merge, A8.zero, A8.mk.injEq]
 refine ⟨?_, ?_, ?_, ?_, ?_, ?_, ?_, ?_⟩ <;> omega
def entsOf (l : List En) : List En := l.foldl (fun es e => mergeE es e.foot e.num e.a) []
theorem entsOf_snoc (l : List En) (e : En) : entsOf (l ++ [e]) = mergeE (entsOf l) e.foot e.num e.a := by unfold entsOf; rw [List.foldl_append]; rfl
def stepL (l : List En) (o : Op12) : List En := match opN o with
 | some (k, v) => l ++ [⟨k.1, k.2, v⟩]
 | none => l
theorem stepL_ents (l : List En) (o : Op12) : stepE (entsOf l) o = entsOf (stepL l o) := by
 rw [step_opN]
 unfold stepL
 cases opN o with
 | none => rfl
 | some q => exact (entsOf_snoc l ⟨q.1.1, q.1.2, q.2⟩).symm
theorem fold_rc (g : Bool) (k : ByteArray × Int) (x : En) : ∀ (l : List En) (z : A8), l.foldl (askStep g k) (askStep g k z x) = askStep g k (l.foldl (askStep g k) z) x
 | [], _ => rfl
 | y :: l, z => by rw [List.foldl_cons, List.foldl_cons, ask_rc, fold_rc g k x l]
theorem past_merge {a b : A8} (h : 0 ≤ a.s) (k : 0 ≤ b.s) : (a.merge b).past (a.merge b).s = (a.past a.s).merge (b.past b.s) := by
 have e : 0 ≤ (a.merge b).s := by show 0 ≤ max a.s b.s; omega
 unfold A8.past
 rw [if_pos h, if_pos k, if_pos e]
 unfold A8.merge
 simp only [A8.mk.injEq, and_true]
 omega
theorem merge_assoc (a b c : A8) : (a.merge b).merge c = a.merge (b.merge c) := by
 simp only [A8.merge, A8.mk.injEq]
 refine ⟨?_, ?_, ?_, ?_, ?_, ?_, ?_, ?_⟩ <;> omega
theorem ask_merge {g : Bool} {k : ByteArray × Int} {f : ByteArray} {n : Int} {a : A8} (ha : Fine a) : ∀ {es : List En}, (∀ e ∈ es, Fine e.a) → ∀ z, (mergeE es f n a).foldl (askStep g k) z = askStep g k (es.foldl (askStep g k) z) ⟨f, n, a⟩
 | [], _, z => by
  unfold mergeE
  rw [zero_merge ha]
  rfl
 | e :: es, h, z => by
  unfold mergeE
  split
  · rename_i he
    obtain ⟨h1, h2⟩ := is_iff.1 he
    rw [List.foldl_cons, List.foldl_cons, ← fold_rc]
    congr 1
    unfold askStep
    simp only [h1, h2]
    split
    · rw [past_merge (h e (by simp)).s0 ha.s0, merge_assoc]
    · rfl
  · rw [List.foldl_cons, List.foldl_cons]
    exact ask_merge ha (fun x hx => h x (by simp [hx])) _
theorem fine_ents {l : List En} (h : ∀ e ∈ l, Fine e.a) : ∀ e ∈ entsOf l, Fine e.a := by
 unfold entsOf
 suffices H : ∀ (l es : List En), (∀ e ∈ l, Fine e.a) → (∀ e ∈ es, Fine e.a) → ∀ e ∈ l.foldl (fun es e => mergeE es e.foot e.num e.a) es, Fine e.a from H l [] h nofun
 intro l
 induction l with
 | nil => exact fun _ _ h => h
 | cons x l ih => exact fun es h1 h2 => ih _ (fun e he => h1 e (by simp [he])) (fine_mergeE (h1 x (by simp)) h2)
theorem ask_ents {g : Bool} {k : ByteArray × Int} {l : List En} (h : ∀ e ∈ l, Fine e.a) : askF g k (entsOf l) = askF g k l := by
 suffices H : ∀ r : List En, (∀ e ∈ r.reverse, Fine e.a) → askF g k (entsOf r.reverse) = askF g k r.reverse by
  have := H l.reverse
  rw [List.reverse_reverse] at this
  exact this h
 intro r
 induction r with
 | nil => exact fun _ => rfl
 | cons x r ih =>
  intro hr
  rw [List.reverse_cons] at hr ⊢
  have h1 := fun e he => hr e (List.mem_append_left _ he)
  rw [entsOf_snoc, askF_snoc, ← ih h1]
  exact ask_merge (hr x (by simp)) (fine_ents h1) _
def ltK (a b : ByteArray × Int) : Prop := compareBytes (bl a.1) (bl b.1) < 0 ∨ compareBytes (bl a.1) (bl b.1) = 0 ∧ a.2 < b.2
instance (a b : ByteArray × Int) : Decidable (ltK a b) := by unfold ltK; infer_instance
theorem ltK_irr (a : ByteArray × Int) : ¬ ltK a a := by unfold ltK; rw [Cb.cb_self]; omega
theorem ltK_tr {a b c : ByteArray × Int} (h : ltK a b) (k : ltK b c) : ltK a c := by
 unfold ltK at *
 rcases h with h | ⟨h, h2⟩
 · rcases k with k | ⟨k, k2⟩
   · exact .inl (Cb.cb_trans _ _ _ h k)
   · rw [← Cb.cb_zero _ _ k]; exact .inl h
 · rw [Cb.cb_zero _ _ h]
   rcases k with k | ⟨k, k2⟩
   · exact .inl k
   · exact .inr ⟨k, by omega⟩
theorem ltK_tri (a b : ByteArray × Int) : ltK a b ∨ a = b ∨ ltK b a := by
 unfold ltK
 have h1 := Cb.cb_flip (bl a.1) (bl b.1)
 rcases Cb.cb_three (bl a.1) (bl b.1) with h | h | h
 · exact .inl (.inl (by omega))
 · have e : a.1 = b.1 := bl_same (Cb.cb_zero _ _ h)
   rcases Int.lt_trichotomy a.2 b.2 with q | q | q
   · exact .inl (.inr ⟨h, q⟩)
   · exact .inr (.inl (Prod.ext e q))
   · exact .inr (.inr (.inr ⟨by omega, q⟩))
 · exact .inr (.inr (.inl (by omega)))
def insK : List En → En → List En
 | [], e => [e]
 | x :: out, e => if ltK x.k e.k then x :: insK out e else if x.is e.foot e.num then ⟨x.foot, x.num, x.a.merge e.a⟩ :: out else e :: x :: out
def entsK (l : List En) : List En := l.foldl insK []
def StK (l : List En) : Prop := (l.map En.k).Pairwise ltK
theorem insK_keys (e : En) : ∀ (out : List En) (y : En), y ∈ insK out e → y.k = e.k ∨ ∃ x ∈ out, x.k = y.k
 | [], y, h => by rw [List.mem_singleton.1 h]; exact .inl rfl
 | x :: out, y, h => by
  unfold insK at h
  split at h
  · rcases List.mem_cons.1 h with rfl | h
    · exact .inr ⟨y, by simp, rfl⟩
    · rcases insK_keys e out y h with q | ⟨z, h1, h2⟩
      · exact .inl q
      · exact .inr ⟨z, by simp [h1], h2⟩
  · split at h
    · rcases List.mem_cons.1 h with rfl | h
      · exact .inr ⟨x, by simp, rfl⟩
      · exact .inr ⟨y, by simp [h], rfl⟩
    · rcases List.mem_cons.1 h with rfl | h
      · exact .inl rfl
      · exact .inr ⟨y, h, rfl⟩
theorem insK_st {e : En} : ∀ {out : List En}, StK out → StK (insK out e)
 | [], _ => by simp [insK, StK]
 | x :: out, h => by
  unfold StK at h
  rw [List.map_cons, List.pairwise_cons] at h
  obtain ⟨h1, h2⟩ := h
  unfold insK
  split
  · rename_i hl
    unfold StK
    rw [List.map_cons, List.pairwise_cons]
    refine ⟨fun y hy => ?_, insK_st h2⟩
    obtain ⟨z, hz, rfl⟩ := List.mem_map.1 hy
    rcases insK_keys e out z hz with q | ⟨u, h3, h4⟩
    · rw [q]; exact hl
    · rw [← h4]; exact h1 _ (List.mem_map.2 ⟨u, h3, rfl⟩)
  · rename_i hl
    split
    · unfold StK
      rw [List.map_cons, List.pairwise_cons]
      exact ⟨h1, h2⟩
    · rename_i hne
      have hxe : ltK e.k x.k := by
       rcases ltK_tri x.k e.k with q | q | q
       · exact absurd q hl
       · exact absurd (is_iff.2 ⟨congrArg Prod.fst q, congrArg Prod.snd q⟩) hne
       · exact q
      unfold StK
      rw [List.map_cons, List.map_cons, List.pairwise_cons, List.pairwise_cons]
      refine ⟨fun y hy => ?_, h1, h2⟩
      rcases List.mem_cons.1 hy with rfl | hy
      · exact hxe
      · exact ltK_tr hxe (h1 y hy)
theorem insK_merge {e : En} (he : Fine e.a) : ∀ {out : List En}, StK out → (insK out e).Perm (mergeE out e.foot e.num e.a)
 | [], _ => by unfold insK mergeE; rw [zero_merge he]
 | x :: out, h => by
  unfold StK at h
  rw [List.map_cons, List.pairwise_cons] at h
  obtain ⟨h1, h2⟩ := h
  unfold insK
  split
  · rename_i hl
    have hx : x.is e.foot e.num = false := by
     cases q : x.is e.foot e.num with
     | false => rfl
     | true => exact absurd hl (by rw [show x.k = e.k from Prod.ext (is_iff.1 q).1 (is_iff.1 q).2]; exact ltK_irr _)
    unfold mergeE
    rw [if_neg (by rw [hx]; decide)]
    exact (insK_merge he h2).cons x
  · rename_i hl
    split
    · rename_i hq
      unfold mergeE
      rw [if_pos hq, (is_iff.1 hq).1, (is_iff.1 hq).2]
    · rename_i hne
      have hno : find (x :: out) e.foot e.num = none := by
       unfold find
       refine List.find?_eq_none.2 fun y hy hq => ?_
       have ky : y.k = e.k := Prod.ext (is_iff.1 hq).1 (is_iff.1 hq).2
       rcases List.mem_cons.1 hy with rfl | hy
       · exact hne hq
       · exact hl (by rw [← ky]; exact h1 _ (List.mem_map.2 ⟨y, hy, rfl⟩))
      rw [merge_none hno, zero_merge he]
      exact (List.perm_append_singleton _ _).symm
theorem entsK_of {l : List En} (h : ∀ e ∈ l, Fine e.a) : StK (entsK l) ∧ (entsK l).Perm (entsOf l) := by
 suffices H : ∀ (l : List En) (es out : List En), (∀ e ∈ l, Fine e.a) → StK out → Kn es → out.Perm es → StK (l.foldl insK out) ∧ (l.foldl insK out).Perm (l.foldl (fun es e => mergeE es e.foot e.num e.a) es) from H l [] [] h (by simp [StK]) (by simp [Kn]) (.refl _)
 intro l
 induction l with
 | nil => exact fun es out _ h1 _ h2 => ⟨h1, h2⟩
 | cons e l ih =>
  intro es out hf h1 hk h2
  have hko : Kn out := by unfold Kn; exact (h2.map En.k).nodup_iff.2 hk
  refine ih _ _ (fun x hx => hf x (by simp [hx])) (insK_st h1) (kn_merge hk _ _ _) ((insK_merge (hf e (by simp)) h1).trans ?_)
  refine view_perm (kn_merge hko _ _ _) (kn_merge hk _ _ _) ?_
  have v1 := view_merge (e.foot, e.num) e.a out
  have v2 := view_merge (e.foot, e.num) e.a es
  simp only at v1 v2
  rw [v1, v2]
  congr 1
  exact view_of_perm hko hk h2
theorem stK_one {l m : List En} (hl : StK l) (hm : StK m) (h : l.Perm m) : l = m := by
 unfold StK at hl hm
 rw [List.pairwise_map] at hl hm
 exact List.Perm.eq_of_pairwise (le := fun a b => ltK a.k b.k) (fun a b _ _ p q => absurd (ltK_tr p q) (ltK_irr _)) hl hm h
end Go.Proofs.YtgbpfgdjnhbcgaaGreatDoor.Ix
end
section
namespace Go.Proofs.YtgbpfgdjnhbcgaaGreatDoor.Cmd
theorem refRight_b (c : Cm) (hf : c.foot.size ≤ 1000) (hp : c.path.size ≤ 1000) {b : Bool} (hb : rightC c = b) (w : World) : Calls Tryz.prog 61 #[c.val] w fun e w' => e = .returned (.bool b) ∧ Ext w w' := by
 rw [← hb]; exact refRight_is c hf hp w
def fD (c : Cm) : ByteArray := if (footC c).2 = true then (footC c).1 else .empty
theorem footR_is (c : Cm) (hf : c.foot.size ≤ 1000) (hp : c.path.size ≤ 1000) (w : World) : Calls Tryz.prog 38 #[c.val] w fun e w' => e = .returned (.tuple #[.string (fD c), .bool (footC c).2]) ∧ Ext w w' := by
 cases hr : rightC c with
 | false =>
  exact (footR_no c w (fun w => refRight_b c hf hp hr w) (.inl rfl)).mono fun e w' ⟨he, hx⟩ => ⟨by rw [he]; simp [fD, footC, hr], hx⟩
 | true =>
  have hrc := fun w => refRight_b c hf hp hr w
  obtain ⟨kind, num, foot, req, path, mode, n, time⟩ := c
  by_cases h0 : kind = 0
  · subst h0
    exact (footR_no ⟨0, num, foot, req, path, mode, n, time⟩ w hrc (.inr rfl)).mono fun e w' ⟨he, hx⟩ => ⟨by rw [he]; simp [fD, footC, hasOf, hr], hx⟩
  by_cases h1 : kind = 1
  · subst h1
    exact (footR_1 num foot req path mode n time w hrc).mono fun e w' ⟨he, hx⟩ => ⟨by rw [he]; simp [fD, footC, hasOf, hr], hx⟩
  by_cases h2 : kind = 2
  · subst h2
    exact (footR_2 num foot req path mode n time w hrc).mono fun e w' ⟨he, hx⟩ => ⟨by rw [he]; simp [fD, footC, hasOf, hr], hx⟩
  by_cases h3 : kind = 3
  · subst h3
    exact (footR_3 num foot req path mode n time w hrc).mono fun e w' ⟨he, hx⟩ => ⟨by rw [he]; simp [fD, footC, hasOf, hr], hx⟩
  by_cases h4 : kind = 4
  · subst h4
    exact (footR_4 num foot req path mode n time w hrc).mono fun e w' ⟨he, hx⟩ => ⟨by rw [he]; simp [fD, footC, hasOf, hr], hx⟩
  by_cases h5 : kind = 5
  · subst h5
    exact (footR_5 num foot req path mode n time w hrc).mono fun e w' ⟨he, hx⟩ => ⟨by rw [he]; simp [fD, footC, hasOf, hr], hx⟩
  by_cases h6 : kind = 6
  · subst h6
    exact (footR_6 num foot req path mode n time w hrc).mono fun e w' ⟨he, hx⟩ => ⟨by rw [he]; simp [fD, footC, hasOf, hr], hx⟩
  by_cases h7 : kind = 7
  · subst h7
    exact (footR_7 num foot req path mode n time w hrc).mono fun e w' ⟨he, hx⟩ => ⟨by rw [he]; simp [fD, footC, hasOf, hr], hx⟩
  by_cases h8 : kind = 8
  · subst h8
    exact (footR_8 num foot req path mode n time w hrc).mono fun e w' ⟨he, hx⟩ => ⟨by rw [he]; simp [fD, footC, hasOf, hr], hx⟩
  exfalso
  unfold rightC hasOf at hr
  simp [h0, h1, h2, h3, h4, h5, h6, h7, h8] at hr
end Go.Proofs.YtgbpfgdjnhbcgaaGreatDoor.Cmd
namespace Go.Proofs.YtgbpfgdjnhbcgaaGreatDoor.Ix
open Go.RowKit
open Path (bl rightB overB)
open Attr (A8 rightI)
open Cmd (Cm through0 idR_any footR_is keyC footC fD)
attribute [-go_sem] run_eql_struct run_neq_struct run_eqGuard_agg
abbrev rowN (v : Value) (l : List En) : Part := .row 53 10 v l.length (l.flatMap En.cells)
theorem rowN_nil {L0 L : List Part} {w0 w : World} (h : At L0 w0 L w) : At L0 w0 (rowN (.slice none 0 0) [] :: L) w := h.row_nil 53 10
theorem rowN_snoc (v : Value) (l : List En) (e : En) : Part.row 53 10 v (l.length + 1) (l.flatMap En.cells ++ e.cells) = rowN v (l ++ [e]) := by simp [rowN]
theorem flatN_len (l : List En) : (l.flatMap En.cells).length = l.length * 10 := by
 induction l with
 | nil => rfl
 | cons e l ih => rw [List.flatMap_cons, List.length_append, ih, enL_len, List.length_cons]; omega
theorem flatN_one (l : List En) : ∀ u ∈ l.flatMap En.cells, u.oneCell' = true := fun u hu => by
 obtain ⟨e, _, he⟩ := List.mem_flatMap.1 hu
 exact enL_one e u he
def noteL (l : List En) (k : Option (ByteArray × Int)) (r t q : Int) : List En := match k with
 | some (f, n) => if rightI r t = true then l ++ [⟨f, n, noteA r t q⟩] else l
 | none => l
def NoteP (w : World) (v : Value) (l l' : List En) (e : Ending) (w' : World) : Prop := ∃ v', e = .returned v' ∧ At [rowN v l] w [rowN v' l'] w'
theorem cut_min (q : Int) : cutI q = min (max q 0) 1073741824 := by unfold cutI; split <;> (try split) <;> omega
theorem noteR_any {w : World} {v : Value} {l : List En} (h : Sep [rowN v l] w) (c : Cm) (hf : c.foot.size ≤ 1000) (hp : c.path.size ≤ 1000) (r t q : Int) (hl : l.length ≤ 1000000) :
 Calls Tryz.prog 23 #[v, c.val, .agg #[.int .i64 r, .int .i64 t], .int .i64 q] w (NoteP w v l (noteL l (keyC c) r t q)) := by
 obtain ⟨i0, hi0, hz0, hz1, hz2⟩ := info_parts infoN
 have hA := At.start h
 clear h
 obtain ⟨lx, lc, rfl, _⟩ := hA.row_form (v := v) (xs := l.flatMap En.cells) sZ
 have hF := hA.facts
 have hfo := fun w => footR_is c hf hp w
 have hri := fun w => idR_any r t w
 have hkc : keyC c = if (footC c).2 = true then some (fD c, c.num) else none := by
  unfold keyC fD
  by_cases hq : (footC c).2 = true <;> simp [hq]
 rw [hkc]
 clear hkc
 obtain ⟨ri, hrid⟩ : ∃ ri, rightI r t = ri := ⟨_, rfl⟩
 rw [hrid] at hri
 have hcu := fun w => cut_any q w
 have hcq := cut_min q
 generalize cutI q = cq at *
 generalize fD c = ff at *
 generalize (footC c).2 = fb at *
 obtain ⟨kind, num, foot, req, path, mode, n, time⟩ := c
 simp only [Cm.val] at *
 cases fb with
 | false =>
  have hcq' := Lib.hid hcq
  have hrid' := Lib.hid hrid
  clear hcq hrid
  have hF := hA.facts; (try simp only [uZ] at hA hF)
  go_enter Tryz.func23, Tryz.ntmps23
  go_wp2_with (first | ((with_reducible refine gbx ?_); refine wH 57 [.int .i64 kind, .int .u64 num, .string foot, .int .u64 req, .string path, .int .i64 mode, .int .u64 n, .int .i64 time] hA ?_; clear hF hA; intro bC w1 hA hbC hF; (try simp only [uZ] at hA hF)) | ((with_reducible refine gbx ?_); refine wH 59 [.int .i64 r, .int .i64 t] hA ?_; clear hF hA; intro bI w1 hA hbI hF; (try simp only [uZ] at hA hF)) | ((with_reducible refine gst ?_); refine wT hA ?_; clear hF hA; intro w1 hA hF; (try simp only [uZ] at hA hF)) | ((with_reducible refine gbx ?_); refine wC hA ?_; clear hF hA; intro b1 w1 hA hb1 hF; (try simp only [uZ] at hA hF)))
  refine (hfo _).mono ?_
  clear hfo
  rintro e w1 ⟨rfl, hx⟩
  have hB := hA.ext hx
  clear hF hA hx; have hA := hB; clear hB
  have hF := hA.facts; (try simp only [uZ] at hA hF)
  go_wp2_with (first | ((with_reducible refine gst ?_); refine wT hA ?_; clear hF hA; intro w1 hA hF; (try simp only [uZ] at hA hF)) | ((with_reducible refine gbx ?_); refine wC hA ?_; clear hF hA; intro b1 w1 hA hb1 hF; (try simp only [uZ] at hA hF)))
  go_ret
  exact ⟨_, rfl, hA.pick pZ⟩
 | true =>
  cases ri with
  | false =>
   have hcq' := Lib.hid hcq
   have hrid' := Lib.hid hrid
   clear hcq hrid
   have hF := hA.facts; (try simp only [uZ] at hA hF)
   go_enter Tryz.func23, Tryz.ntmps23
   go_wp2_with (first | ((with_reducible refine gbx ?_); refine wH 57 [.int .i64 kind, .int .u64 num, .string foot, .int .u64 req, .string path, .int .i64 mode, .int .u64 n, .int .i64 time] hA ?_; clear hF hA; intro bC w1 hA hbC hF; (try simp only [uZ] at hA hF)) | ((with_reducible refine gbx ?_); refine wH 59 [.int .i64 r, .int .i64 t] hA ?_; clear hF hA; intro bI w1 hA hbI hF; (try simp only [uZ] at hA hF)) | ((with_reducible refine gst ?_); refine wT hA ?_; clear hF hA; intro w1 hA hF; (try simp only [uZ] at hA hF)) | ((with_reducible refine gbx ?_); refine wC hA ?_; clear hF hA; intro b1 w1 hA hb1 hF; (try simp only [uZ] at hA hF)))
   refine (hfo _).mono ?_
   clear hfo
   rintro e w1 ⟨rfl, hx⟩
   have hB := hA.ext hx
   clear hF hA hx; have hA := hB; clear hB
   have hF := hA.facts; (try simp only [uZ] at hA hF)
   go_wp2_with (first | ((with_reducible refine gst ?_); refine wT hA ?_; clear hF hA; intro w1 hA hF; (try simp only [uZ] at hA hF)) | ((with_reducible refine gbx ?_); refine wC hA ?_; clear hF hA; intro b1 w1 hA hb1 hF; (try simp only [uZ] at hA hF)))
   refine (hri _).mono ?_
   clear hri
   rintro e w1 ⟨rfl, hx⟩
   have hB := hA.ext hx
   clear hF hA hx; have hA := hB; clear hB
   have hF := hA.facts; (try simp only [uZ] at hA hF)
   go_wp2_with (first | ((with_reducible refine gst ?_); refine wT hA ?_; clear hF hA; intro w1 hA hF; (try simp only [uZ] at hA hF)) | ((with_reducible refine gbx ?_); refine wC hA ?_; clear hF hA; intro b1 w1 hA hb1 hF; (try simp only [uZ] at hA hF)))
   go_ret
   refine ⟨_, rfl, ?_⟩
   unfold noteL
   simp only [hrid'.out, if_true, if_false, Bool.false_eq_true]
   exact hA.pick pZ
  | true =>
   have hq := Attr.rightI_iff.1 hrid
   have hq7 : r = 0 ∨ r = 1 ∨ r = 2 ∨ r = 3 ∨ r = 4 ∨ r = 5 ∨ r = 6 := by omega
   have hwt : IntKind.i64.wrap (t + 1) = t + 1 := by rw [IntKind.wrap_i64] <;> omega
   have hnl : noteL l (if true = true then some (ff, num) else none) r t q = l ++ [⟨ff, num, noteA r t q⟩] := by unfold noteL; simp [hrid]
   rw [hnl]
   have hcq' := Lib.hid hcq
   clear hq hrid hcq hnl
   have hB := rowN_nil hA
   clear hF hA; have hA := hB; clear hB
   have hF := hA.facts; (try simp only [uZ] at hA hF)
   go_enter Tryz.func23, Tryz.ntmps23
   go_wp2_with (first | ((with_reducible refine gbx ?_); refine wH 57 [.int .i64 kind, .int .u64 num, .string foot, .int .u64 req, .string path, .int .i64 mode, .int .u64 n, .int .i64 time] hA ?_; clear hF hA; intro bC w1 hA hbC hF; (try simp only [uZ] at hA hF)) | ((with_reducible refine gbx ?_); refine wH 59 [.int .i64 r, .int .i64 t] hA ?_; clear hF hA; intro bI w1 hA hbI hF; (try simp only [uZ] at hA hF)) | ((with_reducible refine gst ?_); refine wT hA ?_; clear hF hA; intro w1 hA hF; (try simp only [uZ] at hA hF)) | ((with_reducible refine gbx ?_); refine wC hA ?_; clear hF hA; intro b1 w1 hA hb1 hF; (try simp only [uZ] at hA hF)))
   refine (hfo _).mono ?_
   clear hfo
   rintro e w1 ⟨rfl, hx⟩
   have hB := hA.ext hx
   clear hF hA hx; have hA := hB; clear hB
   have hF := hA.facts; (try simp only [uZ] at hA hF)
   go_wp2_with (first | ((with_reducible refine gst ?_); refine wT hA ?_; clear hF hA; intro w1 hA hF; (try simp only [uZ] at hA hF)) | ((with_reducible refine gbx ?_); refine wC hA ?_; clear hF hA; intro b1 w1 hA hb1 hF; (try simp only [uZ] at hA hF)))
   refine (hri _).mono ?_
   clear hri
   rintro e w1 ⟨rfl, hx⟩
   have hB := hA.ext hx
   clear hF hA hx; have hA := hB; clear hB
   have hF := hA.facts; (try simp only [uZ] at hA hF)
   go_wp2_with (first | ((with_reducible refine gal ?_); refine wG 53 [.string .empty, .int .u64 0, .int .i64 0, .int .i64 0, .int .i64 0, .int .i64 0, .int .i64 0, .int .i64 0, .int .i64 0, .int .i64 0] hA ?_; clear hF hA; intro bN w1 hA hbN hF; (try simp only [uZ] at hA hF)) | ((with_reducible refine gst ?_); refine wT hA ?_; clear hF hA; intro w1 hA hF; (try simp only [uZ] at hA hF)) | ((with_reducible refine gbx ?_); refine wC hA ?_; clear hF hA; intro b1 w1 hA hb1 hF; (try simp only [uZ] at hA hF)))
   refine (hcu _).mono ?_
   clear hcu
   rintro e w1 ⟨rfl, hx⟩
   have hB := hA.ext hx
   clear hF hA hx; have hA := hB; clear hB
   have hF := hA.facts; (try simp only [uZ] at hA hF)
   rcases hq7 with rfl | rfl | rfl | rfl | rfl | rfl | rfl
   · go_wp2_with (first | ((with_reducible show wpList _ _ _ ({ dst := some 44, op := Op.call _, type := _, pos := _, after := _, guard := _ } :: _) _ _); refine wpList_append_at (e := 53) (size := 10) (v := .slice none 0 0) (xs := []) (n := 0) (m := l.length) (news := l.flatMap En.cells) rfl _ _ 35 rfl Tryz.underlying35 hi0 hz0 hz1 hz2 rfl (by omega) hA sZ (by (try simp only [Act.eval, eV]) <;> exact rfl) (by (try simp only [Act.eval, eV]) <;> exact rfl) (flatN_len l) (hA.row_reads (v := .slice lx l.length lc) (n := l.length) (xs := l.flatMap En.cells) sZ) (flatN_one l) (by unfold maxLen; omega) (by omega) ?_; intro v1 w1 hB; (simp only [Nat.zero_add, List.nil_append] at hB); clear hF hA; have hA := hB; clear hB; have hF := hA.facts; (try simp only [uZ] at hA hF)) | ((with_reducible show wpList _ _ _ ({ dst := some 47, op := _, type := _, pos := _, after := _, guard := _ } :: _) _ _); refine wpList_one_at (e := 53) (vs := [.string ff, .int .u64 num, .int .i64 cq, .int .i64 (t + 1), .int .i64 0, .int .i64 0, .int .i64 0, .int .i64 0, .int .i64 0, .int .i64 0]) rfl rfl (by (try simp only [Act.eval, eV]) <;> exact rfl) (fun _ => by kernel_rfl) hA ?_; intro b2 w1 hB hb2; clear hF hA; have hA := hB; clear hB; have hF := hA.facts; (try simp only [uZ] at hA hF)) | ((with_reducible show wpList _ _ _ ({ dst := some 48, op := Op.call _, type := _, pos := _, after := _, guard := _ } :: _) _ _); refine wpList_append_at (e := 53) (size := 10) (v := v1) (xs := l.flatMap En.cells) (n := l.length) (m := 1) (news := [.string ff, .int .u64 num, .int .i64 cq, .int .i64 (t + 1), .int .i64 0, .int .i64 0, .int .i64 0, .int .i64 0, .int .i64 0, .int .i64 0]) rfl _ _ 35 rfl Tryz.underlying35 hi0 hz0 hz1 hz2 rfl (by omega) hA sZ (by (try simp only [Act.eval, eV]) <;> exact rfl) (by (try simp only [Act.eval, eV]) <;> exact rfl) rfl (hA.cells_reads sZ _ _) (enL_one ⟨ff, num, ⟨cq, t + 1, 0, 0, 0, 0, 0, 0⟩⟩) (by unfold maxLen; omega) (by omega) ?_; intro v2 w1 hB; clear hF hA; have hA := hB; clear hB; have hF := hA.facts; (try simp only [uZ] at hA hF)) | ((with_reducible refine gst ?_); refine wT hA ?_; clear hF hA; intro w1 hA hF; (try simp only [uZ] at hA hF)) | ((with_reducible refine gbx ?_); refine wC hA ?_; clear hF hA; intro b1 w1 hA hb1 hF; (try simp only [uZ] at hA hF)))
     go_ret
     have hB := (rowN_snoc v2 l ⟨ff, num, ⟨cq, t + 1, 0, 0, 0, 0, 0, 0⟩⟩) ▸ hA
     rw [hcq'.out] at hB
     exact ⟨_, rfl, hB.pick pZ⟩
   · go_wp2_with (first | ((with_reducible show wpList _ _ _ ({ dst := some 44, op := Op.call _, type := _, pos := _, after := _, guard := _ } :: _) _ _); refine wpList_append_at (e := 53) (size := 10) (v := .slice none 0 0) (xs := []) (n := 0) (m := l.length) (news := l.flatMap En.cells) rfl _ _ 35 rfl Tryz.underlying35 hi0 hz0 hz1 hz2 rfl (by omega) hA sZ (by (try simp only [Act.eval, eV]) <;> exact rfl) (by (try simp only [Act.eval, eV]) <;> exact rfl) (flatN_len l) (hA.row_reads (v := .slice lx l.length lc) (n := l.length) (xs := l.flatMap En.cells) sZ) (flatN_one l) (by unfold maxLen; omega) (by omega) ?_; intro v1 w1 hB; (simp only [Nat.zero_add, List.nil_append] at hB); clear hF hA; have hA := hB; clear hB; have hF := hA.facts; (try simp only [uZ] at hA hF)) | ((with_reducible show wpList _ _ _ ({ dst := some 47, op := _, type := _, pos := _, after := _, guard := _ } :: _) _ _); refine wpList_one_at (e := 53) (vs := [.string ff, .int .u64 num, .int .i64 cq, .int .i64 0, .int .i64 (t + 1), .int .i64 0, .int .i64 0, .int .i64 0, .int .i64 0, .int .i64 0]) rfl rfl (by (try simp only [Act.eval, eV]) <;> exact rfl) (fun _ => by kernel_rfl) hA ?_; intro b2 w1 hB hb2; clear hF hA; have hA := hB; clear hB; have hF := hA.facts; (try simp only [uZ] at hA hF)) | ((with_reducible show wpList _ _ _ ({ dst := some 48, op := Op.call _, type := _, pos := _, after := _, guard := _ } :: _) _ _); refine wpList_append_at (e := 53) (size := 10) (v := v1) (xs := l.flatMap En.cells) (n := l.length) (m := 1) (news := [.string ff, .int .u64 num, .int .i64 cq, .int .i64 0, .int .i64 (t + 1), .int .i64 0, .int .i64 0, .int .i64 0, .int .i64 0, .int .i64 0]) rfl _ _ 35 rfl Tryz.underlying35 hi0 hz0 hz1 hz2 rfl (by omega) hA sZ (by (try simp only [Act.eval, eV]) <;> exact rfl) (by (try simp only [Act.eval, eV]) <;> exact rfl) rfl (hA.cells_reads sZ _ _) (enL_one ⟨ff, num, ⟨cq, 0, t + 1, 0, 0, 0, 0, 0⟩⟩) (by unfold maxLen; omega) (by omega) ?_; intro v2 w1 hB; clear hF hA; have hA := hB; clear hB; have hF := hA.facts; (try simp only [uZ] at hA hF)) | ((with_reducible refine gst ?_); refine wT hA ?_; clear hF hA; intro w1 hA hF; (try simp only [uZ] at hA hF)) | ((with_reducible refine gbx ?_); refine wC hA ?_; clear hF hA; intro b1 w1 hA hb1 hF; (try simp only [uZ] at hA hF)))
     go_ret
     have hB := (rowN_snoc v2 l ⟨ff, num, ⟨cq, 0, t + 1, 0, 0, 0, 0, 0⟩⟩) ▸ hA
     rw [hcq'.out] at hB
     exact ⟨_, rfl, hB.pick pZ⟩
   · go_wp2_with (first | ((with_reducible show wpList _ _ _ ({ dst := some 44, op := Op.call _, type := _, pos := _, after := _, guard := _ } :: _) _ _); refine wpList_append_at (e := 53) (size := 10) (v := .slice none 0 0) (xs := []) (n := 0) (m := l.length) (news := l.flatMap En.cells) rfl _ _ 35 rfl Tryz.underlying35 hi0 hz0 hz1 hz2 rfl (by omega) hA sZ (by (try simp only [Act.eval, eV]) <;> exact rfl) (by (try simp only [Act.eval, eV]) <;> exact rfl) (flatN_len l) (hA.row_reads (v := .slice lx l.length lc) (n := l.length) (xs := l.flatMap En.cells) sZ) (flatN_one l) (by unfold maxLen; omega) (by omega) ?_; intro v1 w1 hB; (simp only [Nat.zero_add, List.nil_append] at hB); clear hF hA; have hA := hB; clear hB; have hF := hA.facts; (try simp only [uZ] at hA hF)) | ((with_reducible show wpList _ _ _ ({ dst := some 47, op := _, type := _, pos := _, after := _, guard := _ } :: _) _ _); refine wpList_one_at (e := 53) (vs := [.string ff, .int .u64 num, .int .i64 cq, .int .i64 0, .int .i64 0, .int .i64 (t + 1), .int .i64 0, .int .i64 0, .int .i64 0, .int .i64 0]) rfl rfl (by (try simp only [Act.eval, eV]) <;> exact rfl) (fun _ => by kernel_rfl) hA ?_; intro b2 w1 hB hb2; clear hF hA; have hA := hB; clear hB; have hF := hA.facts; (try simp only [uZ] at hA hF)) | ((with_reducible show wpList _ _ _ ({ dst := some 48, op := Op.call _, type := _, pos := _, after := _, guard := _ } :: _) _ _); refine wpList_append_at (e := 53) (size := 10) (v := v1) (xs := l.flatMap En.cells) (n := l.length) (m := 1) (news := [.string ff, .int .u64 num, .int .i64 cq, .int .i64 0, .int .i64 0, .int .i64 (t + 1), .int .i64 0, .int .i64 0, .int .i64 0, .int .i64 0]) rfl _ _ 35 rfl Tryz.underlying35 hi0 hz0 hz1 hz2 rfl (by omega) hA sZ (by (try simp only [Act.eval, eV]) <;> exact rfl) (by (try simp only [Act.eval, eV]) <;> exact rfl) rfl (hA.cells_reads sZ _ _) (enL_one ⟨ff, num, ⟨cq, 0, 0, t + 1, 0, 0, 0, 0⟩⟩) (by unfold maxLen; omega) (by omega) ?_; intro v2 w1 hB; clear hF hA; have hA := hB; clear hB; have hF := hA.facts; (try simp only [uZ] at hA hF)) | ((with_reducible refine gst ?_); refine wT hA ?_; clear hF hA; intro w1 hA hF; (try simp only [uZ] at hA hF)) | ((with_reducible refine gbx ?_); refine wC hA ?_; clear hF hA; intro b1 w1 hA hb1 hF; (try simp only [uZ] at hA hF)))
     go_ret
     have hB := (rowN_snoc v2 l ⟨ff, num, ⟨cq, 0, 0, t + 1, 0, 0, 0, 0⟩⟩) ▸ hA
     rw [hcq'.out] at hB
     exact ⟨_, rfl, hB.pick pZ⟩
   · go_wp2_with (first | ((with_reducible show wpList _ _ _ ({ dst := some 44, op := Op.call _, type := _, pos := _, after := _, guard := _ } :: _) _ _); refine wpList_append_at (e := 53) (size := 10) (v := .slice none 0 0) (xs := []) (n := 0) (m := l.length) (news := l.flatMap En.cells) rfl _ _ 35 rfl Tryz.underlying35 hi0 hz0 hz1 hz2 rfl (by omega) hA sZ (by (try simp only [Act.eval, eV]) <;> exact rfl) (by (try simp only [Act.eval, eV]) <;> exact rfl) (flatN_len l) (hA.row_reads (v := .slice lx l.length lc) (n := l.length) (xs := l.flatMap En.cells) sZ) (flatN_one l) (by unfold maxLen; omega) (by omega) ?_; intro v1 w1 hB; (simp only [Nat.zero_add, List.nil_append] at hB); clear hF hA; have hA := hB; clear hB; have hF := hA.facts; (try simp only [uZ] at hA hF)) | ((with_reducible show wpList _ _ _ ({ dst := some 47, op := _, type := _, pos := _, after := _, guard := _ } :: _) _ _); refine wpList_one_at (e := 53) (vs := [.string ff, .int .u64 num, .int .i64 cq, .int .i64 0, .int .i64 0, .int .i64 0, .int .i64 (t + 1), .int .i64 0, .int .i64 0, .int .i64 0]) rfl rfl (by (try simp only [Act.eval, eV]) <;> exact rfl) (fun _ => by kernel_rfl) hA ?_; intro b2 w1 hB hb2; clear hF hA; have hA := hB; clear hB; have hF := hA.facts; (try simp only [uZ] at hA hF)) | ((with_reducible show wpList _ _ _ ({ dst := some 48, op := Op.call _, type := _, pos := _, after := _, guard := _ } :: _) _ _); refine wpList_append_at (e := 53) (size := 10) (v := v1) (xs := l.flatMap En.cells) (n := l.length) (m := 1) (news := [.string ff, .int .u64 num, .int .i64 cq, .int .i64 0, .int .i64 0, .int .i64 0, .int .i64 (t + 1), .int .i64 0, .int .i64 0, .int .i64 0]) rfl _ _ 35 rfl Tryz.underlying35 hi0 hz0 hz1 hz2 rfl (by omega) hA sZ (by (try simp only [Act.eval, eV]) <;> exact rfl) (by (try simp only [Act.eval, eV]) <;> exact rfl) rfl (hA.cells_reads sZ _ _) (enL_one ⟨ff, num, ⟨cq, 0, 0, 0, t + 1, 0, 0, 0⟩⟩) (by unfold maxLen; omega) (by omega) ?_; intro v2 w1 hB; clear hF hA; have hA := hB; clear hB; have hF := hA.facts; (try simp only [uZ] at hA hF)) | ((with_reducible refine gst ?_); refine wT hA ?_; clear hF hA; intro w1 hA hF; (try simp only [uZ] at hA hF)) | ((with_reducible refine gbx ?_); refine wC hA ?_; clear hF hA; intro b1 w1 hA hb1 hF; (try simp only [uZ] at hA hF)))
     go_ret
     have hB := (rowN_snoc v2 l ⟨ff, num, ⟨cq, 0, 0, 0, t + 1, 0, 0, 0⟩⟩) ▸ hA
     rw [hcq'.out] at hB
     exact ⟨_, rfl, hB.pick pZ⟩
   · go_wp2_with (first | ((with_reducible show wpList _ _ _ ({ dst := some 44, op := Op.call _, type := _, pos := _, after := _, guard := _ } :: _) _ _); refine wpList_append_at (e := 53) (size := 10) (v := .slice none 0 0) (xs := []) (n := 0) (m := l.length) (news := l.flatMap En.cells) rfl _ _ 35 rfl Tryz.underlying35 hi0 hz0 hz1 hz2 rfl (by omega) hA sZ (by (try simp only [Act.eval, eV]) <;> exact rfl) (by (try simp only [Act.eval, eV]) <;> exact rfl) (flatN_len l) (hA.row_reads (v := .slice lx l.length lc) (n := l.length) (xs := l.flatMap En.cells) sZ) (flatN_one l) (by unfold maxLen; omega) (by omega) ?_; intro v1 w1 hB; (simp only [Nat.zero_add, List.nil_append] at hB); clear hF hA; have hA := hB; clear hB; have hF := hA.facts; (try simp only [uZ] at hA hF)) | ((with_reducible show wpList _ _ _ ({ dst := some 47, op := _, type := _, pos := _, after := _, guard := _ } :: _) _ _); refine wpList_one_at (e := 53) (vs := [.string ff, .int .u64 num, .int .i64 cq, .int .i64 0, .int .i64 0, .int .i64 0, .int .i64 0, .int .i64 (t + 1), .int .i64 0, .int .i64 0]) rfl rfl (by (try simp only [Act.eval, eV]) <;> exact rfl) (fun _ => by kernel_rfl) hA ?_; intro b2 w1 hB hb2; clear hF hA; have hA := hB; clear hB; have hF := hA.facts; (try simp only [uZ] at hA hF)) | ((with_reducible show wpList _ _ _ ({ dst := some 48, op := Op.call _, type := _, pos := _, after := _, guard := _ } :: _) _ _); refine wpList_append_at (e := 53) (size := 10) (v := v1) (xs := l.flatMap En.cells) (n := l.length) (m := 1) (news := [.string ff, .int .u64 num, .int .i64 cq, .int .i64 0, .int .i64 0, .int .i64 0, .int .i64 0, .int .i64 (t + 1), .int .i64 0, .int .i64 0]) rfl _ _ 35 rfl Tryz.underlying35 hi0 hz0 hz1 hz2 rfl (by omega) hA sZ (by (try simp only [Act.eval, eV]) <;> exact rfl) (by (try simp only [Act.eval, eV]) <;> exact rfl) rfl (hA.cells_reads sZ _ _) (enL_one ⟨ff, num, ⟨cq, 0, 0, 0, 0, t + 1, 0, 0⟩⟩) (by unfold maxLen; omega) (by omega) ?_; intro v2 w1 hB; clear hF hA; have hA := hB; clear hB; have hF := hA.facts; (try simp only [uZ] at hA hF)) | ((with_reducible refine gst ?_); refine wT hA ?_; clear hF hA; intro w1 hA hF; (try simp only [uZ] at hA hF)) | ((with_reducible refine gbx ?_); refine wC hA ?_; clear hF hA; intro b1 w1 hA hb1 hF; (try simp only [uZ] at hA hF)))
     go_ret
     have hB := (rowN_snoc v2 l ⟨ff, num, ⟨cq, 0, 0, 0, 0, t + 1, 0, 0⟩⟩) ▸ hA
     rw [hcq'.out] at hB
     exact ⟨_, rfl, hB.pick pZ⟩
   · go_wp2_with (first | ((with_reducible show wpList _ _ _ ({ dst := some 44, op := Op.call _, type := _, pos := _, after := _, guard := _ } :: _) _ _); refine wpList_append_at (e := 53) (size := 10) (v := .slice none 0 0) (xs := []) (n := 0) (m := l.length) (news := l.flatMap En.cells) rfl _ _ 35 rfl Tryz.underlying35 hi0 hz0 hz1 hz2 rfl (by omega) hA sZ (by (try simp only [Act.eval, eV]) <;> exact rfl) (by (try simp only [Act.eval, eV]) <;> exact rfl) (flatN_len l) (hA.row_reads (v := .slice lx l.length lc) (n := l.length) (xs := l.flatMap En.cells) sZ) (flatN_one l) (by unfold maxLen; omega) (by omega) ?_; intro v1 w1 hB; (simp only [Nat.zero_add, List.nil_append] at hB); clear hF hA; have hA := hB; clear hB; have hF := hA.facts; (try simp only [uZ] at hA hF)) | ((with_reducible show wpList _ _ _ ({ dst := some 47, op := _, type := _, pos := _, after := _, guard := _ } :: _) _ _); refine wpList_one_at (e := 53) (vs := [.string ff, .int .u64 num, .int .i64 cq, .int .i64 0, .int .i64 0, .int .i64 0, .int .i64 0, .int .i64 0, .int .i64 (t + 1), .int .i64 0]) rfl rfl (by (try simp only [Act.eval, eV]) <;> exact rfl) (fun _ => by kernel_rfl) hA ?_; intro b2 w1 hB hb2; clear hF hA; have hA := hB; clear hB; have hF := hA.facts; (try simp only [uZ] at hA hF)) | ((with_reducible show wpList _ _ _ ({ dst := some 48, op := Op.call _, type := _, pos := _, after := _, guard := _ } :: _) _ _); refine wpList_append_at (e := 53) (size := 10) (v := v1) (xs := l.flatMap En.cells) (n := l.length) (m := 1) (news := [.string ff, .int .u64 num, .int .i64 cq, .int .i64 0, .int .i64 0, .int .i64 0, .int .i64 0, .int .i64 0, .int .i64 (t + 1), .int .i64 0]) rfl _ _ 35 rfl Tryz.underlying35 hi0 hz0 hz1 hz2 rfl (by omega) hA sZ (by (try simp only [Act.eval, eV]) <;> exact rfl) (by (try simp only [Act.eval, eV]) <;> exact rfl) rfl (hA.cells_reads sZ _ _) (enL_one ⟨ff, num, ⟨cq, 0, 0, 0, 0, 0, t + 1, 0⟩⟩) (by unfold maxLen; omega) (by omega) ?_; intro v2 w1 hB; clear hF hA; have hA := hB; clear hB; have hF := hA.facts; (try simp only [uZ] at hA hF)) | ((with_reducible refine gst ?_); refine wT hA ?_; clear hF hA; intro w1 hA hF; (try simp only [uZ] at hA hF)) | ((with_reducible refine gbx ?_); refine wC hA ?_; clear hF hA; intro b1 w1 hA hb1 hF; (try simp only [uZ] at hA hF)))
     go_ret
     have hB := (rowN_snoc v2 l ⟨ff, num, ⟨cq, 0, 0, 0, 0, 0, t + 1, 0⟩⟩) ▸ hA
     rw [hcq'.out] at hB
     exact ⟨_, rfl, hB.pick pZ⟩
   · go_wp2_with (first | ((with_reducible show wpList _ _ _ ({ dst := some 44, op := Op.call _, type := _, pos := _, after := _, guard := _ } :: _) _ _); refine wpList_append_at (e := 53) (size := 10) (v := .slice none 0 0) (xs := []) (n := 0) (m := l.length) (news := l.flatMap En.cells) rfl _ _ 35 rfl Tryz.underlying35 hi0 hz0 hz1 hz2 rfl (by omega) hA sZ (by (try simp only [Act.eval, eV]) <;> exact rfl) (by (try simp only [Act.eval, eV]) <;> exact rfl) (flatN_len l) (hA.row_reads (v := .slice lx l.length lc) (n := l.length) (xs := l.flatMap En.cells) sZ) (flatN_one l) (by unfold maxLen; omega) (by omega) ?_; intro v1 w1 hB; (simp only [Nat.zero_add, List.nil_append] at hB); clear hF hA; have hA := hB; clear hB; have hF := hA.facts; (try simp only [uZ] at hA hF)) | ((with_reducible show wpList _ _ _ ({ dst := some 47, op := _, type := _, pos := _, after := _, guard := _ } :: _) _ _); refine wpList_one_at (e := 53) (vs := [.string ff, .int .u64 num, .int .i64 cq, .int .i64 0, .int .i64 0, .int .i64 0, .int .i64 0, .int .i64 0, .int .i64 0, .int .i64 (t + 1)]) rfl rfl (by (try simp only [Act.eval, eV]) <;> exact rfl) (fun _ => by kernel_rfl) hA ?_; intro b2 w1 hB hb2; clear hF hA; have hA := hB; clear hB; have hF := hA.facts; (try simp only [uZ] at hA hF)) | ((with_reducible show wpList _ _ _ ({ dst := some 48, op := Op.call _, type := _, pos := _, after := _, guard := _ } :: _) _ _); refine wpList_append_at (e := 53) (size := 10) (v := v1) (xs := l.flatMap En.cells) (n := l.length) (m := 1) (news := [.string ff, .int .u64 num, .int .i64 cq, .int .i64 0, .int .i64 0, .int .i64 0, .int .i64 0, .int .i64 0, .int .i64 0, .int .i64 (t + 1)]) rfl _ _ 35 rfl Tryz.underlying35 hi0 hz0 hz1 hz2 rfl (by omega) hA sZ (by (try simp only [Act.eval, eV]) <;> exact rfl) (by (try simp only [Act.eval, eV]) <;> exact rfl) rfl (hA.cells_reads sZ _ _) (enL_one ⟨ff, num, ⟨cq, 0, 0, 0, 0, 0, 0, t + 1⟩⟩) (by unfold maxLen; omega) (by omega) ?_; intro v2 w1 hB; clear hF hA; have hA := hB; clear hB; have hF := hA.facts; (try simp only [uZ] at hA hF)) | ((with_reducible refine gst ?_); refine wT hA ?_; clear hF hA; intro w1 hA hF; (try simp only [uZ] at hA hF)) | ((with_reducible refine gbx ?_); refine wC hA ?_; clear hF hA; intro b1 w1 hA hb1 hF; (try simp only [uZ] at hA hF)))
     go_ret
     have hB := (rowN_snoc v2 l ⟨ff, num, ⟨cq, 0, 0, 0, 0, 0, 0, t + 1⟩⟩) ▸ hA
     rw [hcq'.out] at hB
     exact ⟨_, rfl, hB.pick pZ⟩
end Go.Proofs.YtgbpfgdjnhbcgaaGreatDoor.Ix
end
