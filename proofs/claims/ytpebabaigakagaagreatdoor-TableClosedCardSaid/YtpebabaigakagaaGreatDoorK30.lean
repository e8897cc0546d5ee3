/- TabN, TabP, joined. -/
import Derived.Test.YtpebabaigakagaaGreatDoorK13
import Derived.Test.YtpebabaigakagaaGreatDoorK25
section
namespace Go.Proofs.YtpebabaigakagaaGreatDoor.Tab
open Path (bl rightB overB aboveB)
open Lease (Ses Ans fresh)
open Lock (S3 Ent)
open Cmd (Cm rightC)
set_option linter.unusedSimpArgs false
set_option linter.unusedVariables false

/-! ### Paths -/
theorem above_over {f p q : List UInt8} (h : aboveB f p = true) (ho : overB p q = true) : overB f q = true := by
  have hr := Path.over_right ho
  rw [Path.aboveB_parts] at h
  simp only [Bool.and_eq_true, decide_eq_true_eq] at h
  unfold overB at ho ⊢
  rw [Path.aboveB_parts, Path.aboveB_parts] at ho ⊢
  simp only [hr.1, hr.2, h.1.1, Bool.true_and, Bool.or_eq_true, decide_eq_true_eq] at ho ⊢
  rcases ho with ho | ho
  · exact .inl (h.2.trans ho)
  · rcases List.prefix_or_prefix_of_prefix h.2 ho with q1 | q1
    · exact .inl q1
    · exact .inr q1
theorem bl_inj {p q : ByteArray} (h : bl p = bl q) : p = q := by
  unfold Path.bl at h
  cases p; cases q
  congr 1
  exact Array.toList_inj.1 h

/-! ### Sessions -/
def updO (g : Option (Ses → Ses)) (n : Int) (f : ByteArray) (S : List Ses) : List Ses := match g with
  | some g => updA g n f S
  | none => S
/-- keys stand -/
def KeyG (g : Ses → Ses) : Prop := ∀ s, keyE (g s) = keyE s
theorem KeyG.is {g : Ses → Ses} (h : KeyG g) (s : Ses) (n : Int) (f : ByteArray) : (g s).is n f = s.is n f := by
  rw [Bool.eq_iff_iff, is_key, is_key, h]
theorem fresh_is (n : Int) (f : ByteArray) (m : Int) (k : ByteArray) (b t : Nat) : (fresh n f b t).is m k = decide (n = m ∧ f = k) := rfl
theorem upd_upd {g1 g2 : Ses → Ses} {n : Int} {f : ByteArray} (h1 : KeyG g1) : ∀ S, updA g2 n f (updA g1 n f S) = updA (fun s => g2 (g1 s)) n f S
  | [] => by simp [updA, h1.is, fresh_is]
  | s :: S => by
    unfold updA
    cases hq : s.is n f with
    | true => simp [updA, h1.is, hq]
    | false => simp [updA, hq, upd_upd h1 S]
theorem look_other {g : Ses → Ses} {n m : Int} {f k : ByteArray} (hg : KeyG g) (hne : ¬(n = m ∧ f = k)) : ∀ S, lookA (updA g m k S) n f = lookA S n f
  | [] => by
    have : ¬(m = n ∧ k = f) := fun q => hne ⟨q.1.symm, q.2.symm⟩
    simp [lookA, updA, Lease.find, hg.is, fresh_is, this]
  | s :: S => by
    unfold updA
    have ih := look_other hg hne S
    cases hq : s.is m k with
    | true =>
      have h2 : s.is n f = false := by
        cases q : s.is n f with
        | false => rfl
        | true =>
          have e := (is_key.1 q).symm.trans (is_key.1 hq)
          exact absurd ⟨congrArg Prod.fst e, congrArg Prod.snd e⟩ hne
      simp [lookA, Lease.find, hg.is, h2]
    | false =>
      simp only [Bool.false_eq_true, if_false]
      unfold lookA Lease.find at *
      rw [List.find?_cons, List.find?_cons]
      cases s.is n f
      · exact ih
      · rfl
theorem upd_comm {g h : Ses → Ses} {n m : Int} {f k : ByteArray} (hg : KeyG g) (hh : KeyG h) (hne : ¬(n = m ∧ f = k)) : ∀ S, (updA g n f (updA h m k S)).Perm (updA h m k (updA g n f S))
  | [] => by
    have q : ¬(m = n ∧ k = f) := fun q => hne ⟨q.1.symm, q.2.symm⟩
    simp only [updA, hg.is, hh.is, fresh_is, hne, q, decide_false, Bool.false_eq_true, if_false]
    exact .swap _ _ _
  | s :: S => by
    have ih := upd_comm hg hh hne S
    cases h1 : s.is n f with
    | true =>
      have h2 : s.is m k = false := by
        cases q : s.is m k with
        | false => rfl
        | true =>
          have e := (is_key.1 h1).symm.trans (is_key.1 q)
          exact absurd ⟨congrArg Prod.fst e, congrArg Prod.snd e⟩ hne
      simp [updA, h1, h2, hg.is]
    | false =>
      cases h2 : s.is m k with
      | true => simp [updA, h1, h2, hh.is]
      | false =>
        simp only [updA, h1, h2, Bool.false_eq_true, if_false]
        exact ih.cons _
theorem kn_cons {s : Ses} {S : List Ses} (h : Kn (s :: S)) : (∀ x ∈ S, keyE x ≠ keyE s) ∧ Kn S := by
  unfold Kn at *
  rw [List.map_cons, List.nodup_cons] at h
  exact ⟨fun x hx e => h.1 (List.mem_map.2 ⟨x, hx, e⟩), h.2⟩
theorem upd_form {g : Ses → Ses} {n : Int} {f : ByteArray} : ∀ {S}, Kn S → (updA g n f S).Perm (g (lookA S n f) :: S.filter (fun x => !x.is n f))
  | [], _ => by simp [updA, lookA, Lease.find]
  | s :: S, hk => by
    obtain ⟨h1, h2⟩ := kn_cons hk
    unfold updA
    cases hq : s.is n f with
    | true =>
      have hf : S.filter (fun x => !x.is n f) = S := List.filter_eq_self.2 fun x hx => by
        cases q : x.is n f with
        | false => rfl
        | true => exact absurd ((is_key.1 q).trans (is_key.1 hq).symm) (h1 x hx)
      simp [hq, hf, lookA, Lease.find]
    | false =>
      have ih := upd_form (g := g) (n := n) (f := f) h2
      have hl : lookA (s :: S) n f = lookA S n f := by simp [lookA, Lease.find, hq]
      rw [hl, List.filter_cons, hq]
      simp only [Bool.false_eq_true, if_false, Bool.not_false, if_true]
      exact (ih.cons s).trans (.swap _ _ _)
theorem look_perm {S S' : List Ses} (h : S.Perm S') (hk : Kn S) (n : Int) (f : ByteArray) : lookA S n f = lookA S' n f := by
  have hk' : Kn S' := by unfold Kn at *; exact (h.map keyE).nodup_iff.1 hk
  unfold lookA
  congr 1
  unfold Lease.find
  cases h1 : S.find? (·.is n f) with
  | none =>
    symm
    rw [List.find?_eq_none] at h1 ⊢
    exact fun x hx => h1 x (h.mem_iff.2 hx)
  | some s =>
    have a1 := List.find?_some h1
    have a2 := h.mem_iff.1 (List.mem_of_find?_eq_some h1)
    cases h2 : S'.find? (·.is n f) with
    | none => exact absurd a1 (List.find?_eq_none.1 h2 s a2)
    | some r =>
      have b1 := List.find?_some h2
      have b2 := List.mem_of_find?_eq_some h2
      have e : keyE s = keyE r := (is_key.1 a1).trans (is_key.1 b1).symm
      have key : ∀ {l : List Ses}, (l.map keyE).Nodup → ∀ {x y}, x ∈ l → y ∈ l → keyE x = keyE y → x = y := by
        intro l
        induction l with
        | nil => intro _ x y hx; cases hx
        | cons z l ih =>
          intro hn x y hx hy hxy
          rw [List.map_cons, List.nodup_cons] at hn
          rcases List.mem_cons.1 hx with e1 | hx2 <;> rcases List.mem_cons.1 hy with e2 | hy2
          · rw [e1, e2]
          · subst e1; exact absurd (List.mem_map.2 ⟨y, hy2, hxy.symm⟩) hn.1
          · subst e2; exact absurd (List.mem_map.2 ⟨x, hx2, hxy⟩) hn.1
          · exact ih hn.2 hx2 hy2 hxy
      rw [key hk' a2 b2 e]
theorem upd_perm {S S' : List Ses} (h : S.Perm S') (hk : Kn S) (g : Ses → Ses) (n : Int) (f : ByteArray) : (updA g n f S).Perm (updA g n f S') := by
  have hk' : Kn S' := by unfold Kn at *; exact (h.map keyE).nodup_iff.1 hk
  refine (upd_form hk).trans (.trans ?_ (upd_form hk').symm)
  rw [look_perm h hk]
  exact (h.filter _).cons _
theorem cnt_perm {S S' : List Ses} (h : S.Perm S') (f : ByteArray) : Lease.cnt S f = Lease.cnt S' f := by
  unfold Lease.cnt
  exact (h.filter _).length_eq
theorem cnt_cons (s : Ses) (S : List Ses) (f : ByteArray) : Lease.cnt (s :: S) f = (if s.foot.toList == f.toList && s.op then 1 else 0) + Lease.cnt S f := by
  unfold Lease.cnt
  rw [List.filter_cons]
  split <;> simp <;> omega
theorem cnt_other {g : Ses → Ses} {m : Int} {k f : ByteArray} (hg : KeyG g) (hne : k ≠ f ∨ ∀ s, (g s).op = s.op) : ∀ S, Lease.cnt (updA g m k S) f = Lease.cnt S f
  | [] => by
    have e : (g (fresh m k 0 0)).foot = k := congrArg Prod.snd (hg (fresh m k 0 0))
    unfold updA
    rw [cnt_cons, e]
    rcases hne with q | q
    · have : (k.toList == f.toList) = false := by rw [Lock.same_ba]; exact decide_eq_false q
      simp [this]
    · rw [q]; simp [fresh]
  | s :: S => by
    unfold updA
    split
    · rename_i hq
      have e : (g s).foot = s.foot := congrArg Prod.snd (hg s)
      rw [cnt_cons, cnt_cons, e]
      rcases hne with q | q
      · have e2 : s.foot = k := congrArg Prod.snd (is_key.1 hq)
        have : (s.foot.toList == f.toList) = false := by rw [Lock.same_ba, e2]; exact decide_eq_false q
        simp [this]
      · rw [q]
    · rw [cnt_cons, cnt_cons, cnt_other hg hne S]

/-! ### Locks -/
def ovP (p : ByteArray) (e : Ent) : Bool := overB (bl e.path) (bl p)
/-- what is read of locks, at a path, by a session -/
structure LocL (l l' : S3) (p : ByteArray) (n : Int) (f : ByteArray) : Prop where
  first : l.first = l'.first
  own : (l.es.filter (·.of n f)).Perm (l'.es.filter (·.of n f))
  ov : (l.es.filter (ovP p)).Perm (l'.es.filter (ovP p))
  ctr : Lock.counter l.first l.cs p = Lock.counter l'.first l'.cs p
theorem isSome_any (es : List Ent) (p : ByteArray) (n : Int) (f : ByteArray) : (Lock.find es p n f).isSome = (es.filter (·.of n f)).any (·.is p n f) := by
  unfold Lock.find
  rw [List.any_filter, Bool.eq_iff_iff, List.find?_isSome, List.any_eq_true]
  refine exists_congr fun x => and_congr_right fun _ => ?_
  simp only [Lock.Ent.is, Lock.Ent.of, Bool.and_eq_true, decide_eq_true_eq]
  exact ⟨fun h => ⟨h.2, h⟩, fun h => h.2⟩
theorem maxS_ov (es : List Ent) (p : ByteArray) : Lock.maxS es p = Lock.maxS (es.filter (ovP p)) p := by
  unfold Lock.maxS
  rw [List.foldl_filter]
  congr 1
  funext m e
  unfold ovP
  cases overB (bl e.path) (bl p) <;> rfl
theorem could_ov (es : List Ent) (p : ByteArray) (mode : Int) : Lock.couldD es p mode = Lock.couldD (es.filter (ovP p)) p mode := by
  unfold Lock.couldD
  rw [List.all_filter]
  congr 1
  congr 1
  funext x
  unfold Lock.wayB ovP
  cases overB (bl x.path) (bl p) <;> simp
/-- the check, by stamps -/
def checkC (l : List Ent) (p : ByteArray) (n : Int) : Bool := l.any (fun e => decide (e.path = p ∧ e.n = n) && Lock.clearB l e)
theorem check_clear {l : S3} {k : Nat} (h : Lock.Inv l k) (p : ByteArray) (n : Int) : Lock.checkD l.es p n = checkC l.es p n := by
  rw [Bool.eq_iff_iff]
  unfold checkC
  rw [List.any_eq_true]
  constructor
  · intro hc
    unfold Lock.checkD at hc
    cases hf : l.es.findIdx? (fun e => decide (e.path = p ∧ e.n = n)) with
    | none => rw [hf] at hc; cases hc
    | some j =>
      rw [hf] at hc
      obtain ⟨hj, h2, _⟩ := List.findIdx?_eq_some_iff_getElem.1 hf
      refine ⟨l.es[j], List.getElem_mem hj, ?_⟩
      rw [Bool.and_eq_true]
      exact ⟨h2, by rw [Lock.clear_grant h.order (List.getElem?_eq_getElem hj)]; exact hc⟩
  · rintro ⟨e, he, hq⟩
    rw [Bool.and_eq_true, decide_eq_true_eq] at hq
    obtain ⟨j, hj⟩ := List.mem_iff_getElem?.1 he
    rw [← hq.1.1, ← hq.1.2, Lock.check_some h.nums hj, ← Lock.clear_grant h.order hj]
    exact hq.2
theorem clear_ov (es : List Ent) (p : ByteArray) {e : Ent} (he : e.path = p) : Lock.clearB es e = Lock.clearB (es.filter (ovP p)) e := by
  unfold Lock.clearB
  rw [List.all_filter]
  congr 1
  funext x
  unfold Lock.wayB ovP
  rw [he]
  cases overB (bl x.path) (bl p) <;> simp
theorem check_ov (es : List Ent) {p : ByteArray} (hp : rightB (bl p) = true) (n : Int) : checkC es p n = checkC (es.filter (ovP p)) p n := by
  unfold checkC
  rw [List.any_filter]
  congr 1
  funext e
  by_cases he : e.path = p
  · have h1 : ovP p e = true := by unfold ovP; rw [he]; exact Path.over_self hp
    rw [h1, Bool.true_and, ← clear_ov es p he]
  · rw [decide_eq_false (fun q => he q.1)]; simp
theorem check_perm {l r : List Ent} (h : l.Perm r) (p : ByteArray) (n : Int) : checkC l p n = checkC r p n := by
  unfold checkC
  rw [h.any_eq]
  congr 1
  funext e
  rw [Lock.clearB_perm h]
section
variable {l l' : S3} {p : ByteArray} {n : Int} {f : ByteArray} (h : LocL l l' p n f)
include h
theorem LocL.find : (Lock.find l.es p n f).isSome = (Lock.find l'.es p n f).isSome := by rw [isSome_any, isSome_any, h.own.any_eq]
theorem LocL.maxS : Lock.maxS l.es p = Lock.maxS l'.es p := by rw [maxS_ov, maxS_ov l'.es, Lock.maxS_perm h.ov]
theorem LocL.could (mode : Int) : Lock.couldD l.es p mode = Lock.couldD l'.es p mode := by
  rw [could_ov, could_ov l'.es]
  unfold Lock.couldD
  rw [h.ov.all_eq]
theorem LocL.held : Lock.heldN l.es n f = Lock.heldN l'.es n f := h.own.length_eq
theorem LocL.may (mode : Int) : l.may p n f mode = l'.may p n f mode := by
  unfold S3.may
  rw [h.find, h.held, h.ctr]
theorem LocL.newE (mode : Int) : l.newE p n f mode = l'.newE p n f mode := by
  unfold S3.newE
  rw [h.ctr, h.maxS]
theorem LocL.check (hp : rightB (bl p) = true) {k k' : Nat} (hi : Lock.Inv l k) (hi' : Lock.Inv l' k') (m : Int) : Lock.checkD l.es p m = Lock.checkD l'.es p m := by
  rw [check_clear hi, check_clear hi', check_ov _ hp, check_ov l'.es hp, check_perm h.ov]
end
/-- a change of locks -/
inductive LE where
  | nop
  | add (e : Ent)
  | rem (p : ByteArray) (n : Int) (f : ByteArray)
  | drop (n : Int) (f : ByteArray)
def LE.run (l : S3) : LE → S3
  | .nop => l
  | .add e => ⟨l.first, l.es ++ [e], Lock.putC l.cs e.path e.n⟩
  | .rem p n f => l.remove p n f
  | .drop n f => l.dropAll n f
/-- two books say the same -/
structure LEq (l l' : S3) : Prop where
  first : l.first = l'.first
  es : l.es.Perm l'.es
  cs : l.cs.Perm l'.cs
def CK (cs : List (ByteArray × Int)) : Prop := cs.Pairwise (fun a b => a.1 ≠ b.1)
theorem ctr_perm {cs cs' : List (ByteArray × Int)} (h : cs.Perm cs') (hk : CK cs) (p : ByteArray) : Lock.ctr cs p = Lock.ctr cs' p := by
  have hk' : CK cs' := h.pairwise hk fun {_ _} q => q.symm
  unfold Lock.ctr
  congr 1
  have one : ∀ {l : List (ByteArray × Int)}, CK l → ∀ {x y}, x ∈ l → y ∈ l → x.1 = y.1 → x = y := by
    intro l
    induction l with
    | nil => intro _ x y hx; cases hx
    | cons z l ih =>
      intro hn x y hx hy hxy
      have h1 := List.pairwise_cons.1 hn
      rcases List.mem_cons.1 hx with e1 | hx2 <;> rcases List.mem_cons.1 hy with e2 | hy2
      · rw [e1, e2]
      · subst e1; exact absurd hxy (h1.1 y hy2)
      · subst e2; exact absurd hxy.symm (h1.1 x hx2)
      · exact ih h1.2 hx2 hy2 hxy
  cases h1 : cs.find? (·.1 = p) with
  | none =>
    symm
    rw [List.find?_eq_none] at h1 ⊢
    exact fun x hx => h1 x (h.mem_iff.2 hx)
  | some s =>
    have a1 := List.find?_some h1
    have a2 := h.mem_iff.1 (List.mem_of_find?_eq_some h1)
    cases h2 : cs'.find? (·.1 = p) with
    | none => exact absurd a1 (List.find?_eq_none.1 h2 s a2)
    | some r =>
      have b1 := List.find?_some h2
      have b2 := List.mem_of_find?_eq_some h2
      simp only [decide_eq_true_eq] at a1 b1
      rw [one hk' a2 b2 (a1.trans b1.symm)]
theorem put_form {p : ByteArray} {n : Int} : ∀ {cs}, CK cs → (Lock.putC cs p n).Perm ((p, n) :: cs.filter (fun c => !decide (c.1 = p)))
  | [], _ => by simp [Lock.putC]
  | c :: cs, hk => by
    have hk' := List.pairwise_cons.1 hk
    unfold Lock.putC
    by_cases hc : c.1 = p
    · have hf : cs.filter (fun c => !decide (c.1 = p)) = cs := List.filter_eq_self.2 fun x hx => by
        have := hk'.1 x hx
        simp only [Bool.not_eq_true', decide_eq_false_iff_not]
        exact fun e => this (hc.trans e.symm)
      rw [if_pos hc, List.filter_cons, decide_eq_true hc, hf]
      exact .refl _
    · rw [if_neg hc, List.filter_cons, decide_eq_false hc]
      exact ((put_form hk'.2).cons c).trans (.swap _ _ _)
theorem put_perm {cs cs' : List (ByteArray × Int)} (h : cs.Perm cs') (hk : CK cs) (p : ByteArray) (n : Int) : (Lock.putC cs p n).Perm (Lock.putC cs' p n) :=
  (put_form hk).trans (((h.filter _).cons _).trans (put_form (h.pairwise hk fun {_ _} q => q.symm)).symm)
theorem put_comm {p q : ByteArray} {m n : Int} (hne : p ≠ q) : ∀ cs, (Lock.putC (Lock.putC cs p m) q n).Perm (Lock.putC (Lock.putC cs q n) p m)
  | [] => by
    simp only [Lock.putC, if_neg hne, if_neg (fun e => hne (Eq.symm e))]
    exact .swap _ _ _
  | c :: cs => by
    have ih := put_comm (m := m) (n := n) hne cs
    by_cases h1 : c.1 = p
    · have h2 : ¬ c.1 = q := fun e => hne (h1.symm.trans e)
      simp [Lock.putC, h1, h2, hne]
    · by_cases h2 : c.1 = q
      · have hne' : ¬ q = p := fun e => hne e.symm
        simp [Lock.putC, h1, h2, hne']
      · simp only [Lock.putC, if_neg h1, if_neg h2]
        exact ih.cons _
theorem LEq.refl (l : S3) : LEq l l := ⟨rfl, .refl _, .refl _⟩
theorem LEq.symm {l l' : S3} (h : LEq l l') : LEq l' l := ⟨h.first.symm, h.es.symm, h.cs.symm⟩
theorem LEq.trans {l l' l'' : S3} (h : LEq l l') (k : LEq l' l'') : LEq l l'' := ⟨h.first.trans k.first, h.es.trans k.es, h.cs.trans k.cs⟩
theorem LEq.loc {l l' : S3} (h : LEq l l') (hk : CK l.cs) (p : ByteArray) (n : Int) (f : ByteArray) : LocL l l' p n f :=
  ⟨h.first, h.es.filter _, h.es.filter _, by unfold Lock.counter; rw [ctr_perm h.cs hk, h.first]⟩
theorem LEq.run {l l' : S3} (h : LEq l l') (hk : CK l.cs) (e : LE) : LEq (e.run l) (e.run l') := by
  cases e with
  | nop => exact h
  | add e => exact ⟨h.first, h.es.append_right _, put_perm h.cs hk _ _⟩
  | rem p n f => exact ⟨h.first, h.es.filter _, h.cs⟩
  | drop n f => exact ⟨h.first, h.es.filter _, h.cs⟩
end Go.Proofs.YtpebabaigakagaaGreatDoor.Tab
end

section
namespace Go.Proofs.YtpebabaigakagaaGreatDoor.Tab
open Path (bl rightB overB aboveB)
open Lease (Ses Ans fresh)
open Lock (S3 Ent)
open Cmd (Cm rightC)
set_option linter.unusedSimpArgs false
set_option linter.unusedVariables false

/-- is what a command touches a path? -/
def pathK (c : Cm) : Prop := 4 ≤ c.kind ∧ c.kind ≤ 7
theorem key_live {c : Cm} (h : rightC c = true) (h0 : c.kind ≠ 0) : rightB (bl c.foot) = true ∧ ((pathK c ∧ rightB (bl c.path) = true ∧ Cmd.keyC c = some (c.path, c.num)) ∨ (¬ pathK c ∧ Cmd.keyC c = some (c.foot, c.num))) := by
  have h' := h
  unfold rightC at h
  unfold Cmd.keyC Cmd.footC
  rw [h']
  unfold Cmd.hasOf at h ⊢
  unfold pathK
  by_cases q1 : c.kind = 1
  · simp [q1, Cmd.rightH] at h ⊢; exact h.1.1.1.2
  by_cases q2 : c.kind = 2
  · simp [q2, Cmd.rightH] at h ⊢; exact h.1.1.2
  by_cases q3 : c.kind = 3
  · simp [q3, Cmd.rightH] at h ⊢; exact h.1.1.2
  by_cases q4 : c.kind = 4
  · simp [q4, Cmd.rightH] at h ⊢; exact ⟨h.1.1.1.1.2, h.1.1.2⟩
  by_cases q5 : c.kind = 5
  · simp [q5, Cmd.rightH] at h ⊢; exact ⟨h.1.1.1.1.2, h.1.1.2⟩
  by_cases q6 : c.kind = 6
  · simp [q6, Cmd.rightH] at h ⊢; exact ⟨h.1.1.1.2, h.1.2⟩
  by_cases q7 : c.kind = 7
  · simp [q7, Cmd.rightH] at h ⊢; exact ⟨h.1.1.1.1.2, h.1.1.2⟩
  by_cases q8 : c.kind = 8
  · simp [q8, Cmd.rightH] at h ⊢; exact h.1.2
  · simp [h0, q1, q2, q3, q4, q5, q6, q7, q8] at h
/-- do two interfere? -/
def clashK (a b : Cm) : Bool := match Cmd.keyC a, Cmd.keyC b with
  | some x, some y => (x.2 == y.2) || overB (bl x.1) (bl y.1)
  | _, _ => false
theorem clash_comm (a b : Cm) : clashK a b = clashK b a := by
  unfold clashK
  cases Cmd.keyC a <;> cases Cmd.keyC b <;> try rfl
  rename_i x y
  simp only
  rw [Path.over_comm]
  congr 1
  rw [Bool.eq_iff_iff, beq_iff_eq, beq_iff_eq]
  exact eq_comm
/-- a command that does something -/
structure Live (c : Cm) : Prop where
  right : rightC c = true
  kind : c.kind ≠ 0
theorem dead_apply {c : Cm} (h : ¬ Live c) (t : TS) : applyT t c = (t, ans0) := by
  unfold applyT
  rw [if_pos]
  by_cases h0 : c.kind = 0
  · exact .inr h0
  · cases hr : rightC c with
    | false => exact .inl rfl
    | true => exact absurd ⟨hr, h0⟩ h
/-- what a command touches -/
def keyF (c : Cm) : ByteArray := if 4 ≤ c.kind ∧ c.kind ≤ 7 then c.path else c.foot
theorem Live.key {c : Cm} (h : Live c) : Cmd.keyC c = some (keyF c, c.num) ∧ rightB (bl (keyF c)) = true := by
  obtain ⟨h1, h2⟩ := key_live h.right h.kind
  unfold keyF
  rcases h2 with ⟨q, q1, q2⟩ | ⟨q, q1⟩
  · rw [if_pos (show 4 ≤ c.kind ∧ c.kind ≤ 7 from q)]; exact ⟨q2, q1⟩
  · rw [if_neg (show ¬(4 ≤ c.kind ∧ c.kind ≤ 7) from q)]; exact ⟨q1, h1⟩
theorem Live.apart {a b : Cm} (ha : Live a) (hb : Live b) (hc : clashK a b = false) : a.num ≠ b.num ∧ overB (bl (keyF a)) (bl (keyF b)) = false := by
  unfold clashK at hc
  rw [ha.key.1, hb.key.1] at hc
  simp only [Bool.or_eq_false_iff, beq_eq_false_iff_ne] at hc
  exact hc
theorem keyF_path {c : Cm} (h : pathK c) : keyF c = c.path := if_pos h
theorem keyF_foot {c : Cm} (h : ¬ pathK c) : keyF c = c.foot := if_neg h

/-! ### What a command reads -/
structure Loc (c : Cm) (t t' : TS) : Prop where
  look : lookA t.S c.num c.foot = lookA t'.S c.num c.foot
  cnt : c.kind = 1 → Lease.cnt t.S c.foot = Lease.cnt t'.S c.foot
  lock : pathK c → LocL t.L t'.L c.path c.num c.foot
theorem LocL.refl (l : S3) (p : ByteArray) (n : Int) (f : ByteArray) : LocL l l p n f := ⟨rfl, .refl _, .refl _, rfl⟩
theorem Loc.refl (c : Cm) (t : TS) : Loc c t t := ⟨rfl, fun _ => rfl, fun _ => LocL.refl _ _ _ _⟩
def LE.of (c : Cm) : LE → Prop
  | .nop => True
  | .add e => pathK c ∧ e.path = c.path ∧ e.num = c.num ∧ e.foot = c.foot ∧ aboveB (bl c.foot) (bl c.path) = true
  | .rem p n f => pathK c ∧ p = c.path ∧ n = c.num ∧ f = c.foot
  | .drop n f => ¬ pathK c ∧ n = c.num ∧ f = c.foot
def GOk (c : Cm) (g : Option (Ses → Ses)) : Prop := ∀ g', g = some g' → KeyG g' ∧ (pathK c → ∀ s, (g' s).op = s.op)
def runE (t : TS) (c : Cm) (g : Option (Ses → Ses)) (e : LE) : TS := ⟨updO g c.num c.foot t.S, e.run t.L⟩
theorem look_updO {g : Option (Ses → Ses)} {n : Int} {f : ByteArray} (hg : ∀ g', g = some g' → KeyG g') (S : List Ses) : lookA (updO g n f S) n f = (g.getD id) (lookA S n f) := by
  cases g with
  | none => rfl
  | some g => exact look_upd (hg g rfl) S
theorem tell_eff {c : Cm} {a : Ans} {g : Option (Ses → Ses)} (hg : GOk c g) (s : Ses) : ∃ g2, GOk c g2 ∧ ∀ (S : List Ses) (L : S3), lookA S c.num c.foot = s → tellT ⟨updO g c.num c.foot S, L⟩ c a = ⟨updO g2 c.num c.foot S, L⟩ := by
  by_cases hq : Lease.tellE ((g.getD id) s) c.req = 0
  · refine ⟨some (fun s => ((g.getD id) s).tell c.req a), ?_, fun S L hs => ?_⟩
    · intro g' e
      cases e
      cases g with
      | none => exact ⟨fun s => rfl, fun _ s => rfl⟩
      | some g => exact ⟨fun s => (hg g rfl).1 s, fun h s => (hg g rfl).2 h s⟩
    · unfold tellT opT
      simp only
      rw [look_updO (fun g' e => (hg g' e).1), hs, if_pos hq]
      cases g with
      | none => rfl
      | some g =>
        show TS.mk (updA _ _ _ (updA g _ _ S)) L = _
        rw [upd_upd (hg g rfl).1]
        rfl
  · refine ⟨g, hg, fun S L hs => ?_⟩
    unfold tellT opT
    simp only
    rw [look_updO (fun g' e => (hg g' e).1), hs, if_neg hq]
theorem opT_eff (t : TS) (c : Cm) (g : Ses → Ses) (e : Int) : opT t c g e = runE t c (if e = 0 then some g else none) .nop := by
  unfold opT
  split <;> rfl
theorem endT_eff (t : TS) (c : Cm) (e : Int) : endT t c e = runE t c (if e = 0 then some Ses.ended else none) (if e = 0 then .drop c.num c.foot else .nop) := by
  unfold endT
  split <;> rfl
theorem gok_none (c : Cm) : GOk c none := nofun
theorem gok_if {c : Cm} {g : Ses → Ses} (e : Int) (h1 : KeyG g) (h2 : pathK c → ∀ s, (g s).op = s.op) : GOk c (if e = 0 then some g else none) := by
  intro g' q
  split at q
  · cases q; exact ⟨h1, h2⟩
  · cases q
theorem do_eff {t : TS} {k : Nat} {c : Cm} (hi : Lock.Inv t.L k) (hc : Live c) (h8 : c.kind ≠ 8) : ∃ (g : Option (Ses → Ses)) (e : LE) (a : Ans), GOk c g ∧ e.of c ∧ ∀ (t' : TS) (k' : Nat), Lock.Inv t'.L k' → Loc c t t' → doT t' c = (runE t' c g e, a) := by
  unfold doT
  by_cases q1 : c.kind = 1
  · refine ⟨if Lease.openE (lookA t.S c.num c.foot) (Lease.cnt t.S c.foot) = 0 then some (fun s => s.opened c.n c.time) else none, .nop, ansE (Lease.openE (lookA t.S c.num c.foot) (Lease.cnt t.S c.foot)), gok_if (Lease.openE (lookA t.S c.num c.foot) (Lease.cnt t.S c.foot)) (g := fun s => s.opened c.n c.time) (fun s => rfl) (fun h => by unfold pathK at h; omega), trivial, fun t' k' _ hl => ?_⟩
    rw [if_pos q1, ← hl.look, ← hl.cnt q1, opT_eff]
  by_cases q2 : c.kind = 2
  · refine ⟨if (if (lookA t.S c.num c.foot).op then (0 : Int) else 50) = 0 then some Ses.ended else none, (if (if (lookA t.S c.num c.foot).op then (0 : Int) else 50) = 0 then .drop c.num c.foot else .nop), ansE (if (lookA t.S c.num c.foot).op then 0 else 50), gok_if (if (lookA t.S c.num c.foot).op then 0 else 50) (g := Ses.ended) (fun s => rfl) (fun h => by unfold pathK at h; omega), ?_, fun t' k' _ hl => ?_⟩
    · split
      · exact ⟨by unfold pathK; omega, rfl, rfl⟩
      · trivial
    · rw [if_neg q1, if_pos q2, ← hl.look, endT_eff]
  by_cases q3 : c.kind = 3
  · refine ⟨if (if (lookA t.S c.num c.foot).op then (0 : Int) else 50) = 0 then some (fun s => s.kept c.time) else none, .nop, ansE (if (lookA t.S c.num c.foot).op then 0 else 50), gok_if (if (lookA t.S c.num c.foot).op then 0 else 50) (g := fun s => s.kept c.time) (fun s => rfl) (fun h => by unfold pathK at h; omega), trivial, fun t' k' _ hl => ?_⟩
    rw [if_neg q1, if_neg q2, if_pos q3, ← hl.look, opT_eff]
  have hk : pathK c := by
    obtain ⟨_, h2⟩ := key_live hc.right hc.kind
    rcases h2 with ⟨q, _⟩ | ⟨q, _⟩
    · exact q
    · exfalso
      have := hc.right
      unfold rightC Cmd.hasOf at this
      unfold pathK at q
      have h0 := hc.kind
      rw [if_neg h0, if_neg q1, if_neg q2, if_neg q3, if_neg (by omega), if_neg (by omega), if_neg (by omega), if_neg (by omega), if_neg h8] at this
      cases this
  have hp : rightB (bl c.path) = true := by
    have := hc.key.2
    rwa [keyF_path hk] at this
  have hmay : ∀ {t' : TS}, Loc c t t' → mayT t' c = mayT t c := fun hl => by unfold mayT; rw [hl.look]
  by_cases hm : mayT t c = 0
  case neg =>
    refine ⟨none, .nop, ansE (mayT t c), gok_none c, trivial, fun t' k' _ hl => ?_⟩
    rw [if_neg q1, if_neg q2, if_neg q3]
    unfold locksT
    rw [hmay hl, if_pos hm]
    rfl
  have hab : aboveB (bl c.foot) (bl c.path) = true := by
    unfold mayT at hm
    split at hm
    · omega
    split at hm
    · omega
    rename_i h
    simpa using h
  have hadd : ∃ (e : LE) (a : Ans), e.of c ∧ ∀ (t' : TS), Loc c t t' → addT t' c = (runE t' c none e, a) := by
    by_cases hy : t.L.may c.path c.num c.foot c.mode = 0
    · refine ⟨.add (t.L.newE c.path c.num c.foot c.mode), ⟨0, (t.L.newE c.path c.num c.foot c.mode).n, Lock.couldD t.L.es c.path c.mode⟩, ⟨hk, rfl, rfl, rfl, hab⟩, fun t' hl => ?_⟩
      have h1 := hl.lock hk
      unfold addT S3.add
      rw [← h1.may, if_pos hy, if_pos hy, ← h1.newE, ← h1.could]
      unfold S3.added runE LE.run
      rw [← h1.newE, ← h1.ctr]
      rfl
    · refine ⟨.nop, ansE (t.L.may c.path c.num c.foot c.mode), trivial, fun t' hl => ?_⟩
      have h1 := hl.lock hk
      unfold addT S3.add
      rw [← h1.may, if_neg hy, if_neg hy]
      rfl
  obtain ⟨ea, aa, hea, hadd⟩ := hadd
  by_cases q4 : c.kind = 4
  · refine ⟨none, ea, aa, gok_none c, hea, fun t' k' _ hl => ?_⟩
    rw [if_neg q1, if_neg q2, if_neg q3]
    unfold locksT
    rw [hmay hl, hm, if_neg (by simp), if_pos q4, hadd t' hl]
  by_cases q5 : c.kind = 5
  · by_cases hcd : Lock.couldD t.L.es c.path c.mode = true
    · refine ⟨none, ea, aa, gok_none c, hea, fun t' k' _ hl => ?_⟩
      rw [if_neg q1, if_neg q2, if_neg q3]
      unfold locksT tryT
      rw [hmay hl, hm, if_neg (by simp), if_neg q4, if_pos q5, ← (hl.lock hk).could, if_pos hcd, hadd t' hl]
    · refine ⟨none, .nop, if t.L.may c.path c.num c.foot c.mode = 0 then ansE 51 else ansE (t.L.may c.path c.num c.foot c.mode), gok_none c, trivial, fun t' k' _ hl => ?_⟩
      rw [if_neg q1, if_neg q2, if_neg q3]
      unfold locksT tryT
      rw [hmay hl, hm, if_neg (by simp), if_neg q4, if_pos q5, ← (hl.lock hk).could, if_neg hcd, ← (hl.lock hk).may]
      show _ = (t', if t.L.may c.path c.num c.foot c.mode = 0 then ansE 51 else ansE (t.L.may c.path c.num c.foot c.mode))
      split <;> rfl
  by_cases q6 : c.kind = 6
  · refine ⟨none, .rem c.path c.num c.foot, ansE (if (Lock.find t.L.es c.path c.num c.foot).isSome then 0 else 52), gok_none c, ⟨hk, rfl, rfl, rfl⟩, fun t' k' _ hl => ?_⟩
    rw [if_neg q1, if_neg q2, if_neg q3]
    unfold locksT
    rw [hmay hl, hm, if_neg (by simp), if_neg q4, if_neg q5, if_pos q6, ← (hl.lock hk).find]
    rfl
  · refine ⟨none, .nop, ansE (if Lock.checkD t.L.es c.path c.n then 0 else 52), gok_none c, trivial, fun t' k' hi' hl => ?_⟩
    rw [if_neg q1, if_neg q2, if_neg q3]
    unfold locksT
    rw [hmay hl, hm, if_neg (by simp), if_neg q4, if_neg q5, if_neg q6, ← (hl.lock hk).check hp hi hi']
    rfl
/-- what a command does hangs on what it reads alone -/
theorem eff {t : TS} {k : Nat} {c : Cm} (hi : Lock.Inv t.L k) (hc : Live c) : ∃ (g : Option (Ses → Ses)) (e : LE) (a : Ans), GOk c g ∧ e.of c ∧ ∀ (t' : TS) (k' : Nat), Lock.Inv t'.L k' → Loc c t t' → applyT t' c = (runE t' c g e, a) := by
  have h1 : ¬ (rightC c = false ∨ c.kind = 0) := by
    rw [hc.right]
    exact fun h => h.elim (fun q => by cases q) hc.kind
  unfold applyT
  by_cases q8 : c.kind = 8
  · refine ⟨if Lease.expB (lookA t.S c.num c.foot) c.time = 0 then some Ses.ended else none, (if Lease.expB (lookA t.S c.num c.foot) c.time = 0 then .drop c.num c.foot else .nop), ansE (Lease.expB (lookA t.S c.num c.foot) c.time), gok_if (Lease.expB (lookA t.S c.num c.foot) c.time) (g := Ses.ended) (fun s => rfl) (fun h => by unfold pathK at h; omega), ?_, fun t' k' _ hl => ?_⟩
    · split
      · exact ⟨by unfold pathK; omega, rfl, rfl⟩
      · trivial
    · rw [if_neg h1, if_pos q8, ← hl.look, endT_eff]
  cases hs : Lease.said (lookA t.S c.num c.foot).told c.req with
  | some a =>
    refine ⟨none, .nop, a, gok_none c, trivial, fun t' k' _ hl => ?_⟩
    rw [if_neg h1, if_neg q8, ← hl.look, hs]
    rfl
  | none =>
    by_cases hf : 256 ≤ (lookA t.S c.num c.foot).told.length
    · refine ⟨none, .nop, ansE 14, gok_none c, trivial, fun t' k' _ hl => ?_⟩
      rw [if_neg h1, if_neg q8, ← hl.look, hs]
      simp only
      rw [if_pos hf]
      rfl
    · obtain ⟨g, e, a, hg, he, hd⟩ := do_eff hi hc q8
      obtain ⟨g2, hg2, ht⟩ := tell_eff (a := a) hg (lookA t.S c.num c.foot)
      refine ⟨g2, e, a, hg2, he, fun t' k' hi' hl => ?_⟩
      rw [if_neg h1, if_neg q8, ← hl.look, hs]
      simp only
      rw [if_neg hf, hd t' k' hi' hl]
      show (tellT ⟨updO g c.num c.foot t'.S, e.run t'.L⟩ c a, a) = _
      rw [ht t'.S _ hl.look.symm]
      rfl

/-! ### Two that don't interfere -/
/-- every entry lies below its session's footprint -/
def Ab (t : TS) : Prop := ∀ e ∈ t.L.es, aboveB (bl e.foot) (bl e.path) = true
theorem filter_same {es : List Ent} {p q : Ent → Bool} (h : ∀ x ∈ es, p x = true → q x = true) : (es.filter q).filter p = es.filter p := by
  rw [List.filter_filter]
  exact List.filter_congr fun x hx => by
    cases hp : p x with
    | false => rfl
    | true => rw [h x hx hp]; rfl
theorem loc_other {t : TS} {a b : Cm} (ha : Live a) (hb : Live b) (hc : clashK a b = false) (hab : Ab t) {g : Option (Ses → Ses)} {e : LE} (hg : GOk a g) (he : e.of a) : Loc b t (runE t a g e) := by
  obtain ⟨hn, ho⟩ := ha.apart hb hc
  refine ⟨?_, fun h1 => ?_, fun hk => ?_⟩
  · cases g with
    | none => rfl
    | some g => exact (look_other (hg g rfl).1 (fun q => hn q.1.symm) t.S).symm
  · have hb' : ¬ pathK b := by unfold pathK; omega
    cases g with
    | none => rfl
    | some g =>
      refine (cnt_other (hg g rfl).1 ?_ t.S).symm
      by_cases hk : pathK a
      · exact .inr ((hg g rfl).2 hk)
      · refine .inl fun e => ?_
        rw [keyF_foot hk, keyF_foot hb', e] at ho
        have := hb.key.2
        rw [keyF_foot hb'] at this
        rw [Path.over_self this] at ho
        cases ho
  · rw [keyF_path hk] at ho
    have hrp := hb.key.2
    rw [keyF_path hk] at hrp
    cases e with
    | nop => exact LocL.refl _ _ _ _
    | add e =>
      obtain ⟨k1, k2, k3, k4, k5⟩ := he
      rw [keyF_path k1] at ho
      have hne : ¬ e.path = b.path := fun q => by
        rw [← k2, q, Path.over_self hrp] at ho
        cases ho
      have h1 : e.of b.num b.foot = false := by unfold Lock.Ent.of; rw [k3]; exact decide_eq_false fun q => hn q.1
      have h2 : ovP b.path e = false := by unfold ovP; rw [k2]; exact ho
      refine ⟨rfl, ?_, ?_, ?_⟩
      · simp [runE, LE.run, List.filter_append, List.filter_cons, h1]
      · simp [runE, LE.run, List.filter_append, List.filter_cons, h2]
      · simp only [runE, LE.run]
        unfold Lock.counter
        rw [Lock.ctr_put, if_neg hne]
    | rem p n f =>
      obtain ⟨k1, k2, k3, k4⟩ := he
      rw [keyF_path k1] at ho
      refine ⟨rfl, ?_, ?_, rfl⟩
      · rw [show (runE t a g (.rem p n f)).L.es = t.L.es.filter (fun x => !x.is p n f) from rfl, filter_same]
        intro x _ hx
        simp only [Lock.Ent.of, decide_eq_true_eq] at hx
        simp only [Lock.Ent.is, Bool.not_eq_true', decide_eq_false_iff_not]
        exact fun q => hn (by rw [← k3, ← q.2.1, hx.1])
      · rw [show (runE t a g (.rem p n f)).L.es = t.L.es.filter (fun x => !x.is p n f) from rfl, filter_same]
        intro x _ hx
        unfold ovP at hx
        simp only [Lock.Ent.is, Bool.not_eq_true', decide_eq_false_iff_not]
        intro q
        rw [q.1, k2, ho] at hx
        cases hx
    | drop n f =>
      obtain ⟨k1, k2, k3⟩ := he
      rw [keyF_foot k1] at ho
      refine ⟨rfl, ?_, ?_, rfl⟩
      · rw [show (runE t a g (.drop n f)).L.es = t.L.es.filter (fun x => !x.of n f) from rfl, filter_same]
        intro x _ hx
        simp only [Lock.Ent.of, decide_eq_true_eq] at hx
        simp only [Lock.Ent.of, Bool.not_eq_true', decide_eq_false_iff_not]
        exact fun q => hn (by rw [← k2, ← q.1, hx.1])
      · rw [show (runE t a g (.drop n f)).L.es = t.L.es.filter (fun x => !x.of n f) from rfl, filter_same]
        intro x hm hx
        unfold ovP at hx
        simp only [Lock.Ent.of, Bool.not_eq_true', decide_eq_false_iff_not]
        intro q
        have h1 := above_over (hab x hm) hx
        rw [q.2, k3, ho] at h1
        cases h1
theorem filter_comm' {es : List Ent} (p q : Ent → Bool) : (es.filter p).filter q = (es.filter q).filter p := by
  rw [List.filter_filter, List.filter_filter]
  exact List.filter_congr fun x _ => Bool.and_comm _ _
theorem le_comm {l : S3} {a b : Cm} (ha : Live a) (hb : Live b) (hc : clashK a b = false) {e e2 : LE} (he : e.of a) (hf : e2.of b) : LEq (e2.run (e.run l)) (e.run (e2.run l)) := by
  obtain ⟨hn, ho⟩ := ha.apart hb hc
  cases e with
  | nop => exact LEq.refl _
  | add x =>
    obtain ⟨k1, k2, k3, k4, k5⟩ := he
    cases e2 with
    | nop => exact LEq.refl _
    | add y =>
      obtain ⟨j1, j2, j3, j4, j5⟩ := hf
      have hne : x.path ≠ y.path := fun q => by
        rw [keyF_path k1, keyF_path j1, ← k2, ← j2, q] at ho
        have := hb.key.2
        rw [keyF_path j1, ← j2] at this
        rw [Path.over_self this] at ho
        cases ho
      refine ⟨rfl, ?_, put_comm hne _⟩
      simp only [LE.run, List.append_assoc]
      exact List.Perm.append_left _ (.swap _ _ _)
    | rem p n f =>
      obtain ⟨j1, j2, j3, j4⟩ := hf
      have h1 : x.is p n f = false := by unfold Lock.Ent.is; exact decide_eq_false fun q => hn (by rw [← k3, q.2.1, j3])
      refine ⟨rfl, ?_, .refl _⟩
      simp [LE.run, S3.remove, List.filter_append, List.filter_cons, h1]
    | drop n f =>
      obtain ⟨j1, j2, j3⟩ := hf
      have h1 : x.of n f = false := by unfold Lock.Ent.of; exact decide_eq_false fun q => hn (by rw [← k3, q.1, j2])
      refine ⟨rfl, ?_, .refl _⟩
      simp [LE.run, S3.dropAll, List.filter_append, List.filter_cons, h1]
  | rem p n f =>
    obtain ⟨k1, k2, k3, k4⟩ := he
    cases e2 with
    | nop => exact LEq.refl _
    | add y =>
      obtain ⟨j1, j2, j3, j4, j5⟩ := hf
      have h1 : y.is p n f = false := by unfold Lock.Ent.is; exact decide_eq_false fun q => hn (by rw [← k3, ← q.2.1, j3])
      refine ⟨rfl, ?_, .refl _⟩
      simp [LE.run, S3.remove, List.filter_append, List.filter_cons, h1]
    | rem p' n' f' => exact ⟨rfl, by simp only [LE.run, S3.remove]; rw [filter_comm'], .refl _⟩
    | drop n' f' => exact ⟨rfl, by simp only [LE.run, S3.remove, S3.dropAll]; rw [filter_comm'], .refl _⟩
  | drop n f =>
    obtain ⟨k1, k2, k3⟩ := he
    cases e2 with
    | nop => exact LEq.refl _
    | add y =>
      obtain ⟨j1, j2, j3, j4, j5⟩ := hf
      have h1 : y.of n f = false := by unfold Lock.Ent.of; exact decide_eq_false fun q => hn (by rw [← k2, ← q.1, j3])
      refine ⟨rfl, ?_, .refl _⟩
      simp [LE.run, S3.dropAll, List.filter_append, List.filter_cons, h1]
    | rem p' n' f' => exact ⟨rfl, by simp only [LE.run, S3.remove, S3.dropAll]; rw [filter_comm'], .refl _⟩
    | drop n' f' => exact ⟨rfl, by simp only [LE.run, S3.dropAll]; rw [filter_comm'], .refl _⟩

/-- two tables say the same -/
structure TEq (t t' : TS) : Prop where
  S : t.S.Perm t'.S
  L : LEq t.L t'.L
theorem TEq.refl (t : TS) : TEq t t := ⟨.refl _, LEq.refl _⟩
theorem TEq.symm {t t' : TS} (h : TEq t t') : TEq t' t := ⟨h.S.symm, h.L.symm⟩
theorem TEq.trans {t t' t'' : TS} (h : TEq t t') (k : TEq t' t'') : TEq t t'' := ⟨h.S.trans k.S, h.L.trans k.L⟩
/-- what is known of a table behind k commands -/
structure Good (t : TS) (k : Nat) : Prop where
  inv : TInv t k
  ab : Ab t
theorem Good.apply {t : TS} {k : Nat} {c : Cm} (h : Good t k) (hc : CmOk c) : Good (applyT t c).1 (k + 1) := by
  refine ⟨apply_inv h.inv hc, ?_⟩
  by_cases hl : Live c
  · obtain ⟨g, e, a, _, he, hr⟩ := eff h.inv.lock hl
    rw [hr t k h.inv.lock (Loc.refl c t)]
    intro x hx
    cases e with
    | nop => exact h.ab x hx
    | add e =>
      obtain ⟨k1, k2, k3, k4, k5⟩ := he
      rcases List.mem_append.1 hx with hx | hx
      · exact h.ab x hx
      · rw [List.mem_singleton.1 hx, k2, k4]; exact k5
    | rem p n f => exact h.ab x (List.mem_filter.1 hx).1
    | drop n f => exact h.ab x (List.mem_filter.1 hx).1
  · rw [dead_apply hl]; exact h.ab
theorem TEq.apply {t t' : TS} {k k' : Nat} {c : Cm} (h : TEq t t') (hg : Good t k) (hg' : Good t' k') : (applyT t c).2 = (applyT t' c).2 ∧ TEq (applyT t c).1 (applyT t' c).1 := by
  by_cases hl : Live c
  · obtain ⟨g, e, a, h1, he, hr⟩ := eff hg.inv.lock hl
    have hloc : Loc c t t' := ⟨look_perm h.S hg.inv.s.keys _ _, fun _ => cnt_perm h.S _, fun _ => h.L.loc hg.inv.lock.ckeys _ _ _⟩
    rw [hr t k hg.inv.lock (Loc.refl c t), hr t' k' hg'.inv.lock hloc]
    refine ⟨rfl, ?_, h.L.run hg.inv.lock.ckeys e⟩
    cases g with
    | none => exact h.S
    | some g => exact upd_perm h.S hg.inv.s.keys g _ _
  · rw [dead_apply hl, dead_apply hl]; exact ⟨rfl, h⟩
theorem comm_tab {t : TS} {k : Nat} {a b : Cm} (h : Good t k) (ha : CmOk a) (hb : CmOk b) (hc : clashK a b = false) :
    (applyT (applyT t a).1 b).2 = (applyT t b).2 ∧ (applyT (applyT t b).1 a).2 = (applyT t a).2 ∧ TEq (applyT (applyT t a).1 b).1 (applyT (applyT t b).1 a).1 := by
  by_cases la : Live a
  case neg => rw [dead_apply la, dead_apply la]; exact ⟨rfl, rfl, TEq.refl _⟩
  by_cases lb : Live b
  case neg => rw [dead_apply lb, dead_apply lb]; exact ⟨rfl, rfl, TEq.refl _⟩
  obtain ⟨g, e, x, hg, he, hr⟩ := eff h.inv.lock la
  obtain ⟨g', e', y, hg', he', hr'⟩ := eff h.inv.lock lb
  have q1 := hr t k h.inv.lock (Loc.refl a t)
  have q2 := hr' t k h.inv.lock (Loc.refl b t)
  have i1 := (h.apply ha).inv.lock
  have i2 := (h.apply hb).inv.lock
  rw [q1] at i1
  rw [q2] at i2
  rw [q1, q2]
  simp only
  rw [hr' _ _ i1 (loc_other la lb hc h.ab hg he), hr _ _ i2 (loc_other lb la (by rw [clash_comm]; exact hc) h.ab hg' he')]
  refine ⟨rfl, rfl, ?_, le_comm la lb hc he he'⟩
  have hn := (la.apart lb hc).1
  cases g with
  | none => exact .refl _
  | some g =>
    cases g' with
    | none => exact .refl _
    | some g' => exact upd_comm (hg' g' rfl).1 (hg g rfl).1 (fun q => hn q.1.symm) t.S

/-! ### Plays -/
theorem Good.play {l : List Cm} (hl : ∀ c ∈ l, CmOk c) : ∀ {t : TS} {k : Nat}, Good t k → Good (playT t l) (k + l.length) := by
  induction l with
  | nil => exact fun h => h
  | cons c l ih =>
    intro t k h
    have h1 := ih (fun x hx => hl x (by simp [hx])) (h.apply (hl c (by simp)))
    have e : k + 1 + l.length = k + (c :: l).length := by simp only [List.length_cons]; omega
    rw [← e]
    exact h1
theorem good_new {first : Int} (h0 : 0 ≤ first) (h1 : first < Lease.big64) : Good ⟨[], ⟨first, [], []⟩⟩ 0 := ⟨new_inv h0 h1, nofun⟩
theorem TEq.play {l : List Cm} (hl : ∀ c ∈ l, CmOk c) : ∀ {t t' : TS} {k k' : Nat}, TEq t t' → Good t k → Good t' k' → toldT t l = toldT t' l ∧ TEq (playT t l) (playT t' l) := by
  induction l with
  | nil => exact fun h _ _ => ⟨rfl, h⟩
  | cons c l ih =>
    intro t t' k k' h hg hg'
    obtain ⟨h1, h2⟩ := h.apply (c := c) hg hg'
    obtain ⟨h3, h4⟩ := ih (fun x hx => hl x (by simp [hx])) h2 (hg.apply (hl c (by simp))) (hg'.apply (hl c (by simp)))
    exact ⟨by unfold toldT; rw [h1, h3], h4⟩
/-- a command goes ahead of some that it doesn't interfere with -/
theorem past {c : Cm} (hc : CmOk c) : ∀ {us : List Cm} (hu : ∀ u ∈ us, CmOk u ∧ clashK u c = false) {t : TS} {k : Nat}, Good t k →
    (applyT (playT t us) c).2 = (applyT t c).2 ∧ TEq (applyT (playT t us) c).1 (playT (applyT t c).1 us)
  | [], _, t, k, h => ⟨rfl, TEq.refl _⟩
  | u :: us, hu, t, k, h => by
    obtain ⟨o1, o2⟩ := hu u (by simp)
    obtain ⟨h1, h2⟩ := past hc (us := us) (fun x hx => hu x (by simp [hx])) (h.apply o1)
    obtain ⟨c1, _, c3⟩ := comm_tab h o1 hc o2
    refine ⟨h1.trans c1, h2.trans ?_⟩
    exact (TEq.play (l := us) (fun x hx => (hu x (by simp [hx])).1) c3 ((h.apply o1).apply hc) ((h.apply hc).apply o1)).2
/-- some commands, closed under interference: they have alone the answers that they have among all -/
theorem closed_run : ∀ {l : List (Cm × Bool)} (hl : ∀ x ∈ l, CmOk x.1) {us : List Cm} (hu : ∀ u ∈ us, CmOk u ∧ ∀ x ∈ l, x.2 = true → clashK u x.1 = false)
    (hp : l.Pairwise (fun y x => x.2 = true → y.2 = false → clashK y.1 x.1 = false)) {t u : TS} {k j : Nat}, Good t k → Good u j → TEq t (playT u us) →
    ((l.zip (toldT t (l.map (·.1)))).filter (·.1.2)).map (·.2) = toldT u ((l.filter (·.2)).map (·.1))
  | [], _, _, _, _, _, _, _, _, _, _, _ => rfl
  | (c, b) :: l, hl, us, hu, hp, t, u, k, j, ht, hu0, he => by
    have hc := hl (c, b) (by simp)
    have hp' := List.pairwise_cons.1 hp
    have hus := fun x hx => (hu x hx).1
    have ha := he.apply (c := c) ht (hu0.play hus)
    cases b with
    | true =>
      obtain ⟨p1, p2⟩ := past hc (us := us) (fun x hx => ⟨(hu x hx).1, (hu x hx).2 (c, true) (by simp) rfl⟩) hu0
      have ih := closed_run (l := l) (fun x hx => hl x (by simp [hx])) (us := us) (fun x hx => ⟨(hu x hx).1, fun y hy => (hu x hx).2 y (by simp [hy])⟩) hp'.2 (ht.apply hc) (hu0.apply hc) (ha.2.trans p2)
      simp only [List.map_cons, toldT, List.zip_cons_cons, List.filter_cons, if_true]
      rw [ih, ha.1, p1]
    | false =>
      have ih := closed_run (l := l) (fun x hx => hl x (by simp [hx])) (us := us ++ [c]) (fun x hx => by
        rcases List.mem_append.1 hx with hx | hx
        · exact ⟨(hu x hx).1, fun y hy => (hu x hx).2 y (by simp [hy])⟩
        · rw [List.mem_singleton.1 hx]
          exact ⟨hc, fun y hy hy2 => hp'.1 y hy hy2 rfl⟩) hp'.2 (ht.apply hc) hu0 (by rw [playT_snoc]; exact ha.2)
      simp only [List.map_cons, toldT, List.zip_cons_cons, List.filter_cons, Bool.false_eq_true, if_false]
      exact ih
end Go.Proofs.YtpebabaigakagaaGreatDoor.Tab
end
