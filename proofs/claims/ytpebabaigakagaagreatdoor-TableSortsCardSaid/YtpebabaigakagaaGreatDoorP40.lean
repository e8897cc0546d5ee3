/- TabSa, TabR, joined. -/
import Derived.Test.YtpebabaigakagaaGreatDoorP13
import Derived.Test.YtpebabaigakagaaGreatDoorP27
import Derived.Test.YtpebabaigakagaaGreatDoorP34
import Derived.Test.YtpebabaigakagaaGreatDoorP35
set_option linter.unusedSimpArgs false
set_option linter.unusedVariables false
set_option maxRecDepth 100000
set_option maxHeartbeats 16000000
section
namespace Go.Proofs.YtpebabaigakagaaGreatDoor.Tab
open Path (bl rightB overB aboveB)
open Lease (Ses Ans fresh)
open Lock (S3 Ent)
open Cmd (Cm rightC)
def swN {α : Type} (l : List α) (k : Nat) : List α := match l[k]?, l[k + 1]? with
 | some x, some y => (l.set k y).set (k + 1) x
 | _, _ => l
def swI (k i : Nat) : Nat := if i = k then k + 1 else if i = k + 1 then k else i
theorem swN_len {α : Type} (l : List α) (k : Nat) : (swN l k).length = l.length := by
 unfold swN
 split <;> simp
theorem swN_get {α : Type} {l : List α} {k : Nat} (h : k + 1 < l.length) (i : Nat) : (swN l k)[i]? = l[swI k i]? := by
 unfold swN swI
 rw [List.getElem?_eq_getElem (show k < l.length by omega), List.getElem?_eq_getElem h]
 simp only
 by_cases h1 : i = k
 · subst h1
   rw [if_pos rfl, List.getElem?_set_ne (by omega), List.getElem?_set_self (by omega), List.getElem?_eq_getElem h]
 · by_cases h2 : i = k + 1
   · subst h2
     rw [if_neg (by omega), if_pos rfl, List.getElem?_set_self (by rw [List.length_set]; exact h), List.getElem?_eq_getElem (show k < l.length by omega)]
   · rw [if_neg h1, if_neg h2, List.getElem?_set_ne (by omega), List.getElem?_set_ne (by omega)]
theorem swN_app {α : Type} (p : List α) (a b : α) (q : List α) : swN (p ++ a :: b :: q) p.length = p ++ b :: a :: q := by
 unfold swN
 rw [List.getElem?_append_right (Nat.le_refl _), List.getElem?_append_right (by omega), Nat.sub_self, show p.length + 1 - p.length = 1 from by omega]
 simp only [List.getElem?_cons_zero, List.getElem?_cons_succ]
 rw [List.set_append_right _ _ (Nat.le_refl _), Nat.sub_self, List.set_append_right _ _ (by omega), show p.length + 1 - p.length = 1 from by omega]
 rfl
theorem cut_two {α : Type} {l : List α} {k : Nat} {a b : α} (ha : l[k]? = some a) (hb : l[k + 1]? = some b) : ∃ p q, l = p ++ a :: b :: q ∧ p.length = k := by
 obtain ⟨h1, rfl⟩ := List.getElem?_eq_some_iff.1 ha
 obtain ⟨h2, rfl⟩ := List.getElem?_eq_some_iff.1 hb
 refine ⟨l.take k, l.drop (k + 2), ?_, by rw [List.length_take]; omega⟩
 rw [← List.drop_eq_getElem_cons h2, ← List.drop_eq_getElem_cons h1, List.take_append_drop]
theorem playT_app (t : TS) (l m : List Cm) : playT t (l ++ m) = playT (playT t l) m := by unfold playT; rw [List.foldl_append]
theorem toldT_app : ∀ (l m : List Cm) (t : TS), toldT t (l ++ m) = toldT t l ++ toldT (playT t l) m
 | [], _, _ => rfl
 | c :: l, m, t => by
  show (applyT t c).2 :: toldT _ (l ++ m) = (applyT t c).2 :: (toldT _ l ++ _)
  rw [toldT_app l m]
  rfl
theorem swap_told {T : TS} {k0 : Nat} {m : List Cm} {k : Nat} {a b : Cm} (hg : Good T k0) (hok : ∀ c ∈ m, CmOk c) (ha : m[k]? = some a) (hb : m[k + 1]? = some b) (hc : clashK a b = false) :
 toldT T (swN m k) = swN (toldT T m) k ∧ TEq (playT T (swN m k)) (playT T m) := by
 obtain ⟨p, q, rfl, rfl⟩ := cut_two ha hb
 have hp : ∀ c ∈ p, CmOk c := fun c h => hok c (by simp [h])
 have hq : ∀ c ∈ q, CmOk c := fun c h => hok c (by simp [h])
 have ok_a := hok a (by simp)
 have ok_b := hok b (by simp)
 have gp := hg.play hp
 obtain ⟨c1, c2, c3⟩ := comm_tab gp ok_a ok_b hc
 have t1 := TEq.play (l := q) hq c3 ((gp.apply ok_a).apply ok_b) ((gp.apply ok_b).apply ok_a)
 rw [swN_app, toldT_app, toldT_app, playT_app, playT_app]
 constructor
 · have e : swN (toldT T p ++ (applyT (playT T p) a).2 :: (applyT (applyT (playT T p) a).1 b).2 :: toldT (applyT (applyT (playT T p) a).1 b).1 q) p.length = toldT T p ++ (applyT (applyT (playT T p) a).1 b).2 :: (applyT (playT T p) a).2 :: toldT (applyT (applyT (playT T p) a).1 b).1 q := by
    have := swN_app (toldT T p) (applyT (playT T p) a).2 (applyT (applyT (playT T p) a).1 b).2 (toldT (applyT (applyT (playT T p) a).1 b).1 q)
    rw [told_len] at this
    exact this
   show toldT T p ++ (applyT (playT T p) b).2 :: (applyT (applyT (playT T p) b).1 a).2 :: toldT (applyT (applyT (playT T p) b).1 a).1 q = swN (toldT T p ++ (applyT (playT T p) a).2 :: (applyT (applyT (playT T p) a).1 b).2 :: toldT (applyT (applyT (playT T p) a).1 b).1 q) p.length
   rw [e, c1, c2, t1.1]
 · exact t1.2.symm
structure SwOk (T : TS) (l m : List Cm) (at_ : List Nat) : Prop where
 len : at_.length = m.length
 lenl : m.length = l.length
 lt : ∀ j ∈ at_, j < l.length
 told : ∀ (i j : Nat), at_[i]? = some j → (toldT T m)[i]? = (toldT T l)[j]?
 eq : TEq (playT T m) (playT T l)
 mem : ∀ c ∈ m, c ∈ l
theorem mem_swN {α : Type} {l : List α} {k : Nat} {x : α} (h : x ∈ swN l k) : x ∈ l := by
 obtain ⟨i, hi⟩ := List.mem_iff_getElem?.1 h
 by_cases q : k + 1 < l.length
 · rw [swN_get q] at hi
   exact List.mem_of_getElem? hi
 · unfold swN at hi
   rw [List.getElem?_eq_none (show l.length ≤ k + 1 by omega)] at hi
   cases hk : l[k]? <;> rw [hk] at hi <;> exact List.mem_of_getElem? hi
theorem SwOk.start (T : TS) (l : List Cm) : SwOk T l l (List.range l.length) where
 len := by simp
 lenl := rfl
 lt := fun j hj => by simpa using hj
 told := fun i j h => by
  have hi := (List.getElem?_eq_some_iff.1 h).1
  rw [List.length_range] at hi
  rw [List.getElem?_range hi] at h
  rw [Option.some.inj h]
 eq := TEq.refl _
 mem := fun c h => h
theorem SwOk.step {T : TS} {k0 : Nat} {l m : List Cm} {at_ : List Nat} (h : SwOk T l m at_) (hg : Good T k0) (hok : ∀ c ∈ l, CmOk c) {k : Nat} {a b : Cm} (ha : m[k]? = some a) (hb : m[k + 1]? = some b) (hc : clashK a b = false) : SwOk T l (swN m k) (swN at_ k) := by
 obtain ⟨t1, t2⟩ := swap_told hg (fun c hc => hok c (h.mem c hc)) ha hb hc
 have hk : k + 1 < m.length := (List.getElem?_eq_some_iff.1 hb).1
 refine ⟨by rw [swN_len, swN_len, h.len], by rw [swN_len, h.lenl], fun j hj => h.lt j (mem_swN hj), fun i j hj => ?_, t2.trans h.eq, fun c hc => h.mem c (mem_swN hc)⟩
 rw [swN_get (by rw [h.len]; exact hk)] at hj
 rw [t1, swN_get (by rw [told_len]; exact hk)]
 exact h.told _ j hj
end Go.Proofs.YtpebabaigakagaaGreatDoor.Tab
end
section
namespace Go.Proofs.YtpebabaigakagaaGreatDoor.Tab
open Go.RowKit
open Path (bl rightB overB aboveB)
open Lease (Ses Ans fresh Turned)
open Lock (S3 Ent)
open Cmd (Cm rightC)
attribute [-go_sem] run_eql_struct run_neq_struct run_eqGuard_agg
def iC (n : Nat) : List Value := [.int .i64 (n : Int)]
abbrev rowI (v : Value) (l : List Nat) : Part := Part.row 3 1 v l.length (l.flatMap iC)
theorem infoI : (Tryz.prog.info? 3).map (fun i => (i.zero, i.size, i.bytes)) = some (some (.int .i64 0), 1, 8) := by kernel_rfl
end Go.Proofs.YtpebabaigakagaaGreatDoor.Tab
end
