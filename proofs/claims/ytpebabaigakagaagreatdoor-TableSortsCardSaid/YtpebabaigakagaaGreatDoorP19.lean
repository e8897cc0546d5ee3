/- CollS, CollM, MarkC, SessC, MarkS, SessS, LeaseS, joined. -/
import Derived.RangeFuncNested
import Derived.RangeFuncBound
import Derived.RangeFuncCalls
import Derived.RangeFuncLeaves
import Derived.Shelf.Abstract
import Derived.WalkKit
import Derived.OwnWalkIn
import Derived.TacticsInMore
import Derived.LoopNIn
import Derived.LoopIn
import Derived.Maps.AppendAt
import Derived.Test.YtpebabaigakagaaGreatDoorP2
import Derived.Test.YtpebabaigakagaaGreatDoorChecked
import Derived.Test.YtpebabaigakagaaGreatDoorShelft
import Derived.Test.YtpebabaigakagaaGreatDoorSort
import Derived.Deep.QuietTactic
import Derived.BigQuiet
import Derived.Deep.Cut
import Derived.WalkLawsBesides
import Derived.Test.YtpebabaigakagaaGreatDoorP4
import Derived.Sort.OwnSorted
import Derived.Test.YtpebabaigakagaaGreatDoorP3
set_option linter.unusedSimpArgs false
set_option linter.unusedVariables false
set_option maxRecDepth 100000
set_option maxHeartbeats 16000000
section
namespace Go.Proofs.YtpebabaigakagaaGreatDoor.Sess
open Go.RowKit Go.Shelf
open Go.Maps (Keyed)
attribute [local go_sem] Oper.semAt_some
def seV (p : Int × ByteArray) : Value := .agg #[.int .u64 p.1, .string p.2]
def seL (p : Int × ByteArray) : List Value := [.int .u64 p.1, .string p.2]
def unS : Value → Int × ByteArray
 | .agg #[.int _ a, .string b] => (a, b)
 | _ => (0, .empty)
theorem unS_seV (p : Int × ByteArray) : unS (seV p) = p := rfl
theorem perm_of_seV {l m : List (Int × ByteArray)} (h : (l.map seV).Perm (m.map seV)) : l.Perm m := by
 have := h.map unS
 simpa [List.map_map, Function.comp_def, unS_seV] using this
def seenOf (w : World) (r : Nat) : Nat := match w.heap[r]? with | some (.mapIter _ _ seen _) => seen.size | _ => 0
theorem seenOf_eq {P : Program} {k : TypeId} {w : World} {r b : Nat} {es done : List (Value × Value)} (h : IterAt P k w r b es done) : seenOf w r = done.length := by
 obtain ⟨_, _, ents, clock, c0, vs, hb, hr, hc, hd, _⟩ := h
 unfold seenOf
 rw [hr, ← hd]
 simp
theorem iter_walk {P : Program} {k : TypeId} {w : World} {r b : Nat} {es done : List (Value × Value)} (h : IterAt P k w r b es done) : ∃ o : Obj, w.heap[r]? = some o ∧ o.isWalk = true := by
 obtain ⟨_, _, ents, clock, c0, vs, hb, hr, _⟩ := h
 exact ⟨_, hr, rfl⟩
theorem iter_keeps {P : Program} {k : TypeId} {w w' : World} {r b : Nat} {es done : List (Value × Value)} (h : IterAt P k w r b es done) (hk : KeepsWalks w w') : IterAt P k w' r b es done := by
 have h0 := h
 obtain ⟨_, _, ents, clock, c0, vs, hb, hr, _⟩ := h0
 exact h.same ((hk.same b _ hb rfl).trans hb.symm) ((hk.same r _ hr rfl).trans hr.symm)
theorem grown_of_exc {w w' : World} {r : Nat} (h : Exc (fun q => q = r) w w') : w.grownBy w' (some r) := ⟨h.os, h.tape, h.output, h.size, fun k hk hn => h.block k hk (fun e => hn (by rw [e]))⟩
theorem grown_of_ext {w w' : World} (h : Ext w w') : w.grownBy w' none := ⟨Below.os h, Below.tape h, Below.output h, Below.size h, fun k hk _ => Below.block h k hk⟩
theorem keys1_in (F : Fence) (n : Nat) (h1 : F.fn 142) (hro : F.round = none) (hn : 1 ≤ n) (l Bm b : Nat) (es : List (Value × Value)) (ks : List (Int × ByteArray)) (hes : es.map (·.1) = ks.map seV) (J Jx : List (Int × ByteArray) → World → Prop)
 (W : World) (hJ : AbidesFrom W.heap.size J)
 (hY : ∀ pre x W1, J pre W1 → pre.length < ks.length → YieldAt F (n - 1) Tryz.prog l #[seV x] W1 fun e W' => (e = .returned (.bool true) ∧ J (pre ++ [x]) W' ∧ KeepsWalks W1 W') ∨ (e = .returned (.bool false) ∧ Jx (pre ++ [x]) W'))
 (hm : W.cell? ⟨Bm, 0, none⟩ = some (.map (some b))) (hM : MapAt Tryz.prog 25 W b es) (h0 : J [] W) :
 CallsIn F n Tryz.prog 142 #[.func (.yield l) #[] #[], .pointer (some ⟨Bm, 0, none⟩)] W fun e W' => (∃ v, e = .returned v) ∧ ((∃ ys, ys.Perm ks ∧ J ys W') ∨ (∃ pre, True ∧ Jx pre W')) := by
 obtain ⟨W0, hrun, hext, hI⟩ := IterAt.start hM Tryz.underlying78
 have hJ0 : J [] W0 := hJ _ W W0 none h0 (grown_of_ext hext) (fun r e => by cases e)
 refine callsIn_of_wp Tryz.func142 rfl h1 ?_ hro
 simp only [Tryz.ntmps142, List.size_toArray, List.length_cons, List.length_nil, Nat.reduceAdd, Nat.reduceSub, Array.replicate_succ, Array.replicate_zero, List.push_toArray, List.append_toArray, List.nil_append, List.cons_append]
 gi_wp2
 clear hrun
 try go_frame
 gi_loopw [3] (fun _ wr => ∃ (done : List (Value × Value)) (ds : List (Int × ByteArray)), IterAt Tryz.prog 25 wr W.heap.size b es done ∧ done.map (·.1) = ds.map seV ∧ J ds wr)
  (fun _ wr => es.length - seenOf wr W.heap.size)
 case atStart => exact ⟨[], [], hI, rfl, hJ0⟩
 case round =>
  obtain ⟨done, ds, hI1, hd, hJs⟩ := hrel
  rcases hI1.next 0 with ⟨hp, hrun⟩ | ⟨p, w', hp, hne, hrun, hI2, hx⟩
  · have hpp : ds.Perm ks := (perm_of_seV (by rw [← hes, ← hd]; exact hp.map _)).symm
    clear hes hd
    gi_wp2
    go_end0
    exact ⟨⟨_, rfl⟩, .inl ⟨ds, hpp, hJs⟩⟩
  · obtain ⟨pk, pv⟩ := p
    have hpk : pk ∈ es.map (·.1) := List.mem_map.2 ⟨_, hp, rfl⟩
    rw [hes] at hpk
    obtain ⟨x, _, rfl⟩ := List.mem_map.1 hpk
    have hlen : ds.length < ks.length := by
     have e1 := congrArg List.length hes
     have e2 := congrArg List.length hd
     have e3 := hI2.len
     simp at e1 e2 e3
     omega
    have hJ1 : J ds w' := hJ ds wr w' (some W.heap.size) hJs (grown_of_exc hx) (fun r e => by cases e; exact ⟨Nat.le_refl _, iter_walk hI1⟩)
    have hJ2 : J ds (w'.alloc (.cells #[.int .u64 x.1, .string x.2] 25)) := hJ _ _ _ none hJ1 (World.grownBy_alloc _ _ none) (fun r e => by cases e)
    have hI3 : IterAt Tryz.prog 25 (w'.alloc (.cells #[.int .u64 x.1, .string x.2] 25)) W.heap.size b es (done ++ [(seV x, pv)]) := (Part.iter _ _ _ _ _ _).stay _ _ hI2 (fun q hq => Below.heap_alloc _ _ _ ((Part.iter _ _ _ _ _ _).lt _ hI2 q hq))
    obtain ⟨fn, tmps, assign, body, hy, hR⟩ := hY ds x _ hJ2 hlen
    have hen := hI2.entry
    have hs0 := seenOf_eq hI1
    have hes' := Lib.hid hes
    have hd' := Lib.hid hd
    have hs' := Lib.hid hs0
    have hle := hI2.len
    clear hes hd hs0 hpk hp hne hx
    unfold seV at hrun hen hy
    gi_wp2
    refine hR.mono ?_
    rintro e W3 (⟨rfl, hJ3, hk3⟩ | ⟨rfl, hJx3⟩)
    · gi_wp2
      go_roundw
      case rel => exact ⟨done ++ [(seV x, pv)], ds ++ [x], iter_keeps hI3 hk3, by simp [hd'.out], hJ3⟩
      case measure =>
       have e1 := seenOf_eq (iter_keeps hI3 hk3)
       have e2 := hs'.out
       rw [e1, e2]
       simp at hle ⊢
       omega
    · gi_wp2
      refine bodyPost_ret (results_none rfl _ _ _) rfl ?_
      exact ⟨⟨_, rfl⟩, .inr ⟨_, trivial, hJx3⟩⟩
theorem keys_in (F : Fence) (n : Nat) (h1 : F.fn 112) (hro : F.round = none) (mb : Option Nat) (w : World) :
 CallsIn F n Tryz.prog 112 #[.map mb] w fun e w' => e = .returned (.func (.func 142) #[] #[.pointer (some ⟨w.heap.size, 0, none⟩)]) ∧ w' = w.alloc (.cells #[.map mb] 78) := by
 refine callsIn_of_wp Tryz.func112 rfl h1 ?_ hro
 simp only [Tryz.ntmps112, List.size_toArray, List.length_cons, List.length_nil, Nat.reduceAdd, Nat.reduceSub, Array.replicate_succ, Array.replicate_zero, List.push_toArray, List.append_toArray, List.nil_append, List.cons_append]
 gi_wp2
 go_ret
 exact ⟨rfl, rfl⟩
theorem keys_stops (F : Fence) (n : Nat) (h1 : F.fn 142) (hro : F.round = none) (hn : 1 ≤ n) (Bm b : Nat) (es : List (Value × Value)) (ks : List (Int × ByteArray)) (hes : es.map (·.1) = ks.map seV) (w : World) (hBm : Bm < w.heap.size)
 (hm : w.cell? ⟨Bm, 0, none⟩ = some (.map (some b))) (hM : MapAt Tryz.prog 25 w b es) :
 SeqStopsK F n Tryz.prog 142 #[.pointer (some ⟨Bm, 0, none⟩)] (fun x : Int × ByteArray => #[seV x]) KeepsWalks (fun ys => ys.Perm ks) (fun _ => True) ks.length w := fun l J Jx W hW hJ _ hY h0 =>
 keys1_in F n h1 hro hn l Bm b es ks hes J Jx W hJ hY ((hW.cell (p := ⟨Bm, 0, none⟩) hBm).trans hm) (hM.same (hW.block b hM.lt)) h0
theorem infoID : (Tryz.prog.info? 25).map (fun i => (i.zero, i.size, i.bytes)) = some (some (.agg #[.int .u64 0, .string .empty]), 2, 24) := by kernel_rfl
def Box (W : World) (B : Nat) (t : TypeId) (c : Array Value) : Prop := W.heap[B]? = some (.cells c t (0, 0))
theorem Box.own {β : Type} (B : Nat) (t : TypeId) (c : Array Value) : Own (fun (_ : β) W => Box W B t c) := fun s X Y row hs hg hrow =>
 (hg.block B (lt_of_some hs) (fun e => by obtain ⟨o, ho, hc⟩ := hrow B e.symm; rw [show X.heap[B]? = _ from hs] at ho; cases ho; cases hc)).trans hs
theorem two_new (W : World) (x y : Value) (t : TypeId) : ∀ (j : Nat) (u : Value), [x, y][j]? = some u → (W.alloc (.cells #[x, y] t)).cell? ((⟨W.heap.size, 0, none⟩ : Addr).add j) = some u := by
 intro j u h
 match j, h with
 | 0, h => simp at h; subst h; simp [Addr.add]
 | 1, h => simp at h; subst h; simp [Addr.add]
 | j + 2, h => simp at h
def MidI (w : World) (pre : List (Int × ByteArray)) (W : World) : Prop :=
 (∃ v, Boxed W w.heap.size 137 v ∧ W.ownsRow w.heap.size 25 2 v pre.length (pre.flatMap seL) ∧ (v = .slice none 0 0 ↔ pre = [])) ∧ Below w.heap.size w W
theorem midI_own (w : World) (B : Nat) (hB : w.heap.size ≤ B) : OwnFrom B (MidI w) :=
 OwnFrom.and (Own.from (holdsRow_own w.heap.size w.heap.size 137 25 2 (fun pre => pre.length) (fun pre => pre.flatMap seL) (fun pre v => v = .slice none 0 0 ↔ pre = [])) _) (ownFrom_below (Nat.le_refl _) hB)
def MidAx (w : World) (sv : Value) (x : Int × ByteArray) (a' : Act) (W : World) : Prop :=
 ∃ Bx, w.heap.size < Bx ∧ Box W Bx 25 #[.int .u64 x.1, .string x.2] ∧ a' = { tmps := #[.slice none 0 0, sv, .pointer (some ⟨w.heap.size, 0, none⟩), undef, .slice none 0 0, .pointer (some ⟨Bx, 0, none⟩), sv, seV x, undef, undef, undef, undef, undef], defers := [] }
theorem midAx_own (w : World) (sv : Value) (B : Nat) (x : Int × ByteArray) (a' : Act) : OwnFrom B (fun (_ : Unit) W => MidAx w sv x a' W) := by
 rintro s X Y row ⟨Bx, h1, h2, h3⟩ hg hr
 exact ⟨Bx, h1, (Box.own (β := Unit) Bx _ _).from B () X Y row h2 hg hr, h3⟩
theorem appendSeq_in (F : Fence) (n : Nat) (hF : F.fn 141) (hro : F.round = none) (hn : 3 ≤ n) (gf : Nat) (lb : Array Value) (hFg : F.fn gf) (eg : ∀ args w, (callFunc gf args).run Tryz.prog w = .ok (.enter gf args) w)
 (S Sp : List (Int × ByteArray) → Prop) (N : Nat) (hN : N ≤ 100000000) (w : World) (hseq : SeqStopsK F (n - 1) Tryz.prog gf lb (fun x : Int × ByteArray => #[seV x]) KeepsWalks S Sp N w) :
 CallsIn F n Tryz.prog 141 #[.slice none 0 0, .func (.func gf) #[] lb] w fun e w' => ∃ (v : Value) (ss : List (Int × ByteArray)), e = .returned v ∧ S ss ∧ w'.ownsRow w.heap.size 25 2 v ss.length (ss.flatMap seL) ∧ (v = .slice none 0 0 ↔ ss = []) ∧ Below w.heap.size w w' := by
 have h1 : 1 ≤ n := by omega
 obtain ⟨i0, hi, hz0, hz1, hz2⟩ := info_parts infoID
 refine callsIn_of_wp_marks Tryz.func141 rfl hF ?_ hro
 simp only [Tryz.ntmps141, List.size_toArray, List.length_cons, List.length_nil, Nat.reduceAdd, Nat.reduceSub, Array.replicate_succ, Array.replicate_zero, List.push_toArray, List.append_toArray, List.nil_append, List.cons_append]
 gi_wp2
 have bO := Boxed.new w 137 (.slice none 0 0)
 have hB0 : Below w.heap.size w (w.alloc (.cells #[.slice none 0 0] 137)) := (Below.refl _ w).alloc (Nat.le_refl _) _
 refine wpIn_rangeFunc_ownH hro h1 (gf := gf) (lb := lb) rfl hFg eg hseq walksK_t walksK_b hB0 (fun _ => rfl)
  (MidI w) (fun _ _ _ => False) (midI_own w _ (by simp)) (fun _ _ _ _ _ hs _ _ => hs)
  ⟨⟨_, bO, World.ownsRow_nil _ _ _ _, by simp⟩, hB0⟩
  (MidAx w (.func (.func gf) #[] lb)) (fun x a' => midAx_own w _ _ x a') ?assign ?body ?done ?stop
 case assign =>
  rintro l pre x W K ⟨⟨v, hv, hrow, hnil⟩, hB⟩ hK
  have hsz := hB.size
  unfold seV
  gi_wp2
  refine hK _ _ ((KeepsOthers.alloc _ _).from _) (KeepsWalks.alloc _ _) ⟨⟨v, hv.alloc _, hrow.alloc _, hnil⟩, hB.alloc hB.size _⟩ ⟨W.heap.size, hv.lt, World.alloc_heap_new W _, rfl⟩
 case body =>
  rintro l pre x a' W hl ⟨r, hr⟩ ⟨⟨v, hv, hrow, hnil⟩, hB⟩ ⟨Bx, hBx, bX, rfl⟩ hlt
  have hc := hv.cell
  have c0 : W.cell? ⟨Bx, 0, none⟩ = some (.int .u64 x.1) := by unfold Box at bX; simp [World.cell?, bX]
  have c1 : W.cell? ⟨Bx, 1, none⟩ = some (.string x.2) := by unfold Box at bX; simp [World.cell?, bX]
  have hsz := hB.size
  gi_wp2_with (gi_at_builtin; refine wpListIn_append_own _ rfl _ _ 137 rfl w.heap.size 25 i0 (.agg #[.int .u64 0, .string .empty]) 2 24 Tryz.underlying137 hi hz0 hz1 hz2 rfl (by decide) _ _ _ rfl (hrow.alloc _) ⟨W.heap.size, 0, none⟩ 1 1 [.int .u64 x.1, .string x.2] rfl rfl (two_new _ _ _ _) (by simp [Value.oneCell']) (by unfold maxLen; omega) (by omega) (by simp; omega) ?_; intro v' w1 hown' hgrow _; obtain ⟨g', cap', rfl⟩ := ownsRow_succ hown'; obtain ⟨hv1, hv2, hr2, hk2, hb2⟩ := hv.appended (by decide) hrow hB.size (Nat.le_refl _) hown' hgrow; have hc1 := hv1.cell; have hf1 := hv1.frozen)
  exact ⟨hk2.from _, hk2.walks, ⟨_, hv2, by simpa [seL] using hr2, by simp⟩, hB.trans hb2⟩
 case done =>
  rintro D ys W hD hS ⟨⟨v, hv, hrow, hnil⟩, hB⟩ hK
  have hc := hv.cell
  gi_wp2
  refine ⟨by simp, .inl ⟨_, _, rfl, run_takeDeferred hK, ?_⟩⟩
  exact ⟨_, results_tmp rfl _ _ _, v, ys, rfl, hS, ownsRow_putObj hrow _ hK rfl, hnil, hB.trans (belowK_b (w := w) (Nat.le_refl _) W D _ _ (by simp at hD; omega) hK rfl rfl)⟩
 case stop =>
  rintro D c pre W _ _ h _
  exact h.elim
end Go.Proofs.YtpebabaigakagaaGreatDoor.Sess
end
section
namespace Go.Proofs.YtpebabaigakagaaGreatDoor.Mark
open Go.RowKit Go.Shelf
open Go.Maps (Keyed)
attribute [local go_sem] Oper.semAt_some
def seenOf (w : World) (r : Nat) : Nat := match w.heap[r]? with | some (.mapIter _ _ seen _) => seen.size | _ => 0
theorem seenOf_eq {P : Program} {k : TypeId} {w : World} {r b : Nat} {es done : List (Value × Value)} (h : IterAt P k w r b es done) : seenOf w r = done.length := by
 obtain ⟨_, _, ents, clock, c0, vs, hb, hr, hc, hd, _⟩ := h
 unfold seenOf
 rw [hr, ← hd]
 simp
theorem iter_walk {P : Program} {k : TypeId} {w : World} {r b : Nat} {es done : List (Value × Value)} (h : IterAt P k w r b es done) : ∃ o : Obj, w.heap[r]? = some o ∧ o.isWalk = true := by
 obtain ⟨_, _, ents, clock, c0, vs, hb, hr, _⟩ := h
 exact ⟨_, hr, rfl⟩
theorem iter_keeps {P : Program} {k : TypeId} {w w' : World} {r b : Nat} {es done : List (Value × Value)} (h : IterAt P k w r b es done) (hk : KeepsWalks w w') : IterAt P k w' r b es done := by
 have h0 := h
 obtain ⟨_, _, ents, clock, c0, vs, hb, hr, _⟩ := h0
 exact h.same ((hk.same b _ hb rfl).trans hb.symm) ((hk.same r _ hr rfl).trans hr.symm)
theorem grown_of_exc {w w' : World} {r : Nat} (h : Exc (fun q => q = r) w w') : w.grownBy w' (some r) := ⟨h.os, h.tape, h.output, h.size, fun k hk hn => h.block k hk (fun e => hn (by rw [e]))⟩
theorem grown_of_ext {w w' : World} (h : Ext w w') : w.grownBy w' none := ⟨Below.os h, Below.tape h, Below.output h, Below.size h, fun k hk _ => Below.block h k hk⟩
def Box (W : World) (B : Nat) (t : TypeId) (c : Array Value) : Prop := W.heap[B]? = some (.cells c t (0, 0))
theorem Box.own {β : Type} (B : Nat) (t : TypeId) (c : Array Value) : Own (fun (_ : β) W => Box W B t c) := fun s X Y row hs hg hrow =>
 (hg.block B (lt_of_some hs) (fun e => by obtain ⟨o, ho, hc⟩ := hrow B e.symm; rw [show X.heap[B]? = _ from hs] at ho; cases ho; cases hc)).trans hs
theorem two_new (W : World) (x y : Value) (t : TypeId) : ∀ (j : Nat) (u : Value), [x, y][j]? = some u → (W.alloc (.cells #[x, y] t)).cell? ((⟨W.heap.size, 0, none⟩ : Addr).add j) = some u := by
 intro j u h
 match j, h with
 | 0, h => simp at h; subst h; simp [Addr.add]
 | 1, h => simp at h; subst h; simp [Addr.add]
 | j + 2, h => simp at h
end Go.Proofs.YtpebabaigakagaaGreatDoor.Mark
end
section
namespace Go.Proofs.YtpebabaigakagaaGreatDoor.Mark
open Go.RowKit
open Go.Sort Go.Shelf
def orI (a b : Int) : Int := if a = 0 then b else a
theorem or2 (a b : Int) (g : Nat) (w : World) (h0 : w.cell? ⟨g, 0, none⟩ = some (.int .i64 a)) (h1 : w.cell? ⟨g, 1, none⟩ = some (.int .i64 b)) :
 Calls Tryz.prog 34 #[.slice (some ⟨g, 0, none⟩) 2 2] w fun e w' => e = .returned (.int .i64 (orI a b)) ∧ w = w' := by
 by_cases ha : a = 0
 · subst ha
   by_cases hb : b = 0
   · subst hb
     go_enter Tryz.func34, Tryz.ntmps34
     go_wp2
     refine wp_loop_rounds 3 ?_
     rw [rounds_succ]
     go_wp2
     rw [rounds_succ]
     go_wp2
     rw [rounds_succ]
     go_wp2
     go_ret
     exact ⟨rfl, rfl⟩
   · have hb' : (b == 0) = false := by simpa using hb
     go_enter Tryz.func34, Tryz.ntmps34
     go_wp2
     refine wp_loop_rounds 2 ?_
     rw [rounds_succ]
     go_wp2
     rw [rounds_succ]
     go_wp2
     refine bodyPost_ret (results_tmp rfl _ _ _) rfl ?_
     exact ⟨rfl, rfl⟩
 · have ha' : (a == 0) = false := by simpa using ha
   have e : orI a b = a := by simp [orI, ha]
   rw [e]
   go_enter Tryz.func34, Tryz.ntmps34
   go_wp2
   refine wp_loop_rounds 1 ?_
   rw [rounds_succ]
   go_wp2
   refine bodyPost_ret (results_tmp rfl _ _ _) rfl ?_
   exact ⟨rfl, rfl⟩
def cmpID (x y : Int × Int) : Int := orI (Lib.compareInt x.1 y.1) (Lib.compareInt x.2 y.2)
theorem three_grow (W : World) (A B C : Obj) (n : Nat) : (((W.alloc A).alloc B).drewN n).alloc C = grow (W.drewN n) #[A, B, C] := by
 rw [alloc_eq_grow W, alloc_eq_grow _ B, alloc_eq_grow _ C, grow_grow]
 show grow (grow (W.drewN n) _) _ = _
 rw [grow_grow]
 rfl
theorem new_cell (X : World) (n : Nat) (h : X.heap.size = n) (cs : Array Value) (t : TypeId) (j : Nat) (v : Value) (hv : cs[j]? = some v) : (X.alloc (.cells cs t)).cell? ⟨n, j, none⟩ = some v := by
 subst h
 rw [World.cell?, World.alloc_heap_new]
 exact hv
def ltID (x y : Int × Int) : Prop := x.1 < y.1 ∨ (x.1 = y.1 ∧ x.2 < y.2)
instance (x y : Int × Int) : Decidable (ltID x y) := by unfold ltID; infer_instance
theorem cmpID_lt (x y : Int × Int) : ltOf cmpID x y = decide (ltID x y) := by
 unfold ltOf cmpID orI Lib.compareInt ltID
 by_cases h1 : x.1 < y.1
 · simp [h1]
 · by_cases h2 : y.1 < x.1
   · have : x.1 ≠ y.1 := by omega
     simp [h1, h2, this]
   · have : x.1 = y.1 := by omega
     by_cases h3 : x.2 < y.2
     · simp [this, h3]
     · by_cases h4 : y.2 < x.2 <;> simp [this, h3, h4]
theorem totID (x y : Int × Int) (h1 : ltOf cmpID x y = false) (h2 : ltOf cmpID y x = false) : x = y := by
 rw [cmpID_lt] at *
 simp only [decide_eq_true_eq, decide_eq_false_iff_not] at *
 obtain ⟨a, b⟩ := x
 obtain ⟨c, d⟩ := y
 unfold ltID at *
 simp only [Prod.mk.injEq]
 simp only at h1 h2
 omega
def sortID (l : List (Int × Int)) : List (Int × Int) := l.mergeSort fun x y => !ltOf cmpID y x
end Go.Proofs.YtpebabaigakagaaGreatDoor.Mark
end
section
namespace Go.Proofs.YtpebabaigakagaaGreatDoor.Sess
open Go.RowKit
open Go.Sort Go.Shelf
open Go.Lib (compareBytes compareInt)
open _root_.Go.Proofs.YtpebabaigakagaaGreatDoor.Mark (orI or2 three_grow new_cell)
theorem cb_three : ∀ (a b : List UInt8), compareBytes a b = -1 ∨ compareBytes a b = 0 ∨ compareBytes a b = 1
 | [], [] => by simp [compareBytes]
 | [], _ :: _ => by simp [compareBytes]
 | _ :: _, [] => by simp [compareBytes]
 | a :: x, b :: y => by
  have := cb_three x y
  unfold compareBytes
  split
  · simp
  · split
    · simp
    · exact this
theorem cb_flip : ∀ (a b : List UInt8), compareBytes b a = - compareBytes a b
 | [], [] => by simp [compareBytes]
 | [], _ :: _ => by simp [compareBytes]
 | _ :: _, [] => by simp [compareBytes]
 | a :: x, b :: y => by
  have := cb_flip x y
  simp only [compareBytes]
  rcases Nat.lt_trichotomy a.toNat b.toNat with h | h | h
  · have h1 : a < b := UInt8.lt_iff_toNat_lt.2 h
    have h2 : ¬ b < a := fun q => by have := UInt8.lt_iff_toNat_lt.1 q; omega
    simp [h1, h2]
  · have e : a = b := UInt8.toNat_inj.1 h
    subst e
    have h1 : ¬ a < a := fun q => by have := UInt8.lt_iff_toNat_lt.1 q; omega
    simp [h1, this]
  · have h1 : b < a := UInt8.lt_iff_toNat_lt.2 h
    have h2 : ¬ a < b := fun q => by have := UInt8.lt_iff_toNat_lt.1 q; omega
    simp [h1, h2]
theorem cb_zero : ∀ (a b : List UInt8), compareBytes a b = 0 → a = b
 | [], [], _ => rfl
 | [], _ :: _, h => by simp [compareBytes] at h
 | _ :: _, [], h => by simp [compareBytes] at h
 | a :: x, b :: y, h => by
  simp only [compareBytes] at h
  rcases Nat.lt_trichotomy a.toNat b.toNat with q | q | q
  · have h1 : a < b := UInt8.lt_iff_toNat_lt.2 q
    simp [h1] at h
  · have e : a = b := UInt8.toNat_inj.1 q
    subst e
    have h1 : ¬ a < a := fun q => by have := UInt8.lt_iff_toNat_lt.1 q; omega
    simp [h1] at h
    rw [cb_zero x y h]
  · have h1 : b < a := UInt8.lt_iff_toNat_lt.2 q
    have h2 : ¬ a < b := fun q => by have := UInt8.lt_iff_toNat_lt.1 q; omega
    simp [h1, h2] at h
theorem cb_trans : ∀ (a b c : List UInt8), compareBytes a b < 0 → compareBytes b c < 0 → compareBytes a c < 0
 | [], _, [], h1, h2 => by
  rename_i b
  have := cb_flip [] b
  omega
 | [], _, _ :: _, _, _ => by simp [compareBytes]
 | _ :: _, [], _, h1, _ => by simp [compareBytes] at h1
 | _ :: _, _ :: _, [], _, h2 => by simp [compareBytes] at h2
 | a :: x, b :: y, c :: z, h1, h2 => by
  have ih := cb_trans x y z
  simp only [compareBytes] at *
  simp only [UInt8.lt_iff_toNat_lt] at *
  split at h1
  · split at h2
    · rw [if_pos (by omega)]; omega
    · split at h2
      · simp at h2
      · rw [if_pos (by omega)]; omega
  · split at h1
    · simp at h1
    · split at h2
      · rw [if_pos (by omega)]; omega
      · split at h2
        · simp at h2
        · rw [if_neg (by omega), if_neg (by omega)]
          exact ih h1 h2
theorem isNaN_u64 (x : Int) (w : World) : Calls Tryz.prog 193 #[.int .u64 x] w fun e w' => e = .returned (.bool false) ∧ w' = w := by
 go_enter Tryz.func193, Tryz.ntmps193
 go_wp2
 go_ret
 exact ⟨by simp, rfl⟩
theorem compare_u64 (x y : Int) (w : World) : Calls Tryz.prog 164 #[.int .u64 x, .int .u64 y] w fun e w' => e = .returned (.int .i64 (compareInt x y)) ∧ w' = w := by
 unfold compareInt
 by_cases h1 : x < y
 · go_enter Tryz.func164, Tryz.ntmps164
   go_wp2_with (go_at_call 193; refine (isNaN_u64 _ _).mono ?_; rintro e w' ⟨rfl, rfl⟩)
   refine bodyPost_ret (results_tmp rfl _ _ _) rfl ?_
   exact ⟨by simp [h1], rfl⟩
 · by_cases h2 : y < x
   · go_enter Tryz.func164, Tryz.ntmps164
     go_wp2_with (go_at_call 193; refine (isNaN_u64 _ _).mono ?_; rintro e w' ⟨rfl, rfl⟩)
     refine bodyPost_ret (results_tmp rfl _ _ _) rfl ?_
     exact ⟨by simp [h1, h2], rfl⟩
   · go_enter Tryz.func164, Tryz.ntmps164
     go_wp2_with (go_at_call 193; refine (isNaN_u64 _ _).mono ?_; rintro e w' ⟨rfl, rfl⟩)
     go_ret
     exact ⟨by simp [h1, h2], rfl⟩
def cbS (a b : ByteArray) : Int := compareBytes a.data.toList b.data.toList
def cmpS (x y : Int × ByteArray) : Int := orI (compareInt x.1 y.1) (cbS x.2 y.2)
theorem sessions_exact (x y : Int × ByteArray) (W : World) : Calls Tryz.prog 140 #[.agg #[.int .u64 x.1, .string x.2], .agg #[.int .u64 y.1, .string y.2]] W fun e w' => e = .returned (.int .i64 (cmpS x y)) ∧ ∃ q os', w' = grow (W.drewN q) os' := by
 unfold cmpS cbS
 go_enter Tryz.func140, Tryz.ntmps140
 go_wp2_with fail
 (refine wp_region_head 10 (fun w' => ∃ n, w' = World.drewN _ n) (by kernel_rfl) (by kernel_rfl) ⟨1, rfl⟩ ?_); (simp only [List.take_succ_cons, List.take_zero, List.drop_succ_cons, List.drop_zero]); (repeat (first | go_big_quiet_step (first | exact (compare_u64 _ _ _).mono fun _ _ ⟨he, hw⟩ => ⟨he, _, hw⟩ | exact (Tryz.strings_Compare _ _ _).mono fun _ _ ⟨he, hw⟩ => ⟨he, _, hw⟩) | quiet_step (first | exact (compare_u64 _ _ _).mono fun _ _ ⟨he, hw⟩ => ⟨he, _, hw⟩ | exact (Tryz.strings_Compare _ _ _).mono fun _ _ ⟨he, hw⟩ => ⟨he, _, hw⟩))); (refine wpQuiet_nil ?_); (rintro _ ⟨nq, rfl⟩)
 go_wp2_with fail
 refine (or2 (compareInt x.1 y.1) (compareBytes x.2.data.toList y.2.data.toList) _ _ ?h0 ?h1).mono ?_
 case h0 => exact new_cell _ _ (by simp) _ _ _ _ rfl
 case h1 => exact new_cell _ _ (by simp) _ _ _ _ rfl
 rintro e _ ⟨rfl, rfl⟩
 go_wp2_with fail
 go_ret
 exact ⟨rfl, nq, _, three_grow _ _ _ _ _⟩
def ltS (x y : Int × ByteArray) : Prop := x.1 < y.1 ∨ (x.1 = y.1 ∧ cbS x.2 y.2 < 0)
instance (x y : Int × ByteArray) : Decidable (ltS x y) := by unfold ltS; infer_instance
theorem cmpS_lt (x y : Int × ByteArray) : ltOf cmpS x y = decide (ltS x y) := by
 unfold ltOf cmpS orI compareInt ltS
 by_cases h1 : x.1 < y.1
 · simp [h1]
 · by_cases h2 : y.1 < x.1
   · have : x.1 ≠ y.1 := by omega
     simp [h1, h2, this]
   · have : x.1 = y.1 := by omega
     simp [this]
theorem cbS_flip (a b : ByteArray) : cbS b a = - cbS a b := cb_flip _ _
theorem cbS_trans {a b c : ByteArray} (h1 : cbS a b < 0) (h2 : cbS b c < 0) : cbS a c < 0 := cb_trans _ _ _ h1 h2
theorem cbS_zero {a b : ByteArray} (h : cbS a b = 0) : a = b := by
 have := cb_zero _ _ h
 obtain ⟨⟨x⟩⟩ := a
 obtain ⟨⟨y⟩⟩ := b
 simp at this
 rw [this]
theorem ltS_trans {x y z : Int × ByteArray} (h1 : ltS x y) (h2 : ltS y z) : ltS x z := by
 unfold ltS at *
 rcases h1 with h1 | ⟨h1, h1'⟩
 · rcases h2 with h2 | ⟨h2, _⟩ <;> left <;> omega
 · rcases h2 with h2 | ⟨h2, h2'⟩
   · left; omega
   · exact .inr ⟨by omega, cbS_trans h1' h2'⟩
theorem ltS_irrefl (x : Int × ByteArray) : ¬ ltS x x := by
 unfold ltS
 have := cbS_flip x.2 x.2
 omega
theorem ltS_tri (x y : Int × ByteArray) : ltS x y ∨ x = y ∨ ltS y x := by
 unfold ltS
 have h := cbS_flip x.2 y.2
 by_cases h0 : cbS x.2 y.2 = 0
 · have e := cbS_zero h0
   rcases Int.lt_trichotomy x.1 y.1 with q | q | q
   · exact .inl (.inl q)
   · exact .inr (.inl (Prod.ext q e))
   · exact .inr (.inr (.inl q))
 · rcases Int.lt_trichotomy x.1 y.1 with q | q | q
   · exact .inl (.inl q)
   · by_cases hl : cbS x.2 y.2 < 0
     · exact .inl (.inr ⟨q, hl⟩)
     · exact .inr (.inr (.inr ⟨q.symm, by omega⟩))
   · exact .inr (.inr (.inl q))
theorem swoS : SWO (ltOf cmpS) where
 irrefl x := by rw [cmpS_lt]; exact decide_eq_false (ltS_irrefl x)
 trans x y z h1 h2 := by rw [cmpS_lt] at *; exact decide_eq_true (ltS_trans (of_decide_eq_true h1) (of_decide_eq_true h2))
 ntrans x y z h1 h2 := by
  rw [cmpS_lt] at *
  refine decide_eq_false fun h => ?_
  have n1 := of_decide_eq_false h1
  have n2 := of_decide_eq_false h2
  rcases ltS_tri x y with q | q | q
  · exact n1 q
  · subst q; exact n2 h
  · exact n2 (ltS_trans q h)
theorem totS (x y : Int × ByteArray) (h1 : ltOf cmpS x y = false) (h2 : ltOf cmpS y x = false) : x = y := by
 rw [cmpS_lt] at *
 rcases ltS_tri x y with q | q | q
 · exact absurd q (of_decide_eq_false h1)
 · exact q
 · exact absurd q (of_decide_eq_false h2)
def sortS (l : List (Int × ByteArray)) : List (Int × ByteArray) := l.mergeSort fun x y => !ltOf cmpS y x
theorem cmpLays (blk off size : Nat) (w : World) : CmpLays Tryz.prog 140 #[] seL 2 cmpS blk off size w := fun _ _ _ _ x y => sessions_exact x y _
end Go.Proofs.YtpebabaigakagaaGreatDoor.Sess
end
section
namespace Go.Proofs.YtpebabaigakagaaGreatDoor.Mark
open Go.RowKit Go.Shelf Go.Sort
open Go.Maps (Keyed)
section
variable {α : Type} [Inhabited α]
theorem flatK_list (enc : α → List Value) (k : Nat) (hk : ∀ x, (enc x).length = k) (l : List α) : (flatK enc k l.toArray).toList = l.flatMap enc := by
 apply List.ext_getElem?
 intro t
 by_cases ht : t < l.length * k
 · have hk0 : 0 < k := by
    rcases Nat.eq_zero_or_pos k with h | h
    · subst h; omega
    · exact h
   have hq : t / k < l.length := Nat.div_lt_of_lt_mul (by rw [Nat.mul_comm]; exact ht)
   have e := flat_at enc k hk l (t / k) l[t / k] (List.getElem?_eq_getElem hq) (t % k) (Nat.mod_lt _ hk0)
   rw [Nat.mul_comm, Nat.div_add_mod] at e
   rw [e, Array.getElem?_toList]
   have hm : t % k < (enc l[t / k]).length := by rw [hk]; exact Nat.mod_lt _ hk0
   simp [flatK, ht, hq, hm]
 · rw [List.getElem?_eq_none (by simp; omega), List.getElem?_eq_none (by rw [flat_len enc k hk]; omega)]
theorem heap_sortedK {w : World} {g n : Nat} {os : Array Obj} {cur : Array Value} {e : TypeId} {fr : Nat × Nat} (F : Array Value) (hb : w.heap[g]? = some (.cells cur e fr)) :
 (grow (putRow id (Sort.ahead w n) g 0 F) os).heap[g]? = some (.cells (putCells id 0 F cur) e fr) := by
 have hg : g < w.heap.size := (Array.getElem?_eq_some_iff.1 hb).1
 rw [heap_grow_old _ _ (by simpa using hg)]
 simp [putRow, mapBlock, Sort.ahead, Array.getElem?_modify, hb, onCells]
theorem grownBy_sortedK {w : World} {g n : Nat} {os : Array Obj} (F : Array Value) : w.grownBy (grow (putRow id (Sort.ahead w n) g 0 F) os) (some g) := by
 refine ⟨rfl, rfl, rfl, by simp, fun k hk hne => ?_⟩
 rw [heap_grow_old _ _ (by simpa using hk)]
 have : g ≠ k := fun e => hne (by rw [e])
 simp [putRow, mapBlock, Sort.ahead, Array.getElem?_modify, this]
theorem take_putK (cur F : Array Value) (h : F.size ≤ cur.size) : (putCells id 0 F cur).toList.take F.size = F.toList := by
 apply List.ext_getElem?
 intro j
 by_cases hj : j < F.size
 · rw [List.getElem?_take_of_lt hj, Array.getElem?_toList]
   simp [putCells, hj, show j < cur.size by omega]
 · rw [List.getElem?_take_eq_none (by omega), List.getElem?_eq_none (by simp; omega)]
theorem own_sorted (enc : α → List Value) (k : Nat) (hk : ∀ x, (enc x).length = k) {w : World} {base g cap n : Nat} {e : TypeId} {os : Array Obj} {cur : Array Value} {ss ts : List α} (hl : ts.length = ss.length) (hbase : base ≤ g) (hb : w.heap[g]? = some (.cells cur e (0, 0)))
 (h1 : ss.length ≤ cap) (h2 : cap ≤ maxLen) (h3 : cur.size = cap * k) :
 (sortWorldK enc k w g 0 n ts.toArray os).ownsRow base e k (.slice (some ⟨g, 0, none⟩) ss.length cap) ss.length (ts.flatMap enc) := by
 have hsz : (flatK enc k ts.toArray).size = ss.length * k := by simp [hl]
 refine ⟨by rw [flat_len enc k hk, hl], .inr ⟨g, cap, _, rfl, hbase, heap_sortedK (flatK enc k ts.toArray) hb, h1, h2, by simp [putCells, h3], ?_⟩⟩
 have := take_putK cur (flatK enc k ts.toArray) (by rw [hsz, h3]; exact Nat.mul_le_mul_right _ h1)
 rw [hsz, flatK_list enc k hk] at this
 exact this
theorem holdsK_of (enc : α → List Value) (k : Nat) (hk : ∀ x, (enc x).length = k) {w : World} {g : Nat} {cur : Array Value} {e : TypeId} {ss : List α} (hb : w.heap[g]? = some (.cells cur e (0, 0))) (ht : cur.toList.take (ss.length * k) = ss.flatMap enc) : HoldsK enc k w g 0 ss.toArray := by
 intro j hj
 have hj' : j < ss.length * k := by simpa using hj
 refine ⟨?_, by simp [World.frozen?, hb]⟩
 have h1 : (cur.toList.take (ss.length * k))[j]? = (flatK enc k ss.toArray).toList[j]? := by rw [ht, flatK_list enc k hk]
 rw [List.getElem?_take_of_lt hj', Array.getElem?_toList, Array.getElem?_toList, Array.getElem?_eq_getElem hj] at h1
 simp only [World.cell?, hb, Nat.zero_add]
 simp only [Option.isSome_none, Bool.false_eq_true, if_false]
 rw [h1, getElem!_pos _ j hj]
 rfl
end
theorem sort_len (l : List (Int × Int)) : (sortID l).length = l.length := List.length_mergeSort l
theorem sort_perm {l m : List (Int × Int)} (h : l.Perm m) : sortID l = sortID m := by
 have hp : (sortID l).Perm (sortID m) := (List.mergeSort_perm l _).trans (h.trans (List.mergeSort_perm m _).symm)
 have tr : ∀ a b c : Int × Int, (!ltOf cmpID b a) = true → (!ltOf cmpID c b) = true → (!ltOf cmpID c a) = true := by
  intro a b c h1 h2
  rw [cmpID_lt] at *
  simp only [Bool.not_eq_true', decide_eq_false_iff_not] at *
  unfold ltID at *
  omega
 have tot : ∀ a b : Int × Int, ((!ltOf cmpID b a) || !ltOf cmpID a b) = true := by
  intro a b
  rw [cmpID_lt, cmpID_lt]
  simp only [Bool.or_eq_true, Bool.not_eq_true', decide_eq_false_iff_not]
  unfold ltID
  omega
 refine List.Perm.eq_of_pairwise (le := fun a b => (!ltOf cmpID b a) = true) ?_ (List.pairwise_mergeSort tr tot l) (List.pairwise_mergeSort tr tot m) hp
 intro a b _ _ h1 h2
 exact totID a b (by simpa using h2) (by simpa using h1)
end Go.Proofs.YtpebabaigakagaaGreatDoor.Mark
end
section
namespace Go.Proofs.YtpebabaigakagaaGreatDoor.Sess
open _root_.Go.Proofs.YtpebabaigakagaaGreatDoor.Mark (holdsK_of own_sorted grownBy_sortedK)
open Go.RowKit Go.Shelf Go.Sort
open Go.Maps (Keyed)
theorem collect_in (F : Fence) (n : Nat) (hF : F.fn 111) (hF2 : F.fn 141) (hro : F.round = none) (hn : 4 ≤ n) (gf : Nat) (lb : Array Value) (hFg : F.fn gf) (eg : ∀ args w, (callFunc gf args).run Tryz.prog w = .ok (.enter gf args) w)
 (S Sp : List (Int × ByteArray) → Prop) (N : Nat) (hN : N ≤ 100000000) (w : World) (hseq : SeqStopsK F (n - 1 - 1) Tryz.prog gf lb (fun x : Int × ByteArray => #[seV x]) KeepsWalks S Sp N w) :
 CallsIn F n Tryz.prog 111 #[.func (.func gf) #[] lb] w fun e w' => ∃ (v : Value) (ss : List (Int × ByteArray)), e = .returned v ∧ S ss ∧ w'.ownsRow w.heap.size 25 2 v ss.length (ss.flatMap seL) ∧ (v = .slice none 0 0 ↔ ss = []) ∧ Below w.heap.size w w' := by
 have h1 : 1 ≤ n := by omega
 refine callsIn_of_wp Tryz.func111 rfl hF ?_ hro
 simp only [Tryz.ntmps111, List.size_toArray, List.length_cons, List.length_nil, Nat.reduceAdd, Nat.reduceSub, Array.replicate_succ, Array.replicate_zero, List.push_toArray, List.append_toArray, List.nil_append, List.cons_append]
 gi_wp2_with (gi_at_call 141; refine (appendSeq_in F (n - 1) hF2 hro (by omega) gf lb hFg eg S Sp N hN _ hseq).mono ?_; rintro e W ⟨v, ss, rfl, hS, hrow, hnil, hb⟩)
 go_ret
 exact ⟨v, ss, rfl, hS, hrow, hnil, hb⟩
theorem seL_len (x : Int × ByteArray) : (seL x).length = 2 := rfl
theorem seL_one (x : Int × ByteArray) : ∀ v ∈ seL x, v.oneCell' = true := by
 intro u hu
 simp only [seL, List.mem_cons, List.not_mem_nil, or_false] at hu
 rcases hu with rfl | rfl <;> rfl
theorem collect_keys (Bm b : Nat) (es : List (Value × Value)) (ks : List (Int × ByteArray)) (hes : es.map (·.1) = ks.map seV) (w : World) (hBm : Bm < w.heap.size) (hm : w.cell? ⟨Bm, 0, none⟩ = some (.map (some b))) (hM : MapAt Tryz.prog 25 w b es) (hN : ks.length ≤ 100000000) :
 Calls Tryz.prog 111 #[.func (.func 142) #[] #[.pointer (some ⟨Bm, 0, none⟩)]] w fun e w' => ∃ (v : Value) (ss : List (Int × ByteArray)), e = .returned v ∧ ss.Perm ks ∧ w'.ownsRow w.heap.size 25 2 v ss.length (ss.flatMap seL) ∧ (v = .slice none 0 0 ↔ ss = []) ∧ Below w.heap.size w w' :=
 callsIn_wide.1 (collect_in Fence.wide 5 trivial trivial rfl (by omega) _ _ trivial (enters_of Tryz.func142 (by kernel_rfl) rfl) _ _ ks.length hN w
  (keys_stops Fence.wide _ trivial rfl (by omega) Bm b es ks hes w hBm hm hM))
theorem sort_len (l : List (Int × ByteArray)) : (sortS l).length = l.length := List.length_mergeSort l
theorem sort_tr (a b c : Int × ByteArray) (h1 : (!ltOf cmpS b a) = true) (h2 : (!ltOf cmpS c b) = true) : (!ltOf cmpS c a) = true := by
 rw [cmpS_lt] at *
 simp only [Bool.not_eq_true', decide_eq_false_iff_not] at *
 intro h
 rcases ltS_tri b a with q | q | q
 · exact h1 q
 · subst q; exact h2 h
 · exact h2 (ltS_trans h q)
theorem sort_to (a b : Int × ByteArray) : ((!ltOf cmpS b a) || !ltOf cmpS a b) = true := by
 rw [cmpS_lt, cmpS_lt]
 simp only [Bool.or_eq_true, Bool.not_eq_true', decide_eq_false_iff_not]
 by_cases h : ltS b a
 · right
   intro h'
   exact ltS_irrefl _ (ltS_trans h h')
 · exact .inl h
theorem sort_perm {l m : List (Int × ByteArray)} (h : l.Perm m) : sortS l = sortS m := by
 have hp : (sortS l).Perm (sortS m) := (List.mergeSort_perm l _).trans (h.trans (List.mergeSort_perm m _).symm)
 refine List.Perm.eq_of_pairwise (le := fun a b => (!ltOf cmpS b a) = true) ?_ (List.pairwise_mergeSort sort_tr sort_to l) (List.pairwise_mergeSort sort_tr sort_to m) hp
 intro a b _ _ h1 h2
 exact totS a b (by simpa using h2) (by simpa using h1)
theorem sorted_any {w : World} {base : Nat} {v : Value} {ss : List (Int × ByteArray)} (hrow : w.ownsRow base 25 2 v ss.length (ss.flatMap seL)) (hmax : ss.length ≤ 100000000) :
 Calls Tryz.prog 110 #[v] w fun e w' => e = .returned v ∧ w'.ownsRow base 25 2 v (sortS ss).length ((sortS ss).flatMap seL) ∧ w.grownBy w' v.ownBlock := by
 rcases hrow.2 with ⟨rfl, hz⟩ | ⟨gb, cap, cur, rfl, hbase, hgb, r1, r2, r3, r4⟩
 · have hss : ss = [] := List.eq_nil_of_length_eq_zero hz
   subst hss
   have hS : Calls Tryz.prog 139 #[.slice none 0 0, .func (.func 140) #[] #[]] w fun e w' => e = .returned (.tuple #[]) ∧ w' = w := AnyF.slices_SortFunc_none Tryz.sort139 none 0 _ w
   go_enter Tryz.func110, Tryz.ntmps110
   go_wp2_with fail
   refine hS.mono ?_
   rintro e _ ⟨rfl, rfl⟩
   go_wp2_with fail
   go_ret
   exact ⟨rfl, by simpa [sortS] using hrow, ⟨rfl, rfl, rfl, Nat.le_refl _, fun _ _ _ => rfl⟩⟩
 · have hH : HoldsK seL 2 w gb 0 ss.toArray := holdsK_of seL 2 seL_len hgb r4
   have hgl : gb < w.heap.size := (Array.getElem?_eq_some_iff.1 hgb).1
   have hsz : ss.toArray.size < 4611686018427387904 := by simp; omega
   have hS : Calls Tryz.prog 139 #[.slice (some ⟨gb, 0, none⟩) ss.length cap, .func (.func 140) #[] #[]] w fun e w' => e = .returned (.tuple #[]) ∧ ∃ n os, w' = sortWorldK seL 2 w gb 0 n (sortS ss).toArray os :=
    AnyQ.slices_SortFunc_total Tryz.sort139 2 Tryz.isAgg25 Tryz.sizeOf25 seL seL_len seL_one cmpS swoS 140 #[] gb 0 cap ss.toArray w (enters_of Tryz.func140 (by kernel_rfl) rfl) (cmpLays _ _ _ _) hH hgl hsz totS
   go_enter Tryz.func110, Tryz.ntmps110
   go_wp2_with fail
   refine hS.mono ?_
   rintro e _ ⟨rfl, nn, os, rfl⟩
   go_wp2_with fail
   go_ret
   refine ⟨rfl, ?_, grownBy_sortedK _⟩
   rw [sort_len]
   exact own_sorted seL 2 seL_len (sort_len ss) hbase hgb r1 r2 r3
end Go.Proofs.YtpebabaigakagaaGreatDoor.Sess
end
section
namespace Go.Proofs.YtpebabaigakagaaGreatDoor.Lease
open Go.RowKit
open Go.Maps (Keyed)
open _root_.Go.Proofs.YtpebabaigakagaaGreatDoor.Sess (seV seL sortS seL_len)
abbrev rowSe (v : Value) (l : List (Int × ByteArray)) : Part := .row 25 2 v l.length (l.flatMap seL)
def keysOf (ss : List Ses) : List (Int × ByteArray) := ss.map (fun s => (s.num, s.foot))
theorem ents_keys (ss : List Ses) : (ents ss).map (·.1) = (keysOf ss).map seV := by simp [ents, ent, keysOf, seV, Ses.key, keyV]
def SessionsPost (w : World) (p m : Nat) (ss : List Ses) (e : Ending) (w' : World) : Prop := ∃ v, e = .returned v ∧ At [BookP p m ss] w [rowSe v (sortS (keysOf ss)), BookP p m ss] w'
theorem sessions_all {w : World} {p m : Nat} {ss : List Ses} (h : Sep [BookP p m ss] w) (hmax : ss.length ≤ 1000000) :
 Calls Tryz.prog 71 #[.pointer (some ⟨p, 0, none⟩)] w (SessionsPost w p m ss) := by
 have hA := begin0 h
 have hF := hA.facts; (try simp only [uY] at hA hF)
 clear h
 go_enter Tryz.func71, Tryz.ntmps71
 go_wp2_with fail
 refine (callsIn_wide.1 (Sess.keys_in Fence.wide 1 trivial rfl (some m) w)).mono ?_
 rintro e _ ⟨rfl, rfl⟩
 have hB := hA.alloc [.map (some m)] 78
 go_wp2_with fail
 refine (Sess.collect_keys w.heap.size m (ents ss) (keysOf ss) (ents_keys ss) _ (by simp) ((BlockIs.alloc w [.map (some m)] 78).cell 0) (hB.get (A := mapC m (ents ss)) sR) (by simp [keysOf]; omega)).mono ?_
 rintro e w1 ⟨v, ls, rfl, hp, hrow, _, hb⟩
 have hC := hB.row_new hb hrow
 have hso := Lib.hid (Sess.sort_perm hp)
 have hll := hp.length_eq
 have hlk : ls.length ≤ 100000000 := by rw [hll]; simp [keysOf]; omega
 clear hF hA hB
 go_wp2_with fail
 refine (Sess.sorted_any (hC.get (A := Part.row 25 2 v ls.length (ls.flatMap seL)) sR) hlk).mono ?_
 rintro e w2 ⟨rfl, hrow2, hgr⟩
 have hD := hC.turn (A := Part.row 25 2 v ls.length (ls.flatMap seL)) sR (Part.row 25 2 v (sortS ls).length ((sortS ls).flatMap seL)) hrow2 (fun b hb => .inl hb) (exc_grown hgr)
 rw [hso.out] at hD
 go_wp2_with fail
 go_ret
 exact ⟨v, rfl, (fold0 (m := m) (ss := ss) hD sR sR sR).only2 sZ sR⟩
end Go.Proofs.YtpebabaigakagaaGreatDoor.Lease
end
