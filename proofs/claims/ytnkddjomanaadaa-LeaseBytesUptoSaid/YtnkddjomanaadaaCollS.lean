/- The keys of a map keyed by sessions, collected: the library's maps.Keys, slices.Collect, walked. -/
import Derived.RangeFuncNested
import Derived.RangeFuncBound
import Derived.RangeFuncCalls
import Derived.RangeFuncLeaves
import Derived.Shelf.Abstract
import Derived.WalkKit
import Derived.OwnWalkIn
import Derived.TacticsInMore
import Derived.LoopNIn
import Derived.LoopIn
import Derived.Maps.AppendAt
import Derived.Test.YtnkddjomanaadaaMapW
import Derived.Test.YtnkddjomanaadaaChecked
namespace Go.Proofs.Ytnkddjomanaadaa.Sess
open Go.RowKit Go.Shelf
open Go.Maps (Keyed)
set_option linter.unusedSimpArgs false
set_option linter.unusedVariables false
attribute [local go_sem] Oper.semAt_some

/-- an instance's name, as a value -/
def seV (p : Int × ByteArray) : Value := .agg #[.int .u64 p.1, .string p.2]
def seL (p : Int × ByteArray) : List Value := [.int .u64 p.1, .string p.2]
def unS : Value → Int × ByteArray
  | .agg #[.int _ a, .string b] => (a, b)
  | _ => (0, .empty)
theorem unS_seV (p : Int × ByteArray) : unS (seV p) = p := rfl
theorem seV_inj {p q : Int × ByteArray} (h : seV p = seV q) : p = q := by rw [← unS_seV p, h, unS_seV]
theorem perm_of_seV {l m : List (Int × ByteArray)} (h : (l.map seV).Perm (m.map seV)) : l.Perm m := by
  have := h.map unS
  simpa [List.map_map, Function.comp_def, unS_seV] using this

/-- how many entries of a range have come, read off the world -/
def seenOf (w : World) (r : Nat) : Nat := match w.heap[r]? with | some (.mapIter _ _ seen _) => seen.size | _ => 0
theorem seenOf_eq {P : Program} {k : TypeId} {w : World} {r b : Nat} {es done : List (Value × Value)} (h : IterAt P k w r b es done) : seenOf w r = done.length := by
  obtain ⟨_, _, ents, clock, c0, vs, hb, hr, hc, hd, _⟩ := h
  unfold seenOf
  rw [hr, ← hd]
  simp
theorem iter_walk {P : Program} {k : TypeId} {w : World} {r b : Nat} {es done : List (Value × Value)} (h : IterAt P k w r b es done) : ∃ o : Obj, w.heap[r]? = some o ∧ o.isWalk = true := by
  obtain ⟨_, _, ents, clock, c0, vs, hb, hr, _⟩ := h
  exact ⟨_, hr, rfl⟩
theorem iter_keeps {P : Program} {k : TypeId} {w w' : World} {r b : Nat} {es done : List (Value × Value)} (h : IterAt P k w r b es done) (hk : KeepsWalks w w') : IterAt P k w' r b es done := by
  have h0 := h
  obtain ⟨_, _, ents, clock, c0, vs, hb, hr, _⟩ := h0
  exact h.same ((hk.same b _ hb rfl).trans hb.symm) ((hk.same r _ hr rfl).trans hr.symm)
theorem grown_of_exc {w w' : World} {r : Nat} (h : Exc (fun q => q = r) w w') : w.grownBy w' (some r) := ⟨h.os, h.tape, h.output, h.size, fun k hk hn => h.block k hk (fun e => hn (by rw [e]))⟩
theorem grown_of_ext {w w' : World} (h : Ext w w') : w.grownBy w' none := ⟨Below.os h, Below.tape h, Below.output h, Below.size h, fun k hk _ => Below.block h k hk⟩

set_option maxRecDepth 100000 in
set_option maxHeartbeats 1000000 in
theorem keys1_in (F : Fence) (n : Nat) (h1 : F.fn 50) (hro : F.round = none) (hn : 1 ≤ n) (l Bm b : Nat) (es : List (Value × Value)) (ks : List (Int × ByteArray)) (hes : es.map (·.1) = ks.map seV) (J Jx : List (Int × ByteArray) → World → Prop)
    (W : World) (hJ : AbidesFrom W.heap.size J)
    (hY : ∀ pre x W1, J pre W1 → pre.length < ks.length → YieldAt F (n - 1) Try.prog l #[seV x] W1 fun e W' => (e = .returned (.bool true) ∧ J (pre ++ [x]) W' ∧ KeepsWalks W1 W') ∨ (e = .returned (.bool false) ∧ Jx (pre ++ [x]) W'))
    (hm : W.cell? ⟨Bm, 0, none⟩ = some (.map (some b))) (hM : MapAt Try.prog 31 W b es) (h0 : J [] W) :
    CallsIn F n Try.prog 50 #[.func (.yield l) #[] #[], .pointer (some ⟨Bm, 0, none⟩)] W fun e W' => (∃ v, e = .returned v) ∧ ((∃ ys, ys.Perm ks ∧ J ys W') ∨ (∃ pre, True ∧ Jx pre W')) := by
  obtain ⟨W0, hrun, hext, hI⟩ := IterAt.start hM Try.underlying56
  have hJ0 : J [] W0 := hJ _ W W0 none h0 (grown_of_ext hext) (fun r e => by cases e)
  refine callsIn_of_wp Try.func50 rfl h1 ?_ hro
  simp only [Try.ntmps50, List.size_toArray, List.length_cons, List.length_nil, Nat.reduceAdd, Nat.reduceSub, Array.replicate_succ, Array.replicate_zero, List.push_toArray, List.append_toArray, List.nil_append, List.cons_append]
  gi_wp2
  clear hrun
  try go_frame
  gi_loopw [3] (fun _ wr => ∃ (done : List (Value × Value)) (ds : List (Int × ByteArray)), IterAt Try.prog 31 wr W.heap.size b es done ∧ done.map (·.1) = ds.map seV ∧ J ds wr)
    (fun _ wr => es.length - seenOf wr W.heap.size)
  case atStart => exact ⟨[], [], hI, rfl, hJ0⟩
  case round =>
    obtain ⟨done, ds, hI1, hd, hJs⟩ := hrel
    rcases hI1.next 0 with ⟨hp, hrun⟩ | ⟨p, w', hp, hne, hrun, hI2, hx⟩
    · have hpp : ds.Perm ks := (perm_of_seV (by rw [← hes, ← hd]; exact hp.map _)).symm
      clear hes hd
      gi_wp2
      go_end0
      exact ⟨⟨_, rfl⟩, .inl ⟨ds, hpp, hJs⟩⟩
    · obtain ⟨pk, pv⟩ := p
      have hpk : pk ∈ es.map (·.1) := List.mem_map.2 ⟨_, hp, rfl⟩
      rw [hes] at hpk
      obtain ⟨x, _, rfl⟩ := List.mem_map.1 hpk
      have hlen : ds.length < ks.length := by
        have e1 := congrArg List.length hes
        have e2 := congrArg List.length hd
        have e3 := hI2.len
        simp at e1 e2 e3
        omega
      have hJ1 : J ds w' := hJ ds wr w' (some W.heap.size) hJs (grown_of_exc hx) (fun r e => by cases e; exact ⟨Nat.le_refl _, iter_walk hI1⟩)
      have hJ2 : J ds (w'.alloc (.cells #[.int .u64 x.1, .string x.2] 31)) := hJ _ _ _ none hJ1 (World.grownBy_alloc _ _ none) (fun r e => by cases e)
      have hI3 : IterAt Try.prog 31 (w'.alloc (.cells #[.int .u64 x.1, .string x.2] 31)) W.heap.size b es (done ++ [(seV x, pv)]) := (Part.iter _ _ _ _ _ _).stay _ _ hI2 (fun q hq => Below.heap_alloc _ _ _ ((Part.iter _ _ _ _ _ _).lt _ hI2 q hq))
      obtain ⟨fn, tmps, assign, body, hy, hR⟩ := hY ds x _ hJ2 hlen
      have hen := hI2.entry
      have hs0 := seenOf_eq hI1
      have hes' := Lib.hid hes
      have hd' := Lib.hid hd
      have hs' := Lib.hid hs0
      have hle := hI2.len
      clear hes hd hs0 hpk hp hne hx
      unfold seV at hrun hen hy
      gi_wp2
      refine hR.mono ?_
      rintro e W3 (⟨rfl, hJ3, hk3⟩ | ⟨rfl, hJx3⟩)
      · gi_wp2
        go_roundw
        case rel => exact ⟨done ++ [(seV x, pv)], ds ++ [x], iter_keeps hI3 hk3, by simp [hd'.out], hJ3⟩
        case measure =>
          have e1 := seenOf_eq (iter_keeps hI3 hk3)
          have e2 := hs'.out
          rw [e1, e2]
          simp at hle ⊢
          omega
      · gi_wp2
        refine bodyPost_ret (results_none rfl _ _ _) rfl ?_
        exact ⟨⟨_, rfl⟩, .inr ⟨_, trivial, hJx3⟩⟩

theorem keys_in (F : Fence) (n : Nat) (h1 : F.fn 41) (hro : F.round = none) (mb : Option Nat) (w : World) :
    CallsIn F n Try.prog 41 #[.map mb] w fun e w' => e = .returned (.func (.func 50) #[] #[.pointer (some ⟨w.heap.size, 0, none⟩)]) ∧ w' = w.alloc (.cells #[.map mb] 56) := by
  refine callsIn_of_wp Try.func41 rfl h1 ?_ hro
  simp only [Try.ntmps41, List.size_toArray, List.length_cons, List.length_nil, Nat.reduceAdd, Nat.reduceSub, Array.replicate_succ, Array.replicate_zero, List.push_toArray, List.append_toArray, List.nil_append, List.cons_append]
  gi_wp2
  go_ret
  exact ⟨rfl, rfl⟩

/-- the keys' iterator, as a contract -/
theorem keys_stops (F : Fence) (n : Nat) (h1 : F.fn 50) (hro : F.round = none) (hn : 1 ≤ n) (Bm b : Nat) (es : List (Value × Value)) (ks : List (Int × ByteArray)) (hes : es.map (·.1) = ks.map seV) (w : World) (hBm : Bm < w.heap.size)
    (hm : w.cell? ⟨Bm, 0, none⟩ = some (.map (some b))) (hM : MapAt Try.prog 31 w b es) :
    SeqStopsK F n Try.prog 50 #[.pointer (some ⟨Bm, 0, none⟩)] (fun x : Int × ByteArray => #[seV x]) KeepsWalks (fun ys => ys.Perm ks) (fun _ => True) ks.length w := fun l J Jx W hW hJ _ hY h0 =>
  keys1_in F n h1 hro hn l Bm b es ks hes J Jx W hJ hY ((hW.cell (p := ⟨Bm, 0, none⟩) hBm).trans hm) (hM.same (hW.block b hM.lt)) h0

/-! ### slices.AppendSeq, slices.Collect -/
theorem infoID : (Try.prog.info? 31).map (fun i => (i.zero, i.size, i.bytes)) = some (some (.agg #[.int .u64 0, .string .empty]), 2, 24) := by kernel_rfl
def Box (W : World) (B : Nat) (t : TypeId) (c : Array Value) : Prop := W.heap[B]? = some (.cells c t (0, 0))
theorem Box.own {β : Type} (B : Nat) (t : TypeId) (c : Array Value) : Own (fun (_ : β) W => Box W B t c) := fun s X Y row hs hg hrow =>
  (hg.block B (lt_of_some hs) (fun e => by obtain ⟨o, ho, hc⟩ := hrow B e.symm; rw [show X.heap[B]? = _ from hs] at ho; cases ho; cases hc)).trans hs
theorem two_new (W : World) (x y : Value) (t : TypeId) : ∀ (j : Nat) (u : Value), [x, y][j]? = some u → (W.alloc (.cells #[x, y] t)).cell? ((⟨W.heap.size, 0, none⟩ : Addr).add j) = some u := by
  intro j u h
  match j, h with
  | 0, h => simp at h; subst h; simp [Addr.add]
  | 1, h => simp at h; subst h; simp [Addr.add]
  | j + 2, h => simp at h
def MidI (w : World) (pre : List (Int × ByteArray)) (W : World) : Prop :=
  (∃ v, Boxed W w.heap.size 69 v ∧ W.ownsRow w.heap.size 31 2 v pre.length (pre.flatMap seL) ∧ (v = .slice none 0 0 ↔ pre = [])) ∧ Below w.heap.size w W
theorem midI_own (w : World) (B : Nat) (hB : w.heap.size ≤ B) : OwnFrom B (MidI w) :=
  OwnFrom.and (Own.from (holdsRow_own w.heap.size w.heap.size 69 31 2 (fun pre => pre.length) (fun pre => pre.flatMap seL) (fun pre v => v = .slice none 0 0 ↔ pre = [])) _) (ownFrom_below (Nat.le_refl _) hB)
def MidAx (w : World) (sv : Value) (x : Int × ByteArray) (a' : Act) (W : World) : Prop :=
  ∃ Bx, w.heap.size < Bx ∧ Box W Bx 31 #[.int .u64 x.1, .string x.2] ∧ a' = { tmps := #[.slice none 0 0, sv, .pointer (some ⟨w.heap.size, 0, none⟩), undef, .slice none 0 0, .pointer (some ⟨Bx, 0, none⟩), sv, seV x, undef, undef, undef, undef, undef], defers := [] }
theorem midAx_own (w : World) (sv : Value) (B : Nat) (x : Int × ByteArray) (a' : Act) : OwnFrom B (fun (_ : Unit) W => MidAx w sv x a' W) := by
  rintro s X Y row ⟨Bx, h1, h2, h3⟩ hg hr
  exact ⟨Bx, h1, (Box.own (β := Unit) Bx _ _).from B () X Y row h2 hg hr, h3⟩

set_option maxRecDepth 100000 in
set_option maxHeartbeats 2000000 in
theorem appendSeq_in (F : Fence) (n : Nat) (hF : F.fn 49) (hro : F.round = none) (hn : 3 ≤ n) (gf : Nat) (lb : Array Value) (hFg : F.fn gf) (eg : ∀ args w, (callFunc gf args).run Try.prog w = .ok (.enter gf args) w)
    (S Sp : List (Int × ByteArray) → Prop) (N : Nat) (hN : N ≤ 100000000) (w : World) (hseq : SeqStopsK F (n - 1) Try.prog gf lb (fun x : Int × ByteArray => #[seV x]) KeepsWalks S Sp N w) :
    CallsIn F n Try.prog 49 #[.slice none 0 0, .func (.func gf) #[] lb] w fun e w' => ∃ (v : Value) (ss : List (Int × ByteArray)), e = .returned v ∧ S ss ∧ w'.ownsRow w.heap.size 31 2 v ss.length (ss.flatMap seL) ∧ (v = .slice none 0 0 ↔ ss = []) ∧ Below w.heap.size w w' := by
  have h1 : 1 ≤ n := by omega
  obtain ⟨i0, hi, hz0, hz1, hz2⟩ := info_parts infoID
  refine callsIn_of_wp_marks Try.func49 rfl hF ?_ hro
  simp only [Try.ntmps49, List.size_toArray, List.length_cons, List.length_nil, Nat.reduceAdd, Nat.reduceSub, Array.replicate_succ, Array.replicate_zero, List.push_toArray, List.append_toArray, List.nil_append, List.cons_append]
  gi_wp2
  have bO := Boxed.new w 69 (.slice none 0 0)
  have hB0 : Below w.heap.size w (w.alloc (.cells #[.slice none 0 0] 69)) := (Below.refl _ w).alloc (Nat.le_refl _) _
  refine wpIn_rangeFunc_ownH hro h1 (gf := gf) (lb := lb) rfl hFg eg hseq walksK_t walksK_b hB0 (fun _ => rfl)
    (MidI w) (fun _ _ _ => False) (midI_own w _ (by simp)) (fun _ _ _ _ _ hs _ _ => hs)
    ⟨⟨_, bO, World.ownsRow_nil _ _ _ _, by simp⟩, hB0⟩
    (MidAx w (.func (.func gf) #[] lb)) (fun x a' => midAx_own w _ _ x a') ?assign ?body ?done ?stop
  case assign =>
    rintro l pre x W K ⟨⟨v, hv, hrow, hnil⟩, hB⟩ hK
    have hsz := hB.size
    unfold seV
    gi_wp2
    refine hK _ _ ((KeepsOthers.alloc _ _).from _) (KeepsWalks.alloc _ _) ⟨⟨v, hv.alloc _, hrow.alloc _, hnil⟩, hB.alloc hB.size _⟩ ⟨W.heap.size, hv.lt, World.alloc_heap_new W _, rfl⟩
  case body =>
    rintro l pre x a' W hl ⟨r, hr⟩ ⟨⟨v, hv, hrow, hnil⟩, hB⟩ ⟨Bx, hBx, bX, rfl⟩ hlt
    have hc := hv.cell
    have c0 : W.cell? ⟨Bx, 0, none⟩ = some (.int .u64 x.1) := by unfold Box at bX; simp [World.cell?, bX]
    have c1 : W.cell? ⟨Bx, 1, none⟩ = some (.string x.2) := by unfold Box at bX; simp [World.cell?, bX]
    have hsz := hB.size
    gi_wp2_with (gi_at_builtin; refine wpListIn_append_own _ rfl _ _ 69 rfl w.heap.size 31 i0 (.agg #[.int .u64 0, .string .empty]) 2 24 Try.underlying69 hi hz0 hz1 hz2 rfl (by decide) _ _ _ rfl (hrow.alloc _) ⟨W.heap.size, 0, none⟩ 1 1 [.int .u64 x.1, .string x.2] rfl rfl (two_new _ _ _ _) (by simp [Value.oneCell']) (by unfold maxLen; omega) (by omega) (by simp; omega) ?_; intro v' w1 hown' hgrow _; obtain ⟨g', cap', rfl⟩ := ownsRow_succ hown'; obtain ⟨hv1, hv2, hr2, hk2, hb2⟩ := hv.appended (by decide) hrow hB.size (Nat.le_refl _) hown' hgrow; have hc1 := hv1.cell; have hf1 := hv1.frozen)
    exact ⟨hk2.from _, hk2.walks, ⟨_, hv2, by simpa [seL] using hr2, by simp⟩, hB.trans hb2⟩
  case done =>
    rintro D ys W hD hS ⟨⟨v, hv, hrow, hnil⟩, hB⟩ hK
    have hc := hv.cell
    gi_wp2
    refine ⟨by simp, .inl ⟨_, _, rfl, run_takeDeferred hK, ?_⟩⟩
    exact ⟨_, results_tmp rfl _ _ _, v, ys, rfl, hS, ownsRow_putObj hrow _ hK rfl, hnil, hB.trans (belowK_b (w := w) (Nat.le_refl _) W D _ _ (by simp at hD; omega) hK rfl rfl)⟩
  case stop =>
    rintro D c pre W _ _ h _
    exact h.elim
end Go.Proofs.Ytnkddjomanaadaa.Sess
