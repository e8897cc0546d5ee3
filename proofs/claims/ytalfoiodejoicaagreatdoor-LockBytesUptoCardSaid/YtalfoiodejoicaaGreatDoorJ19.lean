/- LockT, MarkS, Drawn, joined. -/
import Derived.RangeFuncNested
import Derived.RangeFuncBound
import Derived.RangeFuncCalls
import Derived.RangeFuncLeaves
import Derived.Shelf.Abstract
import Derived.WalkKit
import Derived.OwnWalkIn
import Derived.TacticsInMore
import Derived.LoopNIn
import Derived.LoopIn
import Derived.Maps.AppendAt
import Derived.Test.YtalfoiodejoicaaGreatDoorJ3
import Derived.Test.YtalfoiodejoicaaGreatDoorJ18
import Derived.Test.YtalfoiodejoicaaGreatDoorJ7
import Derived.Test.YtalfoiodejoicaaGreatDoorChecked
import Derived.Test.YtalfoiodejoicaaGreatDoorJ2
import Derived.Sort.OwnSorted
import Derived.Lone
import Derived.RunT
import Derived.Calls
section
namespace Go.Proofs.YtalfoiodejoicaaGreatDoor.Lock
open _root_.Go.Proofs.YtalfoiodejoicaaGreatDoor.Mark (seenOf seenOf_eq iter_walk iter_keeps grown_of_exc grown_of_ext Box Box.own)
open Go.RowKit Go.Shelf
open Go.Maps (Keyed)
set_option linter.unusedSimpArgs false
set_option linter.unusedVariables false
attribute [local go_sem] Oper.semAt_some

def unE2 : Value → Ent
  | .agg #[.string p, .int _ n, .string f, .int _ m, .int _ k, .int _ s] => ⟨p, n, f, m, k, s⟩
  | _ => nullE
theorem perm_of_val {l m : List Ent} (h : (l.map Ent.val).Perm (m.map Ent.val)) : l.Perm m := by
  have := h.map unE2
  have e : ∀ x : Ent, unE2 x.val = x := fun _ => rfl
  simpa [List.map_map, Function.comp_def, e] using this

set_option maxRecDepth 100000 in
set_option maxHeartbeats 1000000 in
theorem vals1_in (F : Fence) (n : Nat) (h1 : F.fn 132) (hro : F.round = none) (hn : 1 ≤ n) (l Bm b : Nat) (es : List (Value × Value)) (ks : List (Ent)) (hes : es.map (·.2) = ks.map Ent.val) (J Jx : List (Ent) → World → Prop)
    (W : World) (hJ : AbidesFrom W.heap.size J)
    (hY : ∀ pre x W1, J pre W1 → pre.length < ks.length → YieldAt F (n - 1) Tryz.prog l #[x.val] W1 fun e W' => (e = .returned (.bool true) ∧ J (pre ++ [x]) W' ∧ KeepsWalks W1 W') ∨ (e = .returned (.bool false) ∧ Jx (pre ++ [x]) W'))
    (hm : W.cell? ⟨Bm, 0, none⟩ = some (.map (some b))) (hM : MapAt Tryz.prog 160 W b es) (h0 : J [] W) :
    CallsIn F n Tryz.prog 132 #[.func (.yield l) #[] #[], .pointer (some ⟨Bm, 0, none⟩)] W fun e W' => (∃ v, e = .returned v) ∧ ((∃ ys, ys.Perm ks ∧ J ys W') ∨ (∃ pre, True ∧ Jx pre W')) := by
  obtain ⟨W0, hrun, hext, hI⟩ := IterAt.start hM Tryz.underlying120
  have hJ0 : J [] W0 := hJ _ W W0 none h0 (grown_of_ext hext) (fun r e => by cases e)
  refine callsIn_of_wp Tryz.func132 rfl h1 ?_ hro
  simp only [Tryz.ntmps132, List.size_toArray, List.length_cons, List.length_nil, Nat.reduceAdd, Nat.reduceSub, Array.replicate_succ, Array.replicate_zero, List.push_toArray, List.append_toArray, List.nil_append, List.cons_append]
  gi_wp2
  clear hrun
  try go_frame
  gi_loopw [4] (fun _ wr => ∃ (done : List (Value × Value)) (ds : List (Ent)), IterAt Tryz.prog 160 wr W.heap.size b es done ∧ done.map (·.2) = ds.map Ent.val ∧ J ds wr)
    (fun _ wr => es.length - seenOf wr W.heap.size)
  case atStart => exact ⟨[], [], hI, rfl, hJ0⟩
  case round =>
    obtain ⟨done, ds, hI1, hd, hJs⟩ := hrel
    rcases hI1.next 0 with ⟨hp, hrun⟩ | ⟨p, w', hp, hne, hrun, hI2, hx⟩
    · have hpp : ds.Perm ks := (perm_of_val (by rw [← hes, ← hd]; exact hp.map _)).symm
      clear hes hd
      gi_wp2
      go_end0
      exact ⟨⟨_, rfl⟩, .inl ⟨ds, hpp, hJs⟩⟩
    · obtain ⟨pk, pv⟩ := p
      have hpk : pv ∈ es.map (·.2) := List.mem_map.2 ⟨_, hp, rfl⟩
      rw [hes] at hpk
      obtain ⟨x, _, rfl⟩ := List.mem_map.1 hpk
      have hlen : ds.length < ks.length := by
        have e1 := congrArg List.length hes
        have e2 := congrArg List.length hd
        have e3 := hI2.len
        simp at e1 e2 e3
        omega
      have hJ1 : J ds w' := hJ ds wr w' (some W.heap.size) hJs (grown_of_exc hx) (fun r e => by cases e; exact ⟨Nat.le_refl _, iter_walk hI1⟩)
      have hJ2 : J ds (w'.alloc (.cells #[.string x.path, .int .u64 x.num, .string x.foot, .int .i64 x.mode, .int .u64 x.n, .int .i64 x.stamp] 115)) := hJ _ _ _ none hJ1 (World.grownBy_alloc _ _ none) (fun r e => by cases e)
      have hI3 : IterAt Tryz.prog 160 (w'.alloc (.cells #[.string x.path, .int .u64 x.num, .string x.foot, .int .i64 x.mode, .int .u64 x.n, .int .i64 x.stamp] 115)) W.heap.size b es (done ++ [(pk, x.val)]) := (Part.iter _ _ _ _ _ _).stay _ _ hI2 (fun q hq => Below.heap_alloc _ _ _ ((Part.iter _ _ _ _ _ _).lt _ hI2 q hq))
      obtain ⟨fn, tmps, assign, body, hy, hR⟩ := hY ds x _ hJ2 hlen
      have hen := hI2.entry
      have hs0 := seenOf_eq hI1
      have hes' := Lib.hid hes
      have hd' := Lib.hid hd
      have hs' := Lib.hid hs0
      have hle := hI2.len
      clear hes hd hs0 hpk hp hne hx
      unfold Ent.val at hrun hen hy
      gi_wp2
      refine hR.mono ?_
      rintro e W3 (⟨rfl, hJ3, hk3⟩ | ⟨rfl, hJx3⟩)
      · gi_wp2
        go_roundw
        case rel => exact ⟨done ++ [(pk, x.val)], ds ++ [x], iter_keeps hI3 hk3, by simp [hd'.out], hJ3⟩
        case measure =>
          have e1 := seenOf_eq (iter_keeps hI3 hk3)
          have e2 := hs'.out
          rw [e1, e2]
          simp at hle ⊢
          omega
      · gi_wp2
        refine bodyPost_ret (results_none rfl _ _ _) rfl ?_
        exact ⟨⟨_, rfl⟩, .inr ⟨_, trivial, hJx3⟩⟩

theorem vals_in (F : Fence) (n : Nat) (h1 : F.fn 97) (hro : F.round = none) (mb : Option Nat) (w : World) :
    CallsIn F n Tryz.prog 97 #[.map mb] w fun e w' => e = .returned (.func (.func 132) #[] #[.pointer (some ⟨w.heap.size, 0, none⟩)]) ∧ w' = w.alloc (.cells #[.map mb] 120) := by
  refine callsIn_of_wp Tryz.func97 rfl h1 ?_ hro
  simp only [Tryz.ntmps97, List.size_toArray, List.length_cons, List.length_nil, Nat.reduceAdd, Nat.reduceSub, Array.replicate_succ, Array.replicate_zero, List.push_toArray, List.append_toArray, List.nil_append, List.cons_append]
  gi_wp2
  go_ret
  exact ⟨rfl, rfl⟩

/-- the values' iterator, as a contract -/
theorem vals_stops (F : Fence) (n : Nat) (h1 : F.fn 132) (hro : F.round = none) (hn : 1 ≤ n) (Bm b : Nat) (es : List (Value × Value)) (ks : List (Ent)) (hes : es.map (·.2) = ks.map Ent.val) (w : World) (hBm : Bm < w.heap.size)
    (hm : w.cell? ⟨Bm, 0, none⟩ = some (.map (some b))) (hM : MapAt Tryz.prog 160 w b es) :
    SeqStopsK F n Tryz.prog 132 #[.pointer (some ⟨Bm, 0, none⟩)] (fun x : Ent => #[x.val]) KeepsWalks (fun ys => ys.Perm ks) (fun _ => True) ks.length w := fun l J Jx W hW hJ _ hY h0 =>
  vals1_in F n h1 hro hn l Bm b es ks hes J Jx W hJ hY ((hW.cell (p := ⟨Bm, 0, none⟩) hBm).trans hm) (hM.same (hW.block b hM.lt)) h0

/-! ### slices.AppendSeq, slices.Collect -/
theorem infoID : (Tryz.prog.info? 115).map (fun i => (i.zero, i.size, i.bytes)) = some (some (.agg #[.string .empty, .int .u64 0, .string .empty, .int .i64 0, .int .u64 0, .int .i64 0]), 6, 64) := by kernel_rfl
theorem six_new (W : World) (a b c d e f : Value) (t : TypeId) : ∀ (j : Nat) (u : Value), [a, b, c, d, e, f][j]? = some u → (W.alloc (.cells #[a, b, c, d, e, f] t)).cell? ((⟨W.heap.size, 0, none⟩ : Addr).add j) = some u := by
  intro j u h
  match j, h with
  | 0, h => simp at h; subst h; simp [Addr.add]
  | 1, h => simp at h; subst h; simp [Addr.add]
  | 2, h => simp at h; subst h; simp [Addr.add]
  | 3, h => simp at h; subst h; simp [Addr.add]
  | 4, h => simp at h; subst h; simp [Addr.add]
  | 5, h => simp at h; subst h; simp [Addr.add]
  | j + 6, h => simp at h
def MidI (w : World) (pre : List (Ent)) (W : World) : Prop :=
  (∃ v, Boxed W w.heap.size 130 v ∧ W.ownsRow w.heap.size 115 6 v pre.length (pre.flatMap Ent.cells) ∧ (v = .slice none 0 0 ↔ pre = [])) ∧ Below w.heap.size w W
theorem midI_own (w : World) (B : Nat) (hB : w.heap.size ≤ B) : OwnFrom B (MidI w) :=
  OwnFrom.and (Own.from (holdsRow_own w.heap.size w.heap.size 130 115 6 (fun pre => pre.length) (fun pre => pre.flatMap Ent.cells) (fun pre v => v = .slice none 0 0 ↔ pre = [])) _) (ownFrom_below (Nat.le_refl _) hB)
def MidAx (w : World) (sv : Value) (x : Ent) (a' : Act) (W : World) : Prop :=
  ∃ Bx, w.heap.size < Bx ∧ Box W Bx 115 #[.string x.path, .int .u64 x.num, .string x.foot, .int .i64 x.mode, .int .u64 x.n, .int .i64 x.stamp] ∧ a' = { tmps := #[.slice none 0 0, sv, .pointer (some ⟨w.heap.size, 0, none⟩), undef, .slice none 0 0, .pointer (some ⟨Bx, 0, none⟩), sv, x.val, undef, undef, undef, undef, undef], defers := [] }
theorem midAx_own (w : World) (sv : Value) (B : Nat) (x : Ent) (a' : Act) : OwnFrom B (fun (_ : Unit) W => MidAx w sv x a' W) := by
  rintro s X Y row ⟨Bx, h1, h2, h3⟩ hg hr
  exact ⟨Bx, h1, (Box.own (β := Unit) Bx _ _).from B () X Y row h2 hg hr, h3⟩

set_option maxRecDepth 100000 in
set_option maxHeartbeats 2000000 in
theorem appendSeq_in (F : Fence) (n : Nat) (hF : F.fn 131) (hro : F.round = none) (hn : 3 ≤ n) (gf : Nat) (lb : Array Value) (hFg : F.fn gf) (eg : ∀ args w, (callFunc gf args).run Tryz.prog w = .ok (.enter gf args) w)
    (S Sp : List (Ent) → Prop) (N : Nat) (hN : N ≤ 100000000) (w : World) (hseq : SeqStopsK F (n - 1) Tryz.prog gf lb (fun x : Ent => #[x.val]) KeepsWalks S Sp N w) :
    CallsIn F n Tryz.prog 131 #[.slice none 0 0, .func (.func gf) #[] lb] w fun e w' => ∃ (v : Value) (ss : List (Ent)), e = .returned v ∧ S ss ∧ w'.ownsRow w.heap.size 115 6 v ss.length (ss.flatMap Ent.cells) ∧ (v = .slice none 0 0 ↔ ss = []) ∧ Below w.heap.size w w' := by
  have h1 : 1 ≤ n := by omega
  obtain ⟨i0, hi, hz0, hz1, hz2⟩ := info_parts infoID
  refine callsIn_of_wp_marks Tryz.func131 rfl hF ?_ hro
  simp only [Tryz.ntmps131, List.size_toArray, List.length_cons, List.length_nil, Nat.reduceAdd, Nat.reduceSub, Array.replicate_succ, Array.replicate_zero, List.push_toArray, List.append_toArray, List.nil_append, List.cons_append]
  gi_wp2
  have bO := Boxed.new w 130 (.slice none 0 0)
  have hB0 : Below w.heap.size w (w.alloc (.cells #[.slice none 0 0] 130)) := (Below.refl _ w).alloc (Nat.le_refl _) _
  refine wpIn_rangeFunc_ownH hro h1 (gf := gf) (lb := lb) rfl hFg eg hseq walksK_t walksK_b hB0 (fun _ => rfl)
    (MidI w) (fun _ _ _ => False) (midI_own w _ (by simp)) (fun _ _ _ _ _ hs _ _ => hs)
    ⟨⟨_, bO, World.ownsRow_nil _ _ _ _, by simp⟩, hB0⟩
    (MidAx w (.func (.func gf) #[] lb)) (fun x a' => midAx_own w _ _ x a') ?assign ?body ?done ?stop
  case assign =>
    rintro l pre x W K ⟨⟨v, hv, hrow, hnil⟩, hB⟩ hK
    have hsz := hB.size
    unfold Ent.val
    gi_wp2
    refine hK _ _ ((KeepsOthers.alloc _ _).from _) (KeepsWalks.alloc _ _) ⟨⟨v, hv.alloc _, hrow.alloc _, hnil⟩, hB.alloc hB.size _⟩ ⟨W.heap.size, hv.lt, World.alloc_heap_new W _, rfl⟩
  case body =>
    rintro l pre x a' W hl ⟨r, hr⟩ ⟨⟨v, hv, hrow, hnil⟩, hB⟩ ⟨Bx, hBx, bX, rfl⟩ hlt
    have hc := hv.cell
    have c0 : W.cell? ⟨Bx, 0, none⟩ = some (.string x.path) := by unfold Box at bX; simp [World.cell?, bX]
    have c1 : W.cell? ⟨Bx, 1, none⟩ = some (.int .u64 x.num) := by unfold Box at bX; simp [World.cell?, bX]
    have c2 : W.cell? ⟨Bx, 2, none⟩ = some (.string x.foot) := by unfold Box at bX; simp [World.cell?, bX]
    have c3 : W.cell? ⟨Bx, 3, none⟩ = some (.int .i64 x.mode) := by unfold Box at bX; simp [World.cell?, bX]
    have c4 : W.cell? ⟨Bx, 4, none⟩ = some (.int .u64 x.n) := by unfold Box at bX; simp [World.cell?, bX]
    have c5 : W.cell? ⟨Bx, 5, none⟩ = some (.int .i64 x.stamp) := by unfold Box at bX; simp [World.cell?, bX]
    have hsz := hB.size
    gi_wp2_with (gi_at_builtin; refine wpListIn_append_own _ rfl _ _ 130 rfl w.heap.size 115 i0 (.agg #[.string .empty, .int .u64 0, .string .empty, .int .i64 0, .int .u64 0, .int .i64 0]) 6 64 Tryz.underlying130 hi hz0 hz1 hz2 rfl (by decide) _ _ _ rfl (hrow.alloc _) ⟨W.heap.size, 0, none⟩ 1 1 [.string x.path, .int .u64 x.num, .string x.foot, .int .i64 x.mode, .int .u64 x.n, .int .i64 x.stamp] rfl rfl (six_new _ _ _ _ _ _ _ _) (by simp [Value.oneCell']) (by unfold maxLen; omega) (by omega) (by simp; omega) ?_; intro v' w1 hown' hgrow _; obtain ⟨g', cap', rfl⟩ := ownsRow_succ hown'; obtain ⟨hv1, hv2, hr2, hk2, hb2⟩ := hv.appended (by decide) hrow hB.size (Nat.le_refl _) hown' hgrow; have hc1 := hv1.cell; have hf1 := hv1.frozen)
    exact ⟨hk2.from _, hk2.walks, ⟨_, hv2, by simpa [Ent.cells] using hr2, by simp⟩, hB.trans hb2⟩
  case done =>
    rintro D ys W hD hS ⟨⟨v, hv, hrow, hnil⟩, hB⟩ hK
    have hc := hv.cell
    gi_wp2
    refine ⟨by simp, .inl ⟨_, _, rfl, run_takeDeferred hK, ?_⟩⟩
    exact ⟨_, results_tmp rfl _ _ _, v, ys, rfl, hS, ownsRow_putObj hrow _ hK rfl, hnil, hB.trans (belowK_b (w := w) (Nat.le_refl _) W D _ _ (by simp at hD; omega) hK rfl rfl)⟩
  case stop =>
    rintro D c pre W _ _ h _
    exact h.elim

/-! ### slices.Collect -/
set_option maxRecDepth 100000 in
set_option maxHeartbeats 2000000 in
theorem collect_in (F : Fence) (n : Nat) (hF : F.fn 96) (hF2 : F.fn 131) (hro : F.round = none) (hn : 4 ≤ n) (gf : Nat) (lb : Array Value) (hFg : F.fn gf) (eg : ∀ args w, (callFunc gf args).run Tryz.prog w = .ok (.enter gf args) w)
    (S Sp : List (Ent) → Prop) (N : Nat) (hN : N ≤ 100000000) (w : World) (hseq : SeqStopsK F (n - 1 - 1) Tryz.prog gf lb (fun x : Ent => #[x.val]) KeepsWalks S Sp N w) :
    CallsIn F n Tryz.prog 96 #[.func (.func gf) #[] lb] w fun e w' => ∃ (v : Value) (ss : List (Ent)), e = .returned v ∧ S ss ∧ w'.ownsRow w.heap.size 115 6 v ss.length (ss.flatMap Ent.cells) ∧ (v = .slice none 0 0 ↔ ss = []) ∧ Below w.heap.size w w' := by
  have h1 : 1 ≤ n := by omega
  refine callsIn_of_wp Tryz.func96 rfl hF ?_ hro
  simp only [Tryz.ntmps96, List.size_toArray, List.length_cons, List.length_nil, Nat.reduceAdd, Nat.reduceSub, Array.replicate_succ, Array.replicate_zero, List.push_toArray, List.append_toArray, List.nil_append, List.cons_append]
  gi_wp2_with (gi_at_call 131; refine (appendSeq_in F (n - 1) hF2 hro (by omega) gf lb hFg eg S Sp N hN _ hseq).mono ?_; rintro e W ⟨v, ss, rfl, hS, hrow, hnil, hb⟩)
  go_ret
  exact ⟨v, ss, rfl, hS, hrow, hnil, hb⟩
theorem collect_vals (Bm b : Nat) (es : List (Value × Value)) (ks : List (Ent)) (hes : es.map (·.2) = ks.map Ent.val) (w : World) (hBm : Bm < w.heap.size) (hm : w.cell? ⟨Bm, 0, none⟩ = some (.map (some b))) (hM : MapAt Tryz.prog 160 w b es) (hN : ks.length ≤ 100000000) :
    Calls Tryz.prog 96 #[.func (.func 132) #[] #[.pointer (some ⟨Bm, 0, none⟩)]] w fun e w' => ∃ (v : Value) (ss : List (Ent)), e = .returned v ∧ ss.Perm ks ∧ w'.ownsRow w.heap.size 115 6 v ss.length (ss.flatMap Ent.cells) ∧ (v = .slice none 0 0 ↔ ss = []) ∧ Below w.heap.size w w' :=
  callsIn_wide.1 (collect_in Fence.wide 5 trivial trivial rfl (by omega) _ _ trivial (enters_of Tryz.func132 (by kernel_rfl) rfl) _ _ ks.length hN w
    (vals_stops Fence.wide _ trivial rfl (by omega) Bm b es ks hes w hBm hm hM))
end Go.Proofs.YtalfoiodejoicaaGreatDoor.Lock
end

section
namespace Go.Proofs.YtalfoiodejoicaaGreatDoor.Mark
open Go.RowKit Go.Shelf Go.Sort
open Go.Maps (Keyed)
set_option linter.unusedSimpArgs false
set_option linter.unusedVariables false

/-! ### Rows that are sorted -/
section
variable {α : Type} [Inhabited α]
theorem flatK_list (enc : α → List Value) (k : Nat) (hk : ∀ x, (enc x).length = k) (l : List α) : (flatK enc k l.toArray).toList = l.flatMap enc := by
  apply List.ext_getElem?
  intro t
  by_cases ht : t < l.length * k
  · have hk0 : 0 < k := by
      rcases Nat.eq_zero_or_pos k with h | h
      · subst h; omega
      · exact h
    have hq : t / k < l.length := Nat.div_lt_of_lt_mul (by rw [Nat.mul_comm]; exact ht)
    have e := flat_at enc k hk l (t / k) l[t / k] (List.getElem?_eq_getElem hq) (t % k) (Nat.mod_lt _ hk0)
    rw [Nat.mul_comm, Nat.div_add_mod] at e
    rw [e, Array.getElem?_toList]
    have hm : t % k < (enc l[t / k]).length := by rw [hk]; exact Nat.mod_lt _ hk0
    simp [flatK, ht, hq, hm]
  · rw [List.getElem?_eq_none (by simp; omega), List.getElem?_eq_none (by rw [flat_len enc k hk]; omega)]
theorem heap_sortedK {w : World} {g n : Nat} {os : Array Obj} {cur : Array Value} {e : TypeId} {fr : Nat × Nat} (F : Array Value) (hb : w.heap[g]? = some (.cells cur e fr)) :
    (grow (putRow id (Sort.ahead w n) g 0 F) os).heap[g]? = some (.cells (putCells id 0 F cur) e fr) := by
  have hg : g < w.heap.size := (Array.getElem?_eq_some_iff.1 hb).1
  rw [heap_grow_old _ _ (by simpa using hg)]
  simp [putRow, mapBlock, Sort.ahead, Array.getElem?_modify, hb, onCells]
theorem grownBy_sortedK {w : World} {g n : Nat} {os : Array Obj} (F : Array Value) : w.grownBy (grow (putRow id (Sort.ahead w n) g 0 F) os) (some g) := by
  refine ⟨rfl, rfl, rfl, by simp, fun k hk hne => ?_⟩
  rw [heap_grow_old _ _ (by simpa using hk)]
  have : g ≠ k := fun e => hne (by rw [e])
  simp [putRow, mapBlock, Sort.ahead, Array.getElem?_modify, this]
theorem take_putK (cur F : Array Value) (h : F.size ≤ cur.size) : (putCells id 0 F cur).toList.take F.size = F.toList := by
  apply List.ext_getElem?
  intro j
  by_cases hj : j < F.size
  · rw [List.getElem?_take_of_lt hj, Array.getElem?_toList]
    simp [putCells, hj, show j < cur.size by omega]
  · rw [List.getElem?_take_eq_none (by omega), List.getElem?_eq_none (by simp; omega)]
theorem own_sorted (enc : α → List Value) (k : Nat) (hk : ∀ x, (enc x).length = k) {w : World} {base g cap n : Nat} {e : TypeId} {os : Array Obj} {cur : Array Value} {ss ts : List α} (hl : ts.length = ss.length) (hbase : base ≤ g) (hb : w.heap[g]? = some (.cells cur e (0, 0)))
    (h1 : ss.length ≤ cap) (h2 : cap ≤ maxLen) (h3 : cur.size = cap * k) :
    (sortWorldK enc k w g 0 n ts.toArray os).ownsRow base e k (.slice (some ⟨g, 0, none⟩) ss.length cap) ss.length (ts.flatMap enc) := by
  have hsz : (flatK enc k ts.toArray).size = ss.length * k := by simp [hl]
  refine ⟨by rw [flat_len enc k hk, hl], .inr ⟨g, cap, _, rfl, hbase, heap_sortedK (flatK enc k ts.toArray) hb, h1, h2, by simp [putCells, h3], ?_⟩⟩
  have := take_putK cur (flatK enc k ts.toArray) (by rw [hsz, h3]; exact Nat.mul_le_mul_right _ h1)
  rw [hsz, flatK_list enc k hk] at this
  exact this
theorem holdsK_of (enc : α → List Value) (k : Nat) (hk : ∀ x, (enc x).length = k) {w : World} {g : Nat} {cur : Array Value} {e : TypeId} {ss : List α} (hb : w.heap[g]? = some (.cells cur e (0, 0))) (ht : cur.toList.take (ss.length * k) = ss.flatMap enc) : HoldsK enc k w g 0 ss.toArray := by
  intro j hj
  have hj' : j < ss.length * k := by simpa using hj
  refine ⟨?_, by simp [World.frozen?, hb]⟩
  have h1 : (cur.toList.take (ss.length * k))[j]? = (flatK enc k ss.toArray).toList[j]? := by rw [ht, flatK_list enc k hk]
  rw [List.getElem?_take_of_lt hj', Array.getElem?_toList, Array.getElem?_toList, Array.getElem?_eq_getElem hj] at h1
  simp only [World.cell?, hb, Nat.zero_add]
  simp only [Option.isSome_none, Bool.false_eq_true, if_false]
  rw [h1, getElem!_pos _ j hj]
  rfl
end

/-! ### slices.Collect, slices.SortFunc, slices.SortedFunc -/
theorem idL_len (x : Int × Int) : (idL x).length = 2 := rfl
theorem idL_one (x : Int × Int) : ∀ v ∈ idL x, v.oneCell' = true := by
  intro u hu
  simp only [idL, List.mem_cons, List.not_mem_nil, or_false] at hu
  rcases hu with rfl | rfl <;> rfl
theorem sort_len (l : List (Int × Int)) : (sortID l).length = l.length := List.length_mergeSort l
theorem sort_perm {l m : List (Int × Int)} (h : l.Perm m) : sortID l = sortID m := by
  have hp : (sortID l).Perm (sortID m) := (List.mergeSort_perm l _).trans (h.trans (List.mergeSort_perm m _).symm)
  have tr : ∀ a b c : Int × Int, (!ltOf cmpID b a) = true → (!ltOf cmpID c b) = true → (!ltOf cmpID c a) = true := by
    intro a b c h1 h2
    rw [cmpID_lt] at *
    simp only [Bool.not_eq_true', decide_eq_false_iff_not] at *
    unfold ltID at *
    omega
  have tot : ∀ a b : Int × Int, ((!ltOf cmpID b a) || !ltOf cmpID a b) = true := by
    intro a b
    rw [cmpID_lt, cmpID_lt]
    simp only [Bool.or_eq_true, Bool.not_eq_true', decide_eq_false_iff_not]
    unfold ltID
    omega
  refine List.Perm.eq_of_pairwise (le := fun a b => (!ltOf cmpID b a) = true) ?_ (List.pairwise_mergeSort tr tot l) (List.pairwise_mergeSort tr tot m) hp
  intro a b _ _ h1 h2
  exact totID a b (by simpa using h2) (by simpa using h1)
end Go.Proofs.YtalfoiodejoicaaGreatDoor.Mark
end

section
namespace Go.Proofs.YtalfoiodejoicaaGreatDoor
set_option linter.unusedVariables false
set_option linter.unusedSimpArgs false

/-! ### One operation -/
def resW {α : Type} : Result α → World
  | .ok _ w => w
  | .halt _ w => w
theorem ask_drawn {α : Type} : ∀ (x : Ask α) (w : World), w.drawn ≤ (w.ask x).2.drawn
  | .done a, w => Nat.le_refl _
  | .ask what range k, w => by
    unfold World.ask
    simp only []
    split
    · exact ask_drawn _ _
    · exact Nat.le_trans (Nat.le_succ _) (ask_drawn _ { w with drawn := w.drawn + 1 })
theorem sys_drawn (w : World) (c : Sys) : w.drawn ≤ (w.sys c).2.drawn := by
  unfold World.sys
  have h := ask_drawn (Kernel.perform c w.os) w
  split
  · exact Nat.le_refl _
  · rename_i he
    rw [he] at h
    exact h
theorem viewStore_drawn {p : Program} {w : World} {at_ : Addr} {u : TypeId} {k : Addr} {v : Value} {atomic : Bool} {r : World × List Addr} (h : w.viewStore p at_ u k v atomic = .ok r) : r.1.drawn = w.drawn := by
  unfold World.viewStore at h
  simp only [bind, Except.bind, pure, Except.pure, throw, throwThe, MonadExceptOf.throw] at h
  repeat' first
    | (cases h; done)
    | (cases h; rfl)
    | (simp at h; done)
    | split at h
theorem farStore_drawn {p : Program} {w : World} {a : Addr} {v : Value} {atomic : Bool} {r : World × List Addr} (h : w.farStore p a v atomic = .ok r) : r.1.drawn = w.drawn := by
  unfold World.farStore at h
  split at h
  · split at h
    · rename_i hv
      cases h
      exact viewStore_drawn hv
    · exact nomatch h
  · exact nomatch h
theorem run_drawn {α : Type} (p : Program) (x : Sem α) : ∀ w : World, w.drawn ≤ (resW (x.run p w)).drawn := by
  induction x with
  | pure a => exact fun w => Nat.le_refl _
  | load m a k ih =>
    intro w
    simp only [Sem.run]
    split
    · exact ih _ _
    · split
      · exact ih _ _
      · exact Nat.le_refl _
  | store m a v k ih =>
    intro w
    cases v
    all_goals
      simp only [Sem.run]
      try exact Nat.le_refl _
    all_goals
      split
      · split
        · exact Nat.le_refl _
        · exact ih (w.setCell a _)
      · split
        · rename_i hf
          exact Nat.le_trans (Nat.le_of_eq (farStore_drawn hf).symm) (ih _)
        · exact Nat.le_refl _
  | new o k ih => intro w; exact ih _ { w with heap := w.heap.push o }
  | shape r k ih => intro w; exact ih _ _
  | freeze a n k ih =>
    intro w
    refine Nat.le_trans (Nat.le_of_eq ?_) (ih (w.freeze a n))
    unfold World.freeze
    split <;> rfl
  | frozen a k ih => intro w; exact ih _ _
  | getObj r k ih =>
    intro w
    simp only [Sem.run]
    split
    · exact Nat.le_refl _
    · exact ih _ _
    · exact Nat.le_refl _
  | setObj r o k ih =>
    intro w
    simp only [Sem.run]
    split
    · exact Nat.le_refl _
    · exact ih { w with heap := w.heap.setIfInBounds r o }
    · exact Nat.le_refl _
  | choose q k ih =>
    intro w
    simp only [Sem.run]
    split
    · exact ih _ _
    · exact Nat.le_trans (Nat.le_succ _) (ih _ { w with drawn := w.drawn + 1 })
  | sys c k ih => intro w; exact Nat.le_trans (sys_drawn w c) (ih _ _)
  | program k ih => intro w; exact ih _ _
  | mark m k ih => intro w; exact ih _
  | halt h => exact fun w => Nat.le_refl _
theorem run_ok {α : Type} {p : Program} {x : Sem α} {w w' : World} {a : α} (h : x.run p w = .ok a w') : w.drawn ≤ w'.drawn := by
  have := run_drawn p x w
  rw [h] at this
  exact this
theorem run_halt {α : Type} {p : Program} {x : Sem α} {w w' : World} {a : Halt} (h : x.run p w = .halt a w') : w.drawn ≤ w'.drawn := by
  have := run_drawn p x w
  rw [h] at this
  exact this
theorem runT_ok {α : Type} {p : Program} {x : Sem α} {w w' : World} {a : α} {es es' : Array Event} (h : x.runT p w es = (.ok a w', es')) : w.drawn ≤ w'.drawn :=
  run_ok (p := p) (x := x) (by rw [← Sem.runT_fst p x w es, h])
theorem runT_halt {α : Type} {p : Program} {x : Sem α} {w w' : World} {a : Halt} {es es' : Array Event} (h : x.runT p w es = (.halt a w', es')) : w.drawn ≤ w'.drawn :=
  run_halt (p := p) (x := x) (by rw [← Sem.runT_fst p x w es, h])
theorem runT_res {α : Type} {p : Program} {x : Sem α} {w : World} {r : Result α} {es es' : Array Event} (h : x.runT p w es = (r, es')) : w.drawn ≤ (resW r).drawn := by
  have := run_drawn p x w
  rw [← Sem.runT_fst p x w es, h] at this
  exact this

/-! ### One step of a goroutine -/
def gw : GStep → World
  | .go _ w _ => w
  | .comm _ _ _ _ w _ => w
  | .spawn _ _ w _ => w
  | .count _ w _ => w
  | .timer _ _ w _ => w
  | .alone _ _ w _ => w
  | .newcoro _ _ _ w _ => w
  | .coroswitch _ _ _ w _ => w
  | .collect _ w _ => w
  | .watch _ w _ => w
  | .ended _ w _ => w
theorem gw_after (es : Array Event) (s : GStep) : gw (GStep.after es s) = gw s := by cases s <;> rfl
theorem le_ite {c : Prop} [Decidable c] {a b : GStep} {n : Nat} (h1 : n ≤ (gw a).drawn) (h2 : n ≤ (gw b).drawn) : n ≤ (gw (if c then a else b)).drawn := by split <;> assumption
theorem endWith_drawn (w : World) (fd : Nat) (text : ByteArray) (o : Outcome) : w.drawn ≤ (gw (endWith w fd text o)).drawn := by
  unfold endWith
  have h := sys_drawn w (.write fd text)
  simp only []
  split
  · rename_i he
    rw [he] at h
    split <;> exact h
  · rename_i he
    rw [he] at h
    exact h
  · rename_i he
    rw [he] at h
    exact h
theorem dieOf_drawn (fr : Frame) (a : List ByteArray) (m : String) (wh : Bool) (w : World) : gw (dieOf fr a m wh w) = w := rfl
theorem endThrow_drawn (fr : Frame) (m : String) (w : World) : gw (endThrow fr m w) = w := rfl
theorem endPrinting_drawn (p : Program) (fr : Frame) (v : Value) (w : World) : gw (endPrinting p fr v w) = w := by
  unfold endPrinting
  simp only []
  split
  · exact endThrow_drawn _ _ _
  · rfl
theorem endFatal_drawn (p : Program) (fr : Frame) (cs : List Frame) (d : Option Dying) (m : String) (w : World) : w.drawn ≤ (gw (endFatal p fr cs d m w)).drawn := by
  unfold endFatal
  simp only []
  split
  · rename_i h; rw [dieOf_drawn]; exact run_ok h
  · rename_i h; exact run_halt h
  · rename_i h; exact run_halt h
theorem writeOn_drawn (p : Program) (fr : Frame) (d : Dying) (f : Fatal) (w : World) : w.drawn ≤ (gw (writeOn p fr d f w)).drawn := by
  unfold writeOn
  simp only []
  split
  · exact Nat.le_refl _
  · split
    · rename_i h; exact runT_ok h
    · rename_i h; exact runT_halt h
    · rename_i h; exact runT_halt h
    · rename_i h; exact runT_halt h
theorem die_drawn (p : Program) (fr : Frame) (d : Dying) (w : World) : w.drawn ≤ (gw (die p fr d w)).drawn := by
  unfold die
  split
  · exact writeOn_drawn _ _ _ _ _
  · split
    · split
      · exact Nat.le_refl _
      · exact endWith_drawn _ _ _ _
    · simp only []
      split
      · exact Nat.le_refl _
      · split
        · rename_i h; exact run_ok h
        · rename_i h; exact run_halt h
      · rw [gw_after]
        simp only [Sem.runT_fst]
        split
        all_goals first
          | exact Nat.le_refl _
          | (rename_i h; exact run_ok h)
          | (rename_i h; exact run_halt h)
          | (rename_i h; rw [endPrinting_drawn]; exact run_halt h)
      · exact Nat.le_refl _
theorem doReturn_drawn (p : Program) (main : Bool) (fr : Frame) (cs : List Frame) (d : Option Dying) (v : Value) (w : World) : gw (doReturn p main fr cs d v w) = w := by
  unfold doReturn
  repeat' first
    | rfl
    | split
    | simp only []
theorem callDeferred_drawn (p : Program) (fr : Frame) (cs : List Frame) (dy : Option Dying) (d : Deferred) (w : World) : w.drawn ≤ (gw (callDeferred p fr cs dy d w)).drawn := by
  unfold callDeferred
  refine le_ite (Nat.le_refl _) ?_
  · simp only []
    rw [gw_after]
    simp only [Sem.runT_fst]
    split
    all_goals first
      | (rename_i h; exact run_ok h)
      | (rename_i h; exact run_halt h)
      | (rename_i h; exact Nat.le_trans (run_halt h) (endFatal_drawn _ _ _ _ _ _))
      | (rename_i h; rw [endThrow_drawn]; exact run_halt h)
      | (rename_i h; split <;> exact run_ok h)
theorem unwind_drawn (p : Program) (main : Bool) (fr : Frame) (cs : List Frame) (dy : Option Dying) (w : World) : w.drawn ≤ (gw (unwind p main fr cs dy w)).drawn := by
  unfold unwind
  split
  · simp only []
    rw [gw_after]
    simp only [Sem.runT_fst]
    split
    · rename_i h; exact run_ok h
    · rename_i h; exact run_halt h
  · exact callDeferred_drawn _ _ _ _ _ _
  · split
    · exact Nat.le_refl _
    · split
      · exact Nat.le_refl _
      · split
        · exact Nat.le_refl _
        · split
          · split
            · exact Nat.le_refl _
            · split
              all_goals (rename_i h; first | exact run_ok h | exact run_halt h)
          · split
            · rw [endPrinting_drawn]; exact Nat.le_refl _
            · exact Nat.le_refl _
    · split
      · rw [doReturn_drawn]; exact Nat.le_refl _
      · simp only []
        rw [gw_after]
        simp only [Sem.runT_fst]
        split
        · rename_i h; rw [doReturn_drawn]; exact run_ok h
        · rename_i h; exact run_halt h
        · rename_i h; exact run_halt h
theorem early_drawn (p : Program) (fr : Frame) (cs : List Frame) (dy : Option Dying) (g : Nat) (w : World) : w.drawn ≤ (gw (early p fr cs dy g w)).drawn := by
  have key : ∀ w1 : World, w.drawn ≤ w1.drawn → w.drawn ≤ (gw (match w1.heap[g]? with
    | some (.pending c elem) => GStep.go { frame := fr, callers := cs, status := .running, dying := dy } { w1 with heap := w1.heap.setIfInBounds g (.cells c elem) }
    | _ => .ended (.stuck "early: the variable does not wait" (fr.pos p)) w1)).drawn := by
    intro w1 h
    split <;> exact h
  unfold early
  simp only []
  split
  · exact key w (Nat.le_refl _)
  · split
    · exact Nat.le_refl _
    · split
      · exact key w (Nat.le_refl _)
      · split
        · exact key w (Nat.le_refl _)
        · split
          · exact Nat.le_refl _
          · exact Nat.le_refl _
          · exact Nat.le_refl _
          · exact key w (Nat.le_refl _)
          · split
            · exact Nat.le_refl _
            · split
              · exact key w (Nat.le_refl _)
              · split
                · rename_i h; exact key _ (run_ok h)
                · rename_i h; exact run_ok h
                · rename_i h; exact run_halt h
theorem apply_drawn (p : Program) (listen : Bool) (fr : Frame) (cs : List Frame) (dy : Option Dying) (x : Sem Next) (w : World) : w.drawn ≤ (gw (stepG.apply p listen fr cs dy x w)).drawn := by
  unfold stepG.apply
  simp only []
  rw [gw_after]
  have hr : ∀ r es, (if listen = true then x.runT p w #[] else (x.run p w, #[])) = (r, es) → x.run p w = r := by
    intro r es h
    split at h
    · rw [← Sem.runT_fst p x w #[], h]
    · exact congrArg Prod.fst h
  generalize hq : (if listen = true then x.runT p w #[] else (x.run p w, #[])) = q at *
  obtain ⟨r, es⟩ := q
  have h0 := hr r es rfl
  clear hr hq
  simp only []
  split
  all_goals first
    | (subst_vars; exact run_ok ‹_›)
    | (exact run_ok h0)
    | (exact run_halt h0)
    | (exact Nat.le_trans (run_halt h0) (endFatal_drawn _ _ _ _ _ _))
    | (exact Nat.le_trans (run_halt h0) (early_drawn _ _ _ _ _ _))
    | (rw [endThrow_drawn]; exact run_halt h0)
    | (refine le_ite ?_ (run_ok h0); rw [endThrow_drawn]; exact run_ok h0)
    | (split <;> first | exact run_ok h0 | (rw [endThrow_drawn]; exact run_ok h0))
theorem oper_drawn (p : Program) (listen : Bool) (fr : Frame) (cs : List Frame) (dy : Option Dying) (w : World) : w.drawn ≤ (gw (stepG.oper p listen fr cs dy w)).drawn := by
  unfold stepG.oper
  split
  · exact Nat.le_refl _
  · split
    · exact apply_drawn _ _ _ _ _ _ _
    · exact apply_drawn _ _ _ _ _ _ _
theorem exec_drawn (p : Program) (main listen : Bool) (fr : Frame) (cs : List Frame) (dy : Option Dying) (w : World) : w.drawn ≤ (gw (stepG.exec p main listen fr cs dy w)).drawn := by
  unfold stepG.exec
  simp only []
  split
  all_goals first
    | exact Nat.le_refl _
    | exact apply_drawn _ _ _ _ _ _ _
    | (split; exact le_ite (Nat.le_refl _) (Nat.le_refl _); (rw [gw_after]; simp only [Sem.runT_fst]; split; (rename_i h; rw [doReturn_drawn]; exact run_ok h); (rename_i h; exact run_halt h)))
    | (split <;> exact Nat.le_refl _)
    | (generalize exitTo _ _ = o; cases o; (simp only [Option.elim_none]; (split; exact le_ite (Nat.le_refl _) (Nat.le_refl _); (rw [gw_after]; simp only [Sem.runT_fst]; split; (rename_i h; rw [doReturn_drawn]; exact run_ok h); (rename_i h; exact run_halt h)))); exact Nat.le_refl _)
    | (generalize gotoIn _ _ = o; cases o; (simp only [Option.elim_none]; (split; exact le_ite (Nat.le_refl _) (Nat.le_refl _); (rw [gw_after]; simp only [Sem.runT_fst]; split; (rename_i h; rw [doReturn_drawn]; exact run_ok h); (rename_i h; exact run_halt h)))); exact Nat.le_refl _)
    | (generalize Extern.next _ = o; cases o; exact Nat.le_refl _; exact apply_drawn _ _ _ _ _ _ _)
    | (refine le_ite (oper_drawn _ _ _ _ _ _) (Nat.le_refl _))
    | (refine le_ite (Nat.le_refl _) ?_; split; (rename_i h; exact run_ok h); (rename_i h; exact run_halt h))
    | (rw [gw_after]; simp only [Sem.runT_fst]; split; (rename_i h; exact Nat.le_trans (run_ok h) (apply_drawn _ _ _ _ _ _ _)); (rename_i h; exact run_halt h))
    | (rw [gw_after]; simp only [Sem.runT_fst]; split; (rename_i h; exact run_ok h); (rename_i h; exact run_halt h); (rename_i h; exact run_halt h))
theorem stepG_drawn (p : Program) (main : Bool) (g : Goroutine) (w : World) (listen : Bool) : w.drawn ≤ (gw (stepG p main g w listen)).drawn := by
  unfold stepG
  simp only []
  split
  · exact die_drawn _ _ _ _
  · exact exec_drawn _ _ _ _ _ _ _
  · exact unwind_drawn _ _ _ _ _ _

/-! ### One step of the machine -/
theorem communicate_drawn (p : Program) (rest : Rest) (gs : Array Goroutine) (i : Nat) (g : Goroutine) (cases : Array CommCase) (blocking : Bool)
    (shape : CommShape) (w : World) (m' : Machine) (h : (communicate p rest gs i g cases blocking shape w).1 = .next m') : w.drawn ≤ m'.world.drawn := by
  have wa : ∀ w1, waitingAt rest cases w = some w1 → w1.drawn = w.drawn := by
    intro w1 hw
    unfold waitingAt at hw
    split at hw
    · split at hw
      · cases hw; rfl
      · cases hw
    · cases hw; rfl
  unfold communicate at h
  simp only [] at h
  split at h
  · simp at h
  · split at h
    · split at h
      · split at h
        · simp only [Stepped.next.injEq] at h; subst h; exact Nat.le_of_eq (wa _ ‹_›).symm
        · simp at h
      · simp only [Stepped.next.injEq] at h; subst h; exact Nat.le_refl _
    · generalize hq : Sem.run p _ w = q at h
      cases q with
      | halt a w1 => simp at h
      | ok a w1 =>
        obtain ⟨k, c, way⟩ := a
        have h1 := run_ok hq
        clear hq
        simp only [] at h
        repeat' first
          | (simp at h; done)
          | (simp only [Stepped.next.injEq] at h; subst h; exact h1)
          | (simp only [Stepped.next.injEq] at h; subst h; exact Nat.le_trans h1 (run_ok ‹_›))
          | (simp only [Stepped.next.injEq] at h; subst h; exact Nat.le_trans h1 (run_halt ‹_›))
          | (generalize hq : Sem.run p (choose _) _ = q at h; cases q; (have h2 := Nat.le_trans h1 (run_ok hq); clear hq; simp only [Stepped.next.injEq] at h; subst h; exact h2); (simp at h; done))
          | split at h
theorem look_drawn (p : Program) (gs : Array Goroutine) (rest : Rest) (w : World) (m' : Machine) (h : look p gs rest w = .next m') : w.drawn ≤ m'.world.drawn := by
  unfold look at h
  simp only [] at h
  split at h
  · split at h
    · simp at h
    · split at h
      · simp at h
      · generalize hq : Sem.run p _ w = q at h
        cases q with
        | halt a w1 =>
          clear hq
          cases a <;> simp at h
        | ok a w1 =>
          obtain ⟨f, c⟩ := a
          have h1 := run_ok hq
          clear hq
          simp only [Stepped.next.injEq] at h
          subst h
          exact h1
  · simp at h
theorem timerOp_drawn (m m' : Machine) (op : TimerOp) (v : Value) (h : timerOp m op = .ok (v, m')) : m'.world.drawn = m.world.drawn := by
  have op_ : ∀ var m1, timerOp.opened m var = some m1 → m1.world.drawn = m.world.drawn := by
    intro var m1 ho
    unfold timerOp.opened at ho
    split at ho
    · split at ho
      · cases ho; rfl
      · cases ho
    · cases ho; rfl
  have rt : ∀ (m1 : Machine) k t a b, (retime m1 k t a b).2.world.drawn = m1.world.drawn := by
    intro m1 k t a b
    unfold retime
    simp only []
    split
    · unfold drain
      split <;> rfl
    · rfl
  have nm : ∀ (m1 : Machine) var f (r : Value × Machine), (∀ k t, (f k t).2.world.drawn = m1.world.drawn) → timerOp.named m1 var f = .ok r → r.2.world.drawn = m1.world.drawn := by
    intro m1 var f r hf hr
    unfold timerOp.named at hr
    split at hr
    · cases hr; exact hf _ _
    · cases hr
  unfold timerOp at h
  repeat' first
    | (simp at h; done)
    | (simp only [Except.ok.injEq, Prod.mk.injEq] at h; obtain ⟨_, rfl⟩ := h; rfl)
    | (exact nm _ _ _ (v, m') (fun _ _ => rt _ _ _ _ _) h)
    | (rename_i ho; exact nm _ _ _ (v, m') (fun _ _ => (rt _ _ _ _ _).trans (op_ _ _ ho)) h)
    | split at h
theorem runT_drawn (p : Program) (m m' : Machine) (i : Nat) (b : Bool) (h : (runT p m i b).1 = .next m') : m.world.drawn ≤ m'.world.drawn := by
  simp only [runT] at h
  have hs := stepG_drawn p (i == 0) (m.gs.swapAt! i { (default : Goroutine) with status := .finished }).1 m.world b
  revert hs h
  generalize m.gs.swapAt! _ _ = gg
  generalize stepG p _ gg.1 m.world b = s
  intro h hs
  cases s <;> simp only [gw] at h hs
  all_goals first
    | (simp at h; done)
    | (exact Nat.le_trans hs (communicate_drawn _ _ _ _ _ _ _ _ _ _ h))
    | (exact Nat.le_trans hs (look_drawn _ _ _ _ _ h))
    | (simp only [Stepped.next.injEq] at h; subst h; exact hs)
    | (repeat' first
        | (simp at h; done)
        | (simp only [Stepped.next.injEq] at h; subst h; exact hs)
        | (simp only [Stepped.next.injEq] at h; subst h; exact Nat.le_trans hs (Nat.le_of_eq (timerOp_drawn _ _ _ _ ‹_›).symm))
        | (rename_i he; unfold endThrow dieOf at he; simp only [GStep.go.injEq] at he; obtain ⟨_, rfl, _⟩ := he; simp only [Stepped.next.injEq] at h; subst h; exact hs)
        | split at h)
theorem serve_drawn (p : Program) (m m' : Machine) (k : Nat) (h : serve p m k = .next m') : m'.world.drawn = m.world.drawn := by
  unfold serve at h
  simp only [] at h
  repeat' first
    | (simp at h; done)
    | (simp only [Stepped.next.injEq] at h; subst h; rfl)
    | split at h
def mvW : Move → Option World
  | .goroutine m _ => some m.world
  | .machine (.next m) _ => some m.world
  | .machine (.ended _ _) _ => none
theorem askOn_drawn (p : Program) (m : Machine) (w' : World) (h : mvW (askOn p m) = some w') : m.world.drawn ≤ w'.drawn := by
  unfold askOn at h
  simp only [] at h
  generalize hq : Sem.run p _ m.world = q at h
  cases q with
  | halt a w1 => simp [mvW] at h
  | ok k w1 =>
    have h1 : m.world.drawn ≤ w1.drawn := run_ok hq
    clear hq
    have pick : ∀ (m1 : Machine) (rs : List Nat) (w2 : World), m.world.drawn ≤ m1.world.drawn → mvW (match (choose (.sched rs.length)).run p m1.world with
      | .halt _ w => Move.machine (.ended (.stuck "sched" "") w)
      | .ok k world =>
        if rs.length ≤ 1 then .goroutine { m1 with world } (rs.getD k 0) else
        match (choose (.extern "sched.slice" 65536)).run p world with
        | .halt _ w => .machine (.ended (.stuck "sched.slice" "") w)
        | .ok n world => .goroutine { m1 with world, rest := { m1.rest with slice := if n = 0 then none else some (rs.getD k 0, n) } } (rs.getD k 0)) = some w2 → m.world.drawn ≤ w2.drawn := by
      intro m1 rs w2 h0 hm
      generalize hr : Sem.run p (choose (.sched rs.length)) m1.world = r at hm
      cases r with
      | halt a w3 => simp [mvW] at hm
      | ok k w3 =>
        have h2 := run_ok hr
        simp only [] at hm
        split at hm
        · simp only [mvW, Option.some.injEq] at hm; subst hm; exact Nat.le_trans h0 h2
        · generalize hs : Sem.run p (choose (.extern "sched.slice" 65536)) w3 = r at hm
          cases r with
          | halt a w4 => simp [mvW] at hm
          | ok n w4 =>
            have h3 := run_ok hs
            simp only [mvW, Option.some.injEq] at hm
            subst hm
            exact Nat.le_trans h0 (Nat.le_trans h2 h3)
    dsimp only at h
    split at h
    · generalize hs : serve p _ _ = s at h
      cases s with
      | next m2 =>
        simp only [mvW, Option.some.injEq] at h
        subst h
        rw [serve_drawn _ _ _ _ hs]
        exact h1
      | ended o w2 => simp [mvW] at h
    · split at h
      · split at h
        · simp only [mvW, Option.some.injEq] at h; subst h; exact h1
        · split at h
          · simp only [mvW, Option.some.injEq] at h; subst h; exact h1
          · split at h <;> simp [mvW] at h
      · split at h
        · exact pick { m with world := w1 } (runnable m.gs m.world.os.mono) _ h1 h
        · generalize hs : Sem.run p (choose (.extern "clock.wait" _)) w1 = s at h
          cases s with
          | halt a w2 => simp [mvW] at h
          | ok k w2 =>
            have h2 := run_ok hs
            rcases k with _ | _ | k
            · exact pick { m with world := w2 } _ _ (Nat.le_trans h1 h2) h
            · simp only [mvW, Option.some.injEq] at h; subst h; exact Nat.le_trans h1 h2
            · exact pick (Machine.advanceTo { m with world := w2 } _) _ _ (Nat.le_trans h1 h2) h
theorem ask_drawn' (p : Program) (m : Machine) (w' : World) (h : mvW (ask p m) = some w') : m.world.drawn ≤ w'.drawn := by
  unfold ask at h
  split at h
  · generalize hs : Sem.run p (choose (.extern "collector.look" 2)) m.world = s at h
    cases s with
    | halt a w2 => simp [mvW] at h
    | ok k w2 =>
      have h2 := run_ok hs
      rcases k with _ | _ | k
      · exact Nat.le_trans h2 (askOn_drawn p { m with world := w2 } w' h)
      · simp only [] at h
        generalize hl : look p m.gs m.rest w2 = l at h
        cases l with
        | next m2 => exact Nat.le_trans h2 (Nat.le_trans (look_drawn _ _ _ _ _ hl) (askOn_drawn p m2 w' h))
        | ended o w3 => simp [mvW] at h
      · exact Nat.le_trans h2 (askOn_drawn p { m with world := w2 } w' h)
  · exact askOn_drawn p m w' h
theorem move_drawn (p : Program) (m : Machine) (w' : World) (h : mvW (move p m) = some w') : m.world.drawn ≤ w'.drawn := by
  unfold move at h
  split at h
  · split at h
    · simp only [mvW, Option.some.injEq] at h; subst h; exact Nat.le_refl _
    · simp [mvW] at h
  · split at h
    · split at h
      · simp only [mvW, Option.some.injEq] at h; subst h; exact Nat.le_refl _
      · exact ask_drawn' p { m with rest := { m.rest with slice := none } } w' h
    · exact ask_drawn' p m w' h
theorem step_drawn (p : Program) (m m' : Machine) (h : step p m = .next m') : m.world.drawn ≤ m'.world.drawn := by
  unfold step stepT at h
  split at h
  · rename_i m1 i hm
    exact Nat.le_trans (move_drawn p m m1.world (by rw [hm]; rfl)) (runT_drawn _ _ _ _ _ h)
  · rename_i s ops hm
    simp only [] at h
    subst h
    exact move_drawn p m m'.world (by rw [hm]; rfl)
theorem steps_drawn {p : Program} {m m' : Machine} (h : Steps p m m') : m.world.drawn ≤ m'.world.drawn := by
  obtain ⟨n, hn⟩ := h
  induction n generalizing m with
  | zero => simp [runN] at hn; rw [hn]; exact Nat.le_refl _
  | succ n ih =>
    rw [runN] at hn
    split at hn
    · rename_i m1 h1
      exact Nat.le_trans (step_drawn p m m1 h1) (ih hn)
    · rename_i hno
      exact (hno _ hn).elim

/-- behind a call that returns no draw has been taken back -/
theorem calls_drawn {p : Program} {f : FuncId} {args : Array Value} {w : World} {R : Ending → World → Prop} (h : Calls p f args w R) (ho : ∀ w', ¬ R .outgrown w') : Calls p f args w fun e w' => R e w' ∧ w.drawn ≤ w'.drawn := by
  intro cs
  obtain ⟨e, w', fr, r, c, x⟩ := h cs
  refine ⟨e, w', fr, ⟨r, ?_⟩, c, x⟩
  cases e with
  | returned v => exact steps_drawn c
  | panicked ch => exact steps_drawn c
  | outgrown => exact absurd r (ho w')
end Go.Proofs.YtalfoiodejoicaaGreatDoor
end
