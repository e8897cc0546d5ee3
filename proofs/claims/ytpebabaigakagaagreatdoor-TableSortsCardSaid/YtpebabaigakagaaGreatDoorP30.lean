/- LockT, PathM, PathN, joined. -/
import Derived.RangeFuncNested
import Derived.RangeFuncBound
import Derived.RangeFuncCalls
import Derived.RangeFuncLeaves
import Derived.Shelf.Abstract
import Derived.WalkKit
import Derived.OwnWalkIn
import Derived.TacticsInMore
import Derived.LoopNIn
import Derived.LoopIn
import Derived.Maps.AppendAt
import Derived.Test.YtpebabaigakagaaGreatDoorP2
import Derived.Test.YtpebabaigakagaaGreatDoorP19
import Derived.Test.YtpebabaigakagaaGreatDoorP8
import Derived.Test.YtpebabaigakagaaGreatDoorChecked
import Derived.Test.YtpebabaigakagaaGreatDoorP7
import Derived.Deep.OwnRows
import Derived.Laws.OwnMore
set_option linter.unusedSimpArgs false
set_option linter.unusedVariables false
set_option maxRecDepth 100000
set_option maxHeartbeats 16000000
section
namespace Go.Proofs.YtpebabaigakagaaGreatDoor.Lock
open _root_.Go.Proofs.YtpebabaigakagaaGreatDoor.Mark (seenOf seenOf_eq iter_walk iter_keeps grown_of_exc grown_of_ext Box Box.own)
open Go.RowKit Go.Shelf
open Go.Maps (Keyed)
attribute [local go_sem] Oper.semAt_some
def unE2 : Value → Ent
 | .agg #[.string p, .int _ n, .string f, .int _ m, .int _ k, .int _ s] => ⟨p, n, f, m, k, s⟩
 | _ => nullE
theorem perm_of_val {l m : List Ent} (h : (l.map Ent.val).Perm (m.map Ent.val)) : l.Perm m := by
 have := h.map unE2
 have e : ∀ x : Ent, unE2 x.val = x := fun _ => rfl
 simpa [List.map_map, Function.comp_def, e] using this
theorem vals1_in (F : Fence) (n : Nat) (h1 : F.fn 57) (hro : F.round = none) (hn : 1 ≤ n) (l Bm b : Nat) (es : List (Value × Value)) (ks : List (Ent)) (hes : es.map (·.2) = ks.map Ent.val) (J Jx : List (Ent) → World → Prop)
 (W : World) (hJ : AbidesFrom W.heap.size J)
 (hY : ∀ pre x W1, J pre W1 → pre.length < ks.length → YieldAt F (n - 1) Tryz.prog l #[x.val] W1 fun e W' => (e = .returned (.bool true) ∧ J (pre ++ [x]) W' ∧ KeepsWalks W1 W') ∨ (e = .returned (.bool false) ∧ Jx (pre ++ [x]) W'))
 (hm : W.cell? ⟨Bm, 0, none⟩ = some (.map (some b))) (hM : MapAt Tryz.prog 90 W b es) (h0 : J [] W) :
 CallsIn F n Tryz.prog 57 #[.func (.yield l) #[] #[], .pointer (some ⟨Bm, 0, none⟩)] W fun e W' => (∃ v, e = .returned v) ∧ ((∃ ys, ys.Perm ks ∧ J ys W') ∨ (∃ pre, True ∧ Jx pre W')) := by
 obtain ⟨W0, hrun, hext, hI⟩ := IterAt.start hM Tryz.underlying88
 have hJ0 : J [] W0 := hJ _ W W0 none h0 (grown_of_ext hext) (fun r e => by cases e)
 refine callsIn_of_wp Tryz.func57 rfl h1 ?_ hro
 simp only [Tryz.ntmps57, List.size_toArray, List.length_cons, List.length_nil, Nat.reduceAdd, Nat.reduceSub, Array.replicate_succ, Array.replicate_zero, List.push_toArray, List.append_toArray, List.nil_append, List.cons_append]
 gi_wp2
 clear hrun
 try go_frame
 gi_loopw [4] (fun _ wr => ∃ (done : List (Value × Value)) (ds : List (Ent)), IterAt Tryz.prog 90 wr W.heap.size b es done ∧ done.map (·.2) = ds.map Ent.val ∧ J ds wr)
  (fun _ wr => es.length - seenOf wr W.heap.size)
 case atStart => exact ⟨[], [], hI, rfl, hJ0⟩
 case round =>
  obtain ⟨done, ds, hI1, hd, hJs⟩ := hrel
  rcases hI1.next 0 with ⟨hp, hrun⟩ | ⟨p, w', hp, hne, hrun, hI2, hx⟩
  · have hpp : ds.Perm ks := (perm_of_val (by rw [← hes, ← hd]; exact hp.map _)).symm
    clear hes hd
    gi_wp2
    go_end0
    exact ⟨⟨_, rfl⟩, .inl ⟨ds, hpp, hJs⟩⟩
  · obtain ⟨pk, pv⟩ := p
    have hpk : pv ∈ es.map (·.2) := List.mem_map.2 ⟨_, hp, rfl⟩
    rw [hes] at hpk
    obtain ⟨x, _, rfl⟩ := List.mem_map.1 hpk
    have hlen : ds.length < ks.length := by
     have e1 := congrArg List.length hes
     have e2 := congrArg List.length hd
     have e3 := hI2.len
     simp at e1 e2 e3
     omega
    have hJ1 : J ds w' := hJ ds wr w' (some W.heap.size) hJs (grown_of_exc hx) (fun r e => by cases e; exact ⟨Nat.le_refl _, iter_walk hI1⟩)
    have hJ2 : J ds (w'.alloc (.cells #[.string x.path, .int .u64 x.num, .string x.foot, .int .i64 x.mode, .int .u64 x.n, .int .i64 x.stamp] 51)) := hJ _ _ _ none hJ1 (World.grownBy_alloc _ _ none) (fun r e => by cases e)
    have hI3 : IterAt Tryz.prog 90 (w'.alloc (.cells #[.string x.path, .int .u64 x.num, .string x.foot, .int .i64 x.mode, .int .u64 x.n, .int .i64 x.stamp] 51)) W.heap.size b es (done ++ [(pk, x.val)]) := (Part.iter _ _ _ _ _ _).stay _ _ hI2 (fun q hq => Below.heap_alloc _ _ _ ((Part.iter _ _ _ _ _ _).lt _ hI2 q hq))
    obtain ⟨fn, tmps, assign, body, hy, hR⟩ := hY ds x _ hJ2 hlen
    have hen := hI2.entry
    have hs0 := seenOf_eq hI1
    have hes' := Lib.hid hes
    have hd' := Lib.hid hd
    have hs' := Lib.hid hs0
    have hle := hI2.len
    clear hes hd hs0 hpk hp hne hx
    unfold Ent.val at hrun hen hy
    gi_wp2
    refine hR.mono ?_
    rintro e W3 (⟨rfl, hJ3, hk3⟩ | ⟨rfl, hJx3⟩)
    · gi_wp2
      go_roundw
      case rel => exact ⟨done ++ [(pk, x.val)], ds ++ [x], iter_keeps hI3 hk3, by simp [hd'.out], hJ3⟩
      case measure =>
       have e1 := seenOf_eq (iter_keeps hI3 hk3)
       have e2 := hs'.out
       rw [e1, e2]
       simp at hle ⊢
       omega
    · gi_wp2
      refine bodyPost_ret (results_none rfl _ _ _) rfl ?_
      exact ⟨⟨_, rfl⟩, .inr ⟨_, trivial, hJx3⟩⟩
theorem vals_in (F : Fence) (n : Nat) (h1 : F.fn 31) (hro : F.round = none) (mb : Option Nat) (w : World) :
 CallsIn F n Tryz.prog 31 #[.map mb] w fun e w' => e = .returned (.func (.func 57) #[] #[.pointer (some ⟨w.heap.size, 0, none⟩)]) ∧ w' = w.alloc (.cells #[.map mb] 88) := by
 refine callsIn_of_wp Tryz.func31 rfl h1 ?_ hro
 simp only [Tryz.ntmps31, List.size_toArray, List.length_cons, List.length_nil, Nat.reduceAdd, Nat.reduceSub, Array.replicate_succ, Array.replicate_zero, List.push_toArray, List.append_toArray, List.nil_append, List.cons_append]
 gi_wp2
 go_ret
 exact ⟨rfl, rfl⟩
theorem vals_stops (F : Fence) (n : Nat) (h1 : F.fn 57) (hro : F.round = none) (hn : 1 ≤ n) (Bm b : Nat) (es : List (Value × Value)) (ks : List (Ent)) (hes : es.map (·.2) = ks.map Ent.val) (w : World) (hBm : Bm < w.heap.size)
 (hm : w.cell? ⟨Bm, 0, none⟩ = some (.map (some b))) (hM : MapAt Tryz.prog 90 w b es) :
 SeqStopsK F n Tryz.prog 57 #[.pointer (some ⟨Bm, 0, none⟩)] (fun x : Ent => #[x.val]) KeepsWalks (fun ys => ys.Perm ks) (fun _ => True) ks.length w := fun l J Jx W hW hJ _ hY h0 =>
 vals1_in F n h1 hro hn l Bm b es ks hes J Jx W hJ hY ((hW.cell (p := ⟨Bm, 0, none⟩) hBm).trans hm) (hM.same (hW.block b hM.lt)) h0
theorem infoID : (Tryz.prog.info? 51).map (fun i => (i.zero, i.size, i.bytes)) = some (some (.agg #[.string .empty, .int .u64 0, .string .empty, .int .i64 0, .int .u64 0, .int .i64 0]), 6, 64) := by kernel_rfl
theorem six_new (W : World) (a b c d e f : Value) (t : TypeId) : ∀ (j : Nat) (u : Value), [a, b, c, d, e, f][j]? = some u → (W.alloc (.cells #[a, b, c, d, e, f] t)).cell? ((⟨W.heap.size, 0, none⟩ : Addr).add j) = some u := by
 intro j u h
 match j, h with
 | 0, h => simp at h; subst h; simp [Addr.add]
 | 1, h => simp at h; subst h; simp [Addr.add]
 | 2, h => simp at h; subst h; simp [Addr.add]
 | 3, h => simp at h; subst h; simp [Addr.add]
 | 4, h => simp at h; subst h; simp [Addr.add]
 | 5, h => simp at h; subst h; simp [Addr.add]
 | j + 6, h => simp at h
def MidI (w : World) (pre : List (Ent)) (W : World) : Prop :=
 (∃ v, Boxed W w.heap.size 42 v ∧ W.ownsRow w.heap.size 51 6 v pre.length (pre.flatMap Ent.cells) ∧ (v = .slice none 0 0 ↔ pre = [])) ∧ Below w.heap.size w W
theorem midI_own (w : World) (B : Nat) (hB : w.heap.size ≤ B) : OwnFrom B (MidI w) :=
 OwnFrom.and (Own.from (holdsRow_own w.heap.size w.heap.size 42 51 6 (fun pre => pre.length) (fun pre => pre.flatMap Ent.cells) (fun pre v => v = .slice none 0 0 ↔ pre = [])) _) (ownFrom_below (Nat.le_refl _) hB)
def MidAx (w : World) (sv : Value) (x : Ent) (a' : Act) (W : World) : Prop :=
 ∃ Bx, w.heap.size < Bx ∧ Box W Bx 51 #[.string x.path, .int .u64 x.num, .string x.foot, .int .i64 x.mode, .int .u64 x.n, .int .i64 x.stamp] ∧ a' = { tmps := #[.slice none 0 0, sv, .pointer (some ⟨w.heap.size, 0, none⟩), undef, .slice none 0 0, .pointer (some ⟨Bx, 0, none⟩), sv, x.val, undef, undef, undef, undef, undef], defers := [] }
theorem midAx_own (w : World) (sv : Value) (B : Nat) (x : Ent) (a' : Act) : OwnFrom B (fun (_ : Unit) W => MidAx w sv x a' W) := by
 rintro s X Y row ⟨Bx, h1, h2, h3⟩ hg hr
 exact ⟨Bx, h1, (Box.own (β := Unit) Bx _ _).from B () X Y row h2 hg hr, h3⟩
theorem appendSeq_in (F : Fence) (n : Nat) (hF : F.fn 56) (hro : F.round = none) (hn : 3 ≤ n) (gf : Nat) (lb : Array Value) (hFg : F.fn gf) (eg : ∀ args w, (callFunc gf args).run Tryz.prog w = .ok (.enter gf args) w)
 (S Sp : List (Ent) → Prop) (N : Nat) (hN : N ≤ 100000000) (w : World) (hseq : SeqStopsK F (n - 1) Tryz.prog gf lb (fun x : Ent => #[x.val]) KeepsWalks S Sp N w) :
 CallsIn F n Tryz.prog 56 #[.slice none 0 0, .func (.func gf) #[] lb] w fun e w' => ∃ (v : Value) (ss : List (Ent)), e = .returned v ∧ S ss ∧ w'.ownsRow w.heap.size 51 6 v ss.length (ss.flatMap Ent.cells) ∧ (v = .slice none 0 0 ↔ ss = []) ∧ Below w.heap.size w w' := by
 have h1 : 1 ≤ n := by omega
 obtain ⟨i0, hi, hz0, hz1, hz2⟩ := info_parts infoID
 refine callsIn_of_wp_marks Tryz.func56 rfl hF ?_ hro
 simp only [Tryz.ntmps56, List.size_toArray, List.length_cons, List.length_nil, Nat.reduceAdd, Nat.reduceSub, Array.replicate_succ, Array.replicate_zero, List.push_toArray, List.append_toArray, List.nil_append, List.cons_append]
 gi_wp2
 have bO := Boxed.new w 42 (.slice none 0 0)
 have hB0 : Below w.heap.size w (w.alloc (.cells #[.slice none 0 0] 42)) := (Below.refl _ w).alloc (Nat.le_refl _) _
 refine wpIn_rangeFunc_ownH hro h1 (gf := gf) (lb := lb) rfl hFg eg hseq walksK_t walksK_b hB0 (fun _ => rfl)
  (MidI w) (fun _ _ _ => False) (midI_own w _ (by simp)) (fun _ _ _ _ _ hs _ _ => hs)
  ⟨⟨_, bO, World.ownsRow_nil _ _ _ _, by simp⟩, hB0⟩
  (MidAx w (.func (.func gf) #[] lb)) (fun x a' => midAx_own w _ _ x a') ?assign ?body ?done ?stop
 case assign =>
  rintro l pre x W K ⟨⟨v, hv, hrow, hnil⟩, hB⟩ hK
  have hsz := hB.size
  unfold Ent.val
  gi_wp2
  refine hK _ _ ((KeepsOthers.alloc _ _).from _) (KeepsWalks.alloc _ _) ⟨⟨v, hv.alloc _, hrow.alloc _, hnil⟩, hB.alloc hB.size _⟩ ⟨W.heap.size, hv.lt, World.alloc_heap_new W _, rfl⟩
 case body =>
  rintro l pre x a' W hl ⟨r, hr⟩ ⟨⟨v, hv, hrow, hnil⟩, hB⟩ ⟨Bx, hBx, bX, rfl⟩ hlt
  have hc := hv.cell
  have c0 : W.cell? ⟨Bx, 0, none⟩ = some (.string x.path) := by unfold Box at bX; simp [World.cell?, bX]
  have c1 : W.cell? ⟨Bx, 1, none⟩ = some (.int .u64 x.num) := by unfold Box at bX; simp [World.cell?, bX]
  have c2 : W.cell? ⟨Bx, 2, none⟩ = some (.string x.foot) := by unfold Box at bX; simp [World.cell?, bX]
  have c3 : W.cell? ⟨Bx, 3, none⟩ = some (.int .i64 x.mode) := by unfold Box at bX; simp [World.cell?, bX]
  have c4 : W.cell? ⟨Bx, 4, none⟩ = some (.int .u64 x.n) := by unfold Box at bX; simp [World.cell?, bX]
  have c5 : W.cell? ⟨Bx, 5, none⟩ = some (.int .i64 x.stamp) := by unfold Box at bX; simp [World.cell?, bX]
  have hsz := hB.size
  gi_wp2_with (gi_at_builtin; refine wpListIn_append_own _ rfl _ _ 42 rfl w.heap.size 51 i0 (.agg #[.string .empty, .int .u64 0, .string .empty, .int .i64 0, .int .u64 0, .int .i64 0]) 6 64 Tryz.underlying42 hi hz0 hz1 hz2 rfl (by decide) _ _ _ rfl (hrow.alloc _) ⟨W.heap.size, 0, none⟩ 1 1 [.string x.path, .int .u64 x.num, .string x.foot, .int .i64 x.mode, .int .u64 x.n, .int .i64 x.stamp] rfl rfl (six_new _ _ _ _ _ _ _ _) (by simp [Value.oneCell']) (by unfold maxLen; omega) (by omega) (by simp; omega) ?_; intro v' w1 hown' hgrow _; obtain ⟨g', cap', rfl⟩ := ownsRow_succ hown'; obtain ⟨hv1, hv2, hr2, hk2, hb2⟩ := hv.appended (by decide) hrow hB.size (Nat.le_refl _) hown' hgrow; have hc1 := hv1.cell; have hf1 := hv1.frozen)
  exact ⟨hk2.from _, hk2.walks, ⟨_, hv2, by simpa [Ent.cells] using hr2, by simp⟩, hB.trans hb2⟩
 case done =>
  rintro D ys W hD hS ⟨⟨v, hv, hrow, hnil⟩, hB⟩ hK
  have hc := hv.cell
  gi_wp2
  refine ⟨by simp, .inl ⟨_, _, rfl, run_takeDeferred hK, ?_⟩⟩
  exact ⟨_, results_tmp rfl _ _ _, v, ys, rfl, hS, ownsRow_putObj hrow _ hK rfl, hnil, hB.trans (belowK_b (w := w) (Nat.le_refl _) W D _ _ (by simp at hD; omega) hK rfl rfl)⟩
 case stop =>
  rintro D c pre W _ _ h _
  exact h.elim
theorem collect_in (F : Fence) (n : Nat) (hF : F.fn 30) (hF2 : F.fn 56) (hro : F.round = none) (hn : 4 ≤ n) (gf : Nat) (lb : Array Value) (hFg : F.fn gf) (eg : ∀ args w, (callFunc gf args).run Tryz.prog w = .ok (.enter gf args) w)
 (S Sp : List (Ent) → Prop) (N : Nat) (hN : N ≤ 100000000) (w : World) (hseq : SeqStopsK F (n - 1 - 1) Tryz.prog gf lb (fun x : Ent => #[x.val]) KeepsWalks S Sp N w) :
 CallsIn F n Tryz.prog 30 #[.func (.func gf) #[] lb] w fun e w' => ∃ (v : Value) (ss : List (Ent)), e = .returned v ∧ S ss ∧ w'.ownsRow w.heap.size 51 6 v ss.length (ss.flatMap Ent.cells) ∧ (v = .slice none 0 0 ↔ ss = []) ∧ Below w.heap.size w w' := by
 have h1 : 1 ≤ n := by omega
 refine callsIn_of_wp Tryz.func30 rfl hF ?_ hro
 simp only [Tryz.ntmps30, List.size_toArray, List.length_cons, List.length_nil, Nat.reduceAdd, Nat.reduceSub, Array.replicate_succ, Array.replicate_zero, List.push_toArray, List.append_toArray, List.nil_append, List.cons_append]
 gi_wp2_with (gi_at_call 56; refine (appendSeq_in F (n - 1) hF2 hro (by omega) gf lb hFg eg S Sp N hN _ hseq).mono ?_; rintro e W ⟨v, ss, rfl, hS, hrow, hnil, hb⟩)
 go_ret
 exact ⟨v, ss, rfl, hS, hrow, hnil, hb⟩
theorem collect_vals (Bm b : Nat) (es : List (Value × Value)) (ks : List (Ent)) (hes : es.map (·.2) = ks.map Ent.val) (w : World) (hBm : Bm < w.heap.size) (hm : w.cell? ⟨Bm, 0, none⟩ = some (.map (some b))) (hM : MapAt Tryz.prog 90 w b es) (hN : ks.length ≤ 100000000) :
 Calls Tryz.prog 30 #[.func (.func 57) #[] #[.pointer (some ⟨Bm, 0, none⟩)]] w fun e w' => ∃ (v : Value) (ss : List (Ent)), e = .returned v ∧ ss.Perm ks ∧ w'.ownsRow w.heap.size 51 6 v ss.length (ss.flatMap Ent.cells) ∧ (v = .slice none 0 0 ↔ ss = []) ∧ Below w.heap.size w w' :=
 callsIn_wide.1 (collect_in Fence.wide 5 trivial trivial rfl (by omega) _ _ trivial (enters_of Tryz.func57 (by kernel_rfl) rfl) _ _ ks.length hN w
  (vals_stops Fence.wide _ trivial rfl (by omega) Bm b es ks hes w hBm hm hM))
end Go.Proofs.YtpebabaigakagaaGreatDoor.Lock
end
section
namespace Go.Proofs.YtpebabaigakagaaGreatDoor.Path
open Go.RowKit
theorem wpList_make_at {P : Program} {ops : Array Oper} {rest : List Oper} {o : Oper} {a : Act} {Q : Exit → Act → World → Prop} {L0 L : List Part} {w0 w : World} {t e : TypeId} {i : TypeInfo} {z : Value} {kl kc : IntKind} (hg : o.guard = none) (l c : Operand) (hop : o.op = .makeSlice t l c)
 (ht : P.underlying t = some (.slice e)) (hi : P.info? e = some i) (hz : i.zero = some z) (hsize : i.size = 1) (hz1 : z.cells = #[z]) (n : Nat) (hl : a.eval l = .int kl (n : Int)) (hc : a.eval c = .int kc (n : Int)) (hbytes : i.bytes * n ≤ 281474976710656) (h63 : n ≤ 9223372036854775807)
 (h : At L0 w0 L w) (hK : ∀ b w', At L0 w0 (Part.cells b (List.replicate n z) e :: L) w' → w0.heap.size ≤ b → wpList P ops Q rest (a.put o.dst (.slice (some ⟨b, 0, none⟩) n n)) w') : wpList P ops Q (o :: rest) a w := by
 have hr := run_make_row t e i z ht hi hz hsize hz1 kl kc n hbytes h63 w
 have hA := h.alloc (List.replicate n z) e
 rw [show (List.replicate n z).toArray = madeCells #[z] n from by rw [← toList_madeCells_one z n]] at hA
 refine wpList_val hg ?_ (hK _ _ hA h.size)
 simp [execOp, hop, hl, hc, hr, Result.andThen]
theorem count_splits : ∀ l : Bs, Lib.countByte l 47 + 1 = (splits l).length
 | [] => rfl
 | c :: r => by
  have ih := count_splits r
  unfold Lib.countByte at ih ⊢
  rw [splits_cons]
  split
  · rename_i h; subst h; simp; omega
  · rename_i h
    rw [List.count_cons]
    have hl := splits_len r
    simp [h]
    omega
theorem count_any (s : ByteArray) (w : World) : Calls Tryz.prog 152 #[.string s, .string ⟨#[47]⟩] w fun e w' => e = .returned (.int .i64 (Lib.countByte s.data.toList 47)) ∧ w = w' :=
 (Tryz.strings_Count_one s 47 w).mono fun _ _ ⟨he, hw⟩ => ⟨he, hw.symm⟩
theorem index_c (r : ByteArray) (w : World) : Calls Tryz.prog 153 #[.string r, .string ⟨#[47]⟩] w fun e w' => e = .returned (.int .i64 (Lib.indexByte r.data.toList 47)) ∧ w = w' :=
 (Tryz.strings_Index_one _ _ _).mono fun _ _ ⟨he, hw⟩ => ⟨he, hw.symm⟩
def strCells (ws : List ByteArray) (k : Nat) : List Value := ws.map Value.string ++ List.replicate k (.string ⟨#[]⟩)
theorem strCells_set (ws : List ByteArray) (k : Nat) (x : ByteArray) : setL (strCells ws (k + 1)) ws.length [.string x] = strCells (ws ++ [x]) k := by
 simp [setL, strCells, List.replicate_succ]
theorem flatS_map (ws : List ByteArray) : flatS ws = ws.map Value.string := by
 induction ws with
 | nil => rfl
 | cons x r ih => simp only [flatS, List.flatMap_cons, List.map_cons] at ih ⊢; rw [ih]; rfl
def GenRel (s : ByteArray) (w : World) (g N : Nat) (k : Nat) (u0 u10 : Value) (wr : World) : Prop :=
 ∃ (ws : List ByteArray) (r : ByteArray), u0 = .string r ∧ u10 = .int .i64 ws.length ∧ ws.length + k = N ∧ r.size ≤ s.size ∧ splits (bl s) = ws.map bl ++ splits (bl r) ∧ At [] w [Part.cells g (strCells ws k) 9] wr
def SplitPost (s : ByteArray) (w : World) (e : Ending) (w' : World) : Prop := ∃ (v : Value) (ws : List ByteArray), e = .returned v ∧ ws.map bl = splits (bl s) ∧ At [] w [rowS v ws] w'
theorem genSplit_any (s : ByteArray) (w : World) (hs : s.size ≤ 2000000) : Calls Tryz.prog 127 #[.string s, .string ⟨#[47]⟩, .int .i64 0, .int .i64 (-1)] w (SplitPost s w) := by
 have hA := At.start (w0 := w) (L0 := []) trivial
 have hF := hA.facts
 obtain ⟨i0, hi0, hz0, hz1, hz2⟩ := info_parts infoStr
 have hN0 := count_splits (bl s)
 have hle := splits_len_le (bl s)
 have hsz : (bl s).length = s.size := by simp
 have h1 := splits_len (bl s)
 obtain ⟨N, hN⟩ : ∃ N, (splits (bl s)).length = N := ⟨_, rfl⟩
 rw [hN] at hN0 hle h1
 have hc : ((Lib.countByte s.data.toList 47 : Nat) : Int) = (N : Int) - 1 := by
  have : Lib.countByte s.data.toList 47 + 1 = N := hN0
  omega
 have hN' := Lib.hid hN
 rw [hsz] at hle
 clear hN0 hsz hN
 have hcnt := count_any s w
 rw [hc] at hcnt
 clear hc
 have hmin : min (N : Int) ((s.size : Int) + 1) = N := by omega
 go_enter Tryz.func127, Tryz.ntmps127
 go_wp2_with fail
 refine hcnt.mono ?_
 clear hcnt
 rintro e _ ⟨rfl, rfl⟩
 go_wp2_with (refine wpList_make_at rfl _ _ rfl Tryz.underlying128 hi0 hz0 hz1 rfl N (by (try simp only [Act.eval, eV]) <;> exact rfl) (by (try simp only [Act.eval, eV]) <;> exact rfl) (by rw [hz2]; omega) (by omega) hA ?_; intro g w1 hB hg; clear hF hA; have hA := hB; clear hB; have hF := hA.facts; (try simp only [uZ] at hA hF))
 try go_frame
 go_loopg [0, 10] N (GenRel s w g N)
 case atStart => exact ⟨[], s, rfl, rfl, by simp, Nat.le_refl _, rfl, hA⟩
 case round =>
  obtain ⟨ws, r, rfl, rfl, hk, hrs, hsp, hB⟩ := hrel
  clear hF hA; have hA := hB; clear hB
  have hrl : (splits (bl r)).length = gk := by
   have := congrArg List.length hsp
   rw [hN'.out] at this
   simp at this
   omega
  have hr1 := splits_len (bl r)
  by_cases hlt : ws.length + 1 < N
  · have hi : 0 ≤ Lib.indexByte (bl r) 47 := by
     rcases Int.lt_or_le (Lib.indexByte (bl r) 47) 0 with q | q
     · have := idx_none q
       rw [this] at hrl
       simp at hrl
       omega
     · exact q
    obtain ⟨i, hi2⟩ := Int.eq_ofNat_of_zero_le hi
    obtain ⟨hilt, hsr⟩ := idx_some hi2
    obtain ⟨m, rfl⟩ : ∃ m, gk = m + 1 := ⟨gk - 1, by omega⟩
    have hrz : (bl r).length = r.size := by simp
    have hil : i + 1 ≤ r.size := by omega
    have hix := index_c r wr
    rw [show Lib.indexByte r.data.toList 47 = (i : Int) from hi2] at hix
    have hst := strCells_set ws m (r.extract 0 i)
    have hsl : (strCells ws (m + 1)).length = ws.length + (m + 1) := by simp [strCells]
    have hsp' := Lib.hid hsp
    have hsr' := Lib.hid hsr
    have hst' := Lib.hid hst
    have hsl' := Lib.hid hsl
    clear hsp hsr hi2 hilt hi hrz hrl hst hsl hr1
    have hF := hA.facts; (try simp only [uZ] at hA hF)
    go_wp2_with fail
    refine hix.mono ?_
    clear hix
    rintro e _ ⟨rfl, rfl⟩
    have hi' : decide ((i : Int) < 0) = false := by simp
    go_wp2_with (refine wpList_store_at (j := ws.length) rfl rfl rfl (by (try simp only [Act.eval, eV]) <;> exact rfl) (vs := [.string (r.extract 0 i)]) (by exact rfl) hA sR (by kernel_rfl) rfl (by have := hsl'.out; simp only [List.length_cons, List.length_nil]; omega) ?_; intro w1 hB; clear hF hA; have hA := hB; clear hB; rw [hst'.out] at hA; have hF := hA.facts; (try simp only [uZ] at hA hF))
    go_roundg m
    case measure => omega
    case rel =>
     have e1 : bl (r.extract 0 i) = (bl r).take i := by simp [bl]
     have e2 : bl (r.extract (i + 1) r.size) = (bl r).drop (i + 1) := by simp only [bl]; simp; rw [List.take_of_length_le (by simp)]
     exact ⟨ws ++ [r.extract 0 i], r.extract (i + 1) r.size, rfl, by simp, by simp; omega, by simp; omega, by rw [hsp'.out, hsr'.out, e2]; simp [e1], hA⟩
  · obtain rfl : gk = 1 := by omega
    have hone : splits (bl r) = [bl r] := by
     cases hq : splits (bl r) with
     | nil => exact absurd hq (splits_ne _)
     | cons a b =>
      rw [hq] at hrl
      simp at hrl
      subst hrl
      have := join_splits (bl r)
      rw [hq, join_one] at this
      rw [this]
    have hst : setL (strCells ws 1) ws.length [.string r] = strCells (ws ++ [r]) 0 := strCells_set ws 0 r
    have hsl : (strCells ws 1).length = ws.length + 1 := by simp [strCells]
    have hsp' := Lib.hid hsp
    have hone' := Lib.hid hone
    have hst' := Lib.hid hst
    have hsl' := Lib.hid hsl
    have hk' := Lib.hid hk
    have hge : ¬ ((ws.length : Int) < (N : Int) - 1) := by omega
    clear hsp hone hst hsl hrl hr1
    have hF := hA.facts; (try simp only [uZ] at hA hF)
    go_wp2_with (refine wpList_store_at (j := ws.length) rfl rfl rfl (by (try simp only [Act.eval, eV]) <;> exact rfl) (vs := [.string r]) (by exact rfl) hA sR (by kernel_rfl) rfl (by have := hsl'.out; simp only [List.length_cons, List.length_nil]; omega) ?_; intro w1 hB; clear hF hA; have hA := hB; clear hB; rw [hst'.out] at hA; have hF := hA.facts; (try simp only [uZ] at hA hF))
    go_ret
    have e : strCells (ws ++ [r]) 0 = flatS (ws ++ [r]) := by simp [strCells, flatS_map]
    rw [e] at hA
    have hl : (ws ++ [r]).length = N := by simp; exact hk'.out
    have hA2 := hA.row_shut (n := (ws ++ [r]).length) (cap := N) (size := 1) (xs := flatS (ws ++ [r])) sR (by rw [flatS_map]; simp; have := hk'.out; omega) (by omega) (by unfold maxLen; omega) (by rw [List.take_of_length_le (by rw [flatS_map]; simp)])
    refine ⟨_, ws ++ [r], ?_, by rw [hsp'.out, hone'.out]; simp, hA2.pick (by with_reducible repeat (first | exact Picks.nil | refine Picks.cons sR ?_))⟩
    rw [hl]
    rfl
end Go.Proofs.YtpebabaigakagaaGreatDoor.Path
end
section
namespace Go.Proofs.YtpebabaigakagaaGreatDoor.Path
open Go.RowKit
open Go.Lib (compareBytes)
theorem split_any (s : ByteArray) (w : World) (hs : s.size ≤ 2000000) : Calls Tryz.prog 95 #[.string s, .string ⟨#[47]⟩] w (SplitPost s w) := by
 go_enter Tryz.func95, Tryz.ntmps95
 go_wp2_with fail
 refine (genSplit_any s w hs).mono ?_
 rintro e w1 ⟨v, ws, rfl, h1, h2⟩
 go_wp2_with fail
 go_ret
 exact ⟨v, ws, rfl, h1, h2⟩
def PartsPost (s : ByteArray) (w : World) (e : Ending) (w' : World) : Prop := ∃ (v : Value) (ws : List ByteArray), e = .returned v ∧ ws.map bl = partsL (bl s) ∧ At [] w [rowS v ws] w'
theorem parts_any (s : ByteArray) (w : World) (hs : s.size ≤ 2000000) : Calls Tryz.prog 60 #[.string s] w (PartsPost s w) := by
 cases h1 : rightB (bl s)
 · have e : partsL (bl s) = [] := by simp [partsL, h1]
   have e' := Lib.hid e
   clear e
   go_enter Tryz.func60, Tryz.ntmps60
   go_wp2_with fail
   refine (right_is w hs h1).mono ?_
   rintro e w1 ⟨rfl, hx⟩
   go_wp2_with fail
   go_ret
   exact ⟨_, [], rfl, by rw [e'.out]; rfl, ((At.start (w0 := w) (L0 := []) trivial).ext hx).row_nil 9 1⟩
 · have e : partsL (bl s) = splits (bl s) := by simp [partsL, h1]
   have e' := Lib.hid e
   clear e
   go_enter Tryz.func60, Tryz.ntmps60
   go_wp2_with fail
   refine (right_is w hs h1).mono ?_
   rintro e w1 ⟨rfl, hx⟩
   go_wp2_with fail
   refine (split_any s w1 hs).mono ?_
   rintro e w2 ⟨v, ws, rfl, h2, h3⟩
   have hB := ((At.start (w0 := w) (L0 := []) trivial).ext hx).call0 h3
   clear h3 hx
   go_wp2_with fail
   go_ret
   exact ⟨_, ws, rfl, by rw [e'.out, h2], by simpa using hB⟩
theorem less_cb : ∀ (x y : List UInt8), Op.bytesLess x y = decide (compareBytes x y < 0)
 | [], [] => by simp [Op.bytesLess, compareBytes]
 | [], _ :: _ => by simp [Op.bytesLess, compareBytes]
 | _ :: _, [] => by simp [Op.bytesLess, compareBytes]
 | a :: x, b :: y => by
  rw [Op.bytesLess, less_cb x y]
  simp only [compareBytes]
  rcases Nat.lt_trichotomy a.toNat b.toNat with h | h | h
  · have h1 : a < b := UInt8.lt_iff_toNat_lt.2 h
    simp [h1]
  · have e : a = b := UInt8.toNat_inj.1 h
    subst e
    have h1 : ¬ a < a := fun q => by have := UInt8.lt_iff_toNat_lt.1 q; omega
    simp [h1]
  · have h1 : b < a := UInt8.lt_iff_toNat_lt.2 h
    have h2 : ¬ a < b := fun q => by have := UInt8.lt_iff_toNat_lt.1 q; omega
    have h3 : a ≠ b := fun e => by subst e; omega
    simp [h1, h2, h3]
theorem nan_any (s : ByteArray) (w : World) : Calls Tryz.prog 129 #[.string s] w fun e w' => e = .returned (.bool false) ∧ w = w' := by
 have h : (s.toList == s.toList) = true := by simp
 go_enter Tryz.func129, Tryz.ntmps129
 go_wp2_with fail
 go_ret
 exact ⟨by simp, rfl⟩
theorem cmpS_any (x y : ByteArray) (w : World) : Calls Tryz.prog 97 #[.string x, .string y] w fun e w' => e = .returned (.int .i64 (compareBytes (bl x) (bl y))) ∧ w = w' := by
 have key : ∀ c, compareBytes (bl x) (bl y) = c → (c = -1 ∨ c = 0 ∨ c = 1) → Calls Tryz.prog 97 #[.string x, .string y] w fun e w' => e = .returned (.int .i64 c) ∧ w = w' := by
  intro c hc h3
  have h1 : Op.bytesLess x.toList y.toList = decide (c < 0) := by rw [Lib.toList_data, Lib.toList_data, less_cb, ← hc]
  have h2 : Op.bytesLess y.toList x.toList = decide (0 < c) := by rw [Lib.toList_data, Lib.toList_data, less_cb, ← hc, cb_anti (bl x) (bl y)]; simp [bl]
  have h4 : (x.toList == y.toList) = decide (c = 0) := by
   rw [eqB]
   congr 1
   rw [← hc]
   exact propext ⟨fun e => by rw [e]; exact cb_self _, fun e => cb_eq e⟩
  clear hc
  rcases h3 with rfl | rfl | rfl
  all_goals
   simp only [Int.reduceNeg, Int.reduceLT, Int.reduceEq, decide_true, decide_false] at h1 h2 h4
   go_enter Tryz.func97, Tryz.ntmps97
   go_wp2_with (refine (nan_any _ _).mono ?_; rintro e _ ⟨rfl, rfl⟩)
   go_ret
   exact ⟨rfl, rfl⟩
 exact key _ rfl (cb_three _ _)
def CmpRel (ws us : List ByteArray) (w : World) (k : Nat) (u11 : Value) (wr : World) : Prop :=
 ∃ i : Nat, u11 = .int .i64 i ∧ i + k = ws.length ∧ i ≤ us.length ∧ cmpL (ws.map bl) (us.map bl) = cmpL ((ws.drop i).map bl) ((us.drop i).map bl) ∧ wr = w
theorem compareS_any {w : World} {ws us : List ByteArray} {g1 g2 c1 c2 : Nat} (h1 : ∀ (j : Nat) x, ws[j]? = some x → w.cell? ⟨g1, j, none⟩ = some (.string x)) (h2 : ∀ (j : Nat) x, us[j]? = some x → w.cell? ⟨g2, j, none⟩ = some (.string x)) (hw : ws.length ≤ 2000000) (hu : us.length ≤ 2000000) :
 Calls Tryz.prog 62 #[.slice (some ⟨g1, 0, none⟩) ws.length c1, .slice (some ⟨g2, 0, none⟩) us.length c2] w fun e w' => e = .returned (.int .i64 (cmpL (ws.map bl) (us.map bl))) ∧ w = w' := by
 have h1' := Lib.hid h1
 have h2' := Lib.hid h2
 clear h1 h2
 go_enter Tryz.func62, Tryz.ntmps62
 go_wp2_with fail
 go_loopg [5, 6, 7, 8, 11] ws.length (fun k _ _ _ _ u11 wr => CmpRel ws us w k u11 wr)
 case atStart => exact ⟨0, rfl, by simp, by simp, rfl, rfl⟩
 case round =>
  obtain ⟨i, rfl, hk, hiu, hc, rfl⟩ := hrel
  by_cases hi : i < ws.length
  · have x1 := h1'.out i ws[i] (List.getElem?_eq_getElem hi)
    have hd : ws.drop i = ws[i] :: ws.drop (i + 1) := List.drop_eq_getElem_cons hi
    rw [hd] at hc
    generalize ws[i] = x at *
    by_cases hj : i < us.length
    · have x2 := h2'.out i us[i] (List.getElem?_eq_getElem hj)
      have hd2 : us.drop i = us[i] :: us.drop (i + 1) := List.drop_eq_getElem_cons hj
      rw [hd2] at hc
      generalize us[i] = y at *
      simp only [List.map_cons] at hc
      rw [cmpL] at hc
      obtain ⟨cc, hcc⟩ : ∃ c, compareBytes (bl x) (bl y) = c := ⟨_, rfl⟩
      have hcm := cmpS_any x y wr
      rw [hcc] at hcm hc
      have hc' := Lib.hid hc
      clear hc hd hd2 hcc
      by_cases h0 : cc = 0
      · subst h0
        go_wp2_with fail
        refine hcm.mono ?_
        clear hcm
        rintro e _ ⟨rfl, rfl⟩
        go_wp2_with fail
        go_roundg (gk - 1)
        case measure => omega
        case rel => exact ⟨i + 1, by simp, by omega, by omega, by rw [hc'.out]; simp, rfl⟩
      · have h0' : (cc == 0) = false := by simpa using h0
        have hc2 := hc'.out
        rw [if_neg h0] at hc2
        have hc3 := Lib.hid hc2
        clear hc2 hc' h0
        go_wp2_with fail
        refine hcm.mono ?_
        clear hcm
        rintro e _ ⟨rfl, rfl⟩
        go_wp2_with fail
        go_ret
        exact ⟨by rw [hc3.out]; rfl, rfl⟩
    · have e2 : us.drop i = [] := List.drop_eq_nil_of_le (by omega)
      rw [e2] at hc
      simp only [List.map_cons, List.map_nil] at hc
      rw [cmpL] at hc
      have hc' := Lib.hid hc
      have hge : (us.length : Int) ≤ i := by omega
      clear hc hd e2
      go_wp2_with fail
      go_ret
      exact ⟨by rw [hc'.out]; rfl, rfl⟩
  · have e1 : ws.drop i = [] := List.drop_eq_nil_of_le (by omega)
    rw [e1] at hc
    obtain rfl : i = ws.length := by omega
    by_cases hlt : ws.length < us.length
    · obtain ⟨y, ys, hy⟩ : ∃ y ys, us.drop ws.length = y :: ys := by
       cases q : us.drop ws.length with
       | nil => have := List.drop_eq_nil_iff.1 q; omega
       | cons y ys => exact ⟨y, ys, rfl⟩
      rw [hy] at hc
      simp only [List.map_cons, List.map_nil] at hc
      rw [cmpL] at hc
      have hc' := Lib.hid hc
      clear hc e1 hy
      go_wp2_with fail
      go_ret
      exact ⟨by rw [hc'.out]; rfl, rfl⟩
    · have e2 : us.drop ws.length = [] := List.drop_eq_nil_of_le (by omega)
      rw [e2] at hc
      simp only [List.map_nil] at hc
      rw [cmpL] at hc
      have hc' := Lib.hid hc
      clear hc e1 e2
      go_wp2_with fail
      go_ret
      exact ⟨by rw [hc'.out]; rfl, rfl⟩
end Go.Proofs.YtpebabaigakagaaGreatDoor.Path
end
