/- TabI, RegJ, TabQa, CmdF, joined. -/
import Derived.Test.YtpebabaigakagaaGreatDoorP33
import Derived.Test.YtpebabaigakagaaGreatDoorP31
import Derived.Test.YtpebabaigakagaaGreatDoorP21
import Derived.Test.YtpebabaigakagaaGreatDoorP26
import Derived.Test.YtpebabaigakagaaGreatDoorP27
import Derived.Test.YtpebabaigakagaaGreatDoorP25
import Derived.Test.YtpebabaigakagaaGreatDoorP7
set_option linter.unusedSimpArgs false
set_option linter.unusedVariables false
set_option maxRecDepth 100000
set_option maxHeartbeats 16000000
section
namespace Go
open _root_.Go.Proofs.YtpebabaigakagaaGreatDoor
open Go.RowKit
section
variable {P : Program} {ops : Array Oper} {rest : List Oper} {o : Oper} {a : Act} {Q : Exit → Act → World → Prop} {L0 L : List Part} {w0 w : World} {e : TypeId}
theorem wpList_lit_at {t : TypeId} {n size : Nat} {args : Array (Nat × Operand)} {avs : Array (Nat × Value)} (hg : o.guard = none) (hop : o.op = .buildSlice t n args) (hx : args.map (fun p => (p.1, a.eval p.2)) = avs) {vs : List Value}
 (hrun : ∀ w, (Instr.buildSlice t n avs).run P w = .ok (.slice (some ⟨w.heap.size, 0, none⟩) n n) (w.alloc (.cells vs.toArray e))) (hl : vs.length = n * size) (hn : n ≤ maxLen)
 (h : At L0 w0 L w)
 (hK : ∀ v w', At L0 w0 (Part.row e size v n vs :: L) w' → (∃ b, v = .slice (some ⟨b, 0, none⟩) n n) → wpList P ops Q rest (a.put o.dst v) w') : wpList P ops Q (o :: rest) a w := by
 refine wpList_val hg ?_ (hK (.slice (some ⟨w.heap.size, 0, none⟩) n n) (w.alloc (.cells vs.toArray e)) ((h.alloc vs e).row_shut .here hl (Nat.le_refl _) hn (by rw [← hl, List.take_length])) ⟨_, rfl⟩)
 simp [execOp, hop, hx, hrun, Result.andThen]
end
end Go
namespace Go.Proofs.YtpebabaigakagaaGreatDoor.Tab
open Go.RowKit
open Path (bl rightB overB aboveB)
open Lease (Ses Ans fresh Turned)
open Lock (S3 Ent)
open Cmd (Cm rightC)
attribute [-go_sem] run_eql_struct run_neq_struct run_eqGuard_agg
abbrev rowCm (v : Value) (l : List Cm) : Part := Part.row 29 8 v l.length (l.flatMap Cm.cells)
theorem reads_row (v : Value) (l : List Cm) : ReadsC (rowCm v l) v l := fun w h => own_reads h
def fA : ByteArray := ⟨#[97]⟩
def pA : ByteArray := ⟨#[97, 47, 98]⟩
def lA : List Cm := [⟨1, 1, fA, 1, ⟨#[]⟩, 0, 5, 0⟩, ⟨4, 1, fA, 2, pA, 2, 0, 0⟩, ⟨4, 1, fA, 2, pA, 2, 0, 0⟩]
theorem lA_in : ∀ c ∈ lA, CmIn c := by
 intro c hc
 simp only [lA, List.mem_cons, List.not_mem_nil, or_false] at hc
 rcases hc with rfl | rfl | rfl <;> exact ⟨⟨by simp [Lease.big64], by decide, by decide⟩, by simp, by simp [Lease.big64], by simp⟩
theorem lA_told : toldT ⟨[], ⟨0, [], []⟩⟩ lA = [⟨0, 0, false⟩, ⟨0, 1, true⟩, ⟨0, 1, true⟩] := by kernel_rfl
theorem lA_one : (playT ⟨[], ⟨0, [], []⟩⟩ lA).L.es.length = 1 := by kernel_rfl
theorem anchor_any (w : World) : Calls Tryz.prog 8 #[] w fun e w' => e = .returned (.bool true) ∧ Ext w w' := by
 have hm : Tryz.prog.follows .mixedOrders = true := by kernel_rfl
 have hA : At [] w [] w := At.start (L0 := []) trivial
 have hF := hA.facts; (try simp only [uZ] at hA hF)
 go_enter Tryz.func8, Tryz.ntmps8
 go_wp2_with (first | ((with_reducible refine gal ?_); refine wG 25 [.int .u64 0, .string .empty] hA ?_; clear hF hA; intro b1 w1 hA hb1 hF; (try simp only [uZ] at hA hF)) | ((with_reducible refine gal ?_); refine wG 29 [.int .i64 0, .int .u64 0, .string .empty, .int .u64 0, .string .empty, .int .i64 0, .int .u64 0, .int .i64 0] hA ?_; clear hF hA; intro b2 w1 hA hb2 hF; (try simp only [uZ] at hA hF)) | ((with_reducible show wpList _ _ _ ({ dst := _, op := Op.load 25 _, type := _, pos := _, after := _, guard := _ } :: _) _ _); refine wpList_loadRow_at (vs := [.int .u64 1, .string fA]) rfl rfl (by (try simp only [Act.eval, eV]) <;> exact rfl) (fun k u hk => by rw [Nat.zero_add]; exact ((hA.get (A := Part.cells b1 [.int .u64 1, .string fA] 25) sZ : BlockIs _ _ _ _).cell k).trans hk) (by kernel_rfl) (by kernel_rfl) ?_) | ((with_reducible show wpList _ _ _ ({ dst := _, op := Op.load 29 _, type := _, pos := _, after := _, guard := _ } :: _) _ _); refine wpList_loadRow_at (vs := [.int .i64 4, .int .u64 1, .string fA, .int .u64 2, .string pA, .int .i64 2, .int .u64 0, .int .i64 0]) rfl rfl (by (try simp only [Act.eval, eV]) <;> exact rfl) (fun k u hk => by rw [Nat.zero_add]; exact ((hA.get (A := Part.cells b2 [.int .i64 4, .int .u64 1, .string fA, .int .u64 2, .string pA, .int .i64 2, .int .u64 0, .int .i64 0] 29) sZ : BlockIs _ _ _ _).cell k).trans hk) (by kernel_rfl) (by kernel_rfl) ?_) | ((with_reducible show wpList _ _ _ ({ dst := _, op := Op.buildSlice _ _ _, type := _, pos := _, after := _, guard := _ } :: _) _ _); refine wpList_lit_at (e := 29) (size := 8) (vs := lA.flatMap Cm.cells) rfl rfl (by (try simp only [Act.eval, eV]) <;> exact rfl) (fun _ => by kernel_rfl) (by kernel_rfl) (by unfold maxLen; omega) hA ?_; intro v13 w1 hB hb13; clear hF hA; have hA := hB; clear hB; have hF := hA.facts; (try simp only [uZ] at hA hF)) | ((with_reducible refine gst ?_); refine wT hA ?_; clear hF hA; intro w1 hA hF; (try simp only [uZ] at hA hF)))
 refine (play_any (hA.sep1 (A := rowCm v13 lA) sZ) (first := 0) (by omega) (by unfold Lock.big64; omega) (reads_row v13 lA) (by decide) lA_in).mono ?_
 rintro e w1 ⟨t, p, m, ss, b, av, rfl, hR, hT⟩
 have hB := hA.call1 (A := rowCm v13 lA) sZ hT
 clear hT
 clear hF hA; have hA := hB; clear hB
 try simp only [uA] at hA
 rw [lA_told] at hA
 have hF := hA.facts; (try simp only [uZ] at hA hF)
 go_wp2_with fail
 obtain ⟨ax, cap, rfl, _, _, _⟩ := hA.row_form (e := 48) (size := 3) .here
 obtain ⟨g, c, rfl, _, _, _, hct, hB⟩ := hA.row_open .here (by decide)
 obtain ⟨r, rfl⟩ : ∃ r, c = ([.int .i64 0, .int .u64 0, .bool false, .int .i64 0, .int .u64 1, .bool true, .int .i64 0, .int .u64 1, .bool true] : List Value) ++ r := ⟨c.drop 9, by rw [show ([.int .i64 0, .int .u64 0, .bool false, .int .i64 0, .int .u64 1, .bool true, .int .i64 0, .int .u64 1, .bool true] : List Value) = c.take 9 from hct.symm]; exact (List.take_append_drop _ _).symm⟩
 clear hF hA hct; have hA := hB; clear hB
 have hti : TInv (playT ⟨[], ⟨0, [], []⟩⟩ lA) (0 + lA.length) := play_inv (fun x hx => (lA_in x hx).ok) (new_inv (by omega) (by unfold Lock.big64; omega))
 have hli : Lock.Inv b.st 3 := by rw [hR.L]; exact hti.lock
 have hlen : b.es.length = 1 := by have := lA_one; rw [← hR.L] at this; exact this
 have hls := fun (w1 : World) (q : Sep [Lock.BookP b] w1) => Lock.list_any q hli.sortable (by omega) (fun x hx => Nat.le_trans (hli.path x hx) (by omega))
 have hll := Lib.hid hlen
 clear hlen hti hli hR
 have hB := hA.drew
 clear hA; have hA := hB; clear hB
 refine wp_region_held (S := fun w' => BlockIs w' g (([.int .i64 0, .int .u64 0, .bool false, .int .i64 0, .int .u64 1, .bool true, .int .i64 0, .int .u64 1, .bool true] : List Value) ++ r) 48) hm ?_
 change wpAnyH _ _ _ _ _ 27 _ _ (World.drew _)
 generalize World.drew _ = wd at *
 have hS0 := (hA.get (A := Part.cells g (([.int .i64 0, .int .u64 0, .bool false, .int .i64 0, .int .u64 1, .bool true, .int .i64 0, .int .u64 1, .bool true] : List Value) ++ r) 48) sZ : (fun w' => BlockIs w' g (([.int .i64 0, .int .u64 0, .bool false, .int .i64 0, .int .u64 1, .bool true, .int .i64 0, .int .u64 1, .bool true] : List Value) ++ r) 48) wd)
 refine tP 0 17 (.slice (some ⟨g, 0, none⟩) 3 cap) (s := hS0) (h := ?_)
 try go_frame
 refine tP 1 18 (.int .i64 3) (s := hS0) (h := ?_)
 try go_frame
 refine tP 2 19 (.bool true) (s := hS0) (h := ?_)
 try go_frame
 refine tP 3 20 (.bool true) (s := hS0) (h := ?_)
 try go_frame
 refine tP 4 21 (.slice (some ⟨g, 0, none⟩) 3 cap) (s := hS0) (h := ?_)
 try go_frame
 refine tP 5 22 (.pointer (some ⟨g, 3, none⟩)) (s := hS0) (h := ?_)
 try go_frame
 refine tZ 6 23 (.agg #[.int .i64 0, .int .u64 1, .bool true]) (r := (fun w' hS => run_load_row (ty := 48) (n := 3) (b := g) (j := 3) rfl (by exact rfl) hS (by kernel_rfl) (by kernel_rfl) rfl rfl)) (s := hS0) (h := ?_)
 try go_frame
 refine tP 7 24 (.agg #[.int .i64 0, .int .u64 1, .bool true]) (s := hS0) (h := ?_)
 try go_frame
 refine tP 8 25 (.bool true) (s := hS0) (h := ?_)
 try go_frame
 refine tP 9 26 (.bool true) (s := hS0) (h := ?_)
 try go_frame
 refine tP 10 27 (.bool true) (s := hS0) (h := ?_)
 try go_frame
 refine tP 11 28 (.slice (some ⟨g, 0, none⟩) 3 cap) (s := hS0) (h := ?_)
 try go_frame
 refine tP 12 29 (.pointer (some ⟨g, 6, none⟩)) (s := hS0) (h := ?_)
 try go_frame
 refine tZ 13 30 (.agg #[.int .i64 0, .int .u64 1, .bool true]) (r := (fun w' hS => run_load_row (ty := 48) (n := 3) (b := g) (j := 6) rfl (by exact rfl) hS (by kernel_rfl) (by kernel_rfl) rfl rfl)) (s := hS0) (h := ?_)
 try go_frame
 refine tP 14 31 (.slice (some ⟨g, 0, none⟩) 3 cap) (s := hS0) (h := ?_)
 try go_frame
 refine tP 15 32 (.pointer (some ⟨g, 3, none⟩)) (s := hS0) (h := ?_)
 try go_frame
 refine tZ 16 33 (.agg #[.int .i64 0, .int .u64 1, .bool true]) (r := (fun w' hS => run_load_row (ty := 48) (n := 3) (b := g) (j := 3) rfl (by exact rfl) hS (by kernel_rfl) (by kernel_rfl) rfl rfl)) (s := hS0) (h := ?_)
 try go_frame
 refine tP 17 34 (.bool true) (s := hS0) (h := ?_)
 try go_frame
 refine tP 18 35 (.bool true) (s := hS0) (h := ?_)
 try go_frame
 refine tP 19 36 (.bool true) (s := hS0) (h := ?_)
 try go_frame
 refine tP 20 37 (.pointer (some ⟨t, 0, none⟩)) (s := hS0) (h := ?_)
 try go_frame
 refine wpAnyH_one (i := 21) (by kernel_rfl) ?_
 refine cY 21 38 15 (fun u w' => u = .pointer (some ⟨b.p, 0, none⟩) ∧ At [TabP t p m ss b] _ [TabP t p m ss b] w') ((locks_of_any (hA.sep1 (A := TabP t p m ss b) sZ)).mono fun e w' ⟨he, hT⟩ => ⟨_, he, rfl, hT⟩) ?_
 rintro u w3 ⟨rfl, hT⟩
 have hB := hA.call1 (A := TabP t p m ss b) sZ hT
 clear hT hA
 simp only [uA] at hB
 have hA := tab_out hB sZ
 clear hB
 refine ⟨hA.get (A := Part.cells g (([.int .i64 0, .int .u64 0, .bool false, .int .i64 0, .int .u64 1, .bool true, .int .i64 0, .int .u64 1, .bool true] : List Value) ++ r) 48) sZ, ?_⟩
 clear hS0
 try go_frame
 refine wpAnyH_one (i := 22) (by kernel_rfl) ?_
 refine opCall_at (i := 22) (d := some 39) (R := fun u w' => ∃ cp : Option Addr × Nat, u = .slice cp.1 1 cp.2 ∧ ∃ l, At [Lock.BookP b] _ [Lock.rowL (.slice cp.1 1 cp.2) l, Lock.BookP b] w') rfl rfl (by kernel_rfl) (fn := 16) (args := #[.pointer (some ⟨b.p, 0, none⟩)]) (by simp [execOp, go_sem, Act.eval, Act.put]) ((hls _ (hA.sep1 (A := Lock.BookP b) sZ)).mono fun e w' ⟨v, l, he, hp, _, hT⟩ => by
  obtain ⟨ax2, cap2, rfl, _, _, _⟩ := hT.row_form (e := 51) (size := 6) .here
  have h1 : l.length = 1 := hp.length_eq.trans hll.out
  exact ⟨_, he, (ax2, cap2), by rw [h1], l, by rw [h1] at hT; exact hT⟩) ?_
 rintro u w4 ⟨⟨ax2, cap2⟩, rfl, l2, hT⟩
 have hB := hA.call1 (A := Lock.BookP b) sZ hT
 clear hT hA
 simp only [uA] at hB
 have hA := hB
 clear hB
 have hS0 := (hA.get (A := Part.cells g (([.int .i64 0, .int .u64 0, .bool false, .int .i64 0, .int .u64 1, .bool true, .int .i64 0, .int .u64 1, .bool true] : List Value) ++ r) 48) sZ : (fun w' => BlockIs w' g (([.int .i64 0, .int .u64 0, .bool false, .int .i64 0, .int .u64 1, .bool true, .int .i64 0, .int .u64 1, .bool true] : List Value) ++ r) 48) w4)
 refine ⟨hS0, ?_⟩
 try go_frame
 refine tP 23 40 (.int .i64 1) (s := hS0) (h := ?_)
 try go_frame
 refine tP 24 41 (.bool true) (s := hS0) (h := ?_)
 try go_frame
 refine tP 25 42 (.bool true) (s := hS0) (h := ?_)
 try go_frame
 refine tP 26 0 (.bool true) (s := hS0) (h := ?_)
 try go_frame
 refine wpAnyH_done (by kernel_rfl) ?_ _
 try go_frame
 clear hS0
 have hF := hA.facts; (try simp only [uZ] at hA hF)
 go_wp2_with fail
 go_ret
 exact ⟨rfl, hA.toExt⟩
end Go.Proofs.YtpebabaigakagaaGreatDoor.Tab
end
section
namespace Go
open _root_.Go.Proofs.YtpebabaigakagaaGreatDoor
open Go.RowKit
section
variable {P : Program} {ops : Array Oper} {rest : List Oper} {o : Oper} {a : Act} {Q : Exit → Act → World → Prop} {L0 L F : List Part} {w0 w : World}
theorem wpList_zero_at {t : TypeId} {e : TypeId} (size : Nat) (hg : o.guard = none) (hop : o.op = .buildSlice t 0 #[])
 (hrun : ∀ w, (Instr.buildSlice t 0 #[]).run P w = .ok (.slice (some ⟨w.heap.size, 0, none⟩) 0 0) (w.alloc (.cells #[] e))) (h : At L0 w0 L w)
 (hK : ∀ b w', At L0 w0 (Part.row e size (.slice (some ⟨b, 0, none⟩) 0 0) 0 [] :: L) w' → wpList P ops Q rest (a.put o.dst (.slice (some ⟨b, 0, none⟩) 0 0)) w') : wpList P ops Q (o :: rest) a w := by
 refine wpList_val hg (v := .slice (some ⟨w.heap.size, 0, none⟩) 0 0) (w' := w.alloc (.cells #[] e)) (by simp [execOp, hop, hrun, Result.andThen]) (hK _ _ ?_)
 refine h.new ((Ext.refl w).alloc _) _ ⟨by simp, .inr ⟨w.heap.size, 0, #[], rfl, Nat.zero_le _, heap_alloc_new w _, Nat.le_refl _, Nat.zero_le _, by simp, by simp⟩⟩ (fun b hb => ?_)
 have hb2 : (Value.slice (some ⟨w.heap.size, 0, none⟩) 0 0).ownBlock = some b := hb
 cases hb2
 exact Nat.le_refl _
theorem opLoadRow_at {i : Nat} {d : Option Tmp} {o : Oper} {a : Act} {K : Act → World → Prop} (ho : ops[i]? = some o) (hd : o.dst = d) (hw : Region.wanted o (yielded ops a.tmps) = true) {ty : TypeId} {x : Operand} (hop : o.op = .load ty x) {b j : Nat} (hx : a.eval x = .pointer (some ⟨b, j, none⟩)) {c : List Value} {T : TypeId} (h : At L0 w0 L w) (s : Sel (Part.cells b c T) L F)
 (hu : (P.underlying ty).map (·.isRow) = some true) {n : Nat} (hi : (P.info? ty).map (·.size) = some n) {vs : List Value} (hv : (c.drop j).take n = vs) (hl : vs.length = n)
 (hK : K (a.put d (.agg vs.toArray)) w) : wpOp P ops Q i K a w := by
 subst hd
 have hr := run_load_row (P := P) (o := o) (a := a) hop hx (h.get s) hu hi hv hl
 exact wpOp_val ho hw (v := .agg vs.toArray) (w' := w) hr hK
end
end Go
namespace Go.Proofs.YtpebabaigakagaaGreatDoor
open Go.RowKit
theorem through1 {L0 L F : List Part} {w0 w : World} {A : Part} {P : Program} {f : FuncId} {args : Array Value} {v : Value} (s : Sel A L F) (h : At L0 w0 L w) (hc : ∀ w1, Sep [A] w1 → Calls P f args w1 fun e w' => e = .returned v ∧ At [A] w1 [A] w') :
 Calls P f args w fun e w' => e = .returned v ∧ At L0 w0 L w' := h.through (Eqv.perm s.perm) (hc w)
end Go.Proofs.YtpebabaigakagaaGreatDoor
end
section
namespace Go.Proofs.YtpebabaigakagaaGreatDoor.Tab
open Go.RowKit
open Path (bl rightB overB aboveB)
open Lease (Ses Ans fresh Turned)
open Lock (S3 Ent)
open Cmd (Cm rightC)
attribute [-go_sem] run_eql_struct run_neq_struct run_eqGuard_agg
theorem below_old {w w' : World} {L F : List Part} (h : At [Part.old w] w L w') (s : Sel (Part.old w) L F) : Below w.heap.size w w' := by
 have ho : (Part.old w).holds w' := h.get s
 exact ⟨h.exc.os, h.exc.tape, h.exc.output, h.exc.size, fun b hb => ho b hb⟩
structure CmV (c : Cm) : Prop where
 num : 0 ≤ c.num ∧ c.num < Lease.big64
 foot : c.foot.size ≤ maxLen
 path : c.path.size ≤ maxLen
 req : 0 ≤ c.req ∧ c.req < Lease.big64
 n0 : 0 ≤ c.n
theorem small_in {l : List Cm} {k : Nat} (h : smallB l k = true) (hv : ∀ c ∈ l, CmV c) : l.length ≤ k ∧ ∀ c ∈ l, CmIn c := by
 unfold smallB at h
 rw [Bool.and_eq_true, List.all_eq_true, decide_eq_true_eq] at h
 refine ⟨by omega, fun c hc => ?_⟩
 have h1 := h.1 c hc
 simp only [okS, Bool.and_eq_true, Bool.not_eq_true', decide_eq_false_iff_not] at h1
 exact ⟨⟨(hv c hc).num, by omega, by omega⟩, (hv c hc).req.1, (hv c hc).req.2, (hv c hc).n0⟩
theorem guardAn (op : BinOp) (x y : Operand) (c1 c2 c3 d1 d2 d3 : Value) (w : World) : (eqGuard op 48 x y (.agg #[c1, c2, c3]) (.agg #[d1, d2, d3])).run Tryz.prog w = .ok () w := run_eqGuard_agg _ _ _ _ _ _ _ (by kernel_rfl)
theorem sameAn (a b : Int) (c : Bool) (w : World) : (Op.equalIn 10000 48 (.agg #[.int .i64 a, .int .u64 b, .bool c]) (.agg #[.int .i64 a, .int .u64 b, .bool c])).run Tryz.prog w = .ok true w := by
 rw [run_equalIn_agg _ 9999 _ _ _ (by kernel_rfl) (by kernel_rfl)]
 simp [go_sem, Op.eqFields]
theorem neqAn (a b : Int) (c : Bool) (w : World) : (binOp .neq 48 (.agg #[.int .i64 a, .int .u64 b, .bool c]) (.agg #[.int .i64 a, .int .u64 b, .bool c])).run Tryz.prog w = .ok (.bool false) w := by
 rw [run_neq_struct, sameAn]; rfl
theorem eqlAn (a b : Int) (c : Bool) (w : World) : (binOp .eql 48 (.agg #[.int .i64 a, .int .u64 b, .bool c]) (.agg #[.int .i64 a, .int .u64 b, .bool c])).run Tryz.prog w = .ok (.bool true) w := by
 rw [run_eql_struct, sameAn]; rfl
theorem guardSe (op : BinOp) (x y : Operand) (a c : Int) (f g : ByteArray) (w : World) : (eqGuard op 25 x y (.agg #[.int .u64 a, .string f]) (.agg #[.int .u64 c, .string g])).run Tryz.prog w = .ok () w := run_eqGuard_agg _ _ _ _ _ _ _ (by kernel_rfl)
theorem neqSe (a c : Int) (f g : ByteArray) (w : World) : (binOp .neq 25 (.agg #[.int .u64 a, .string f]) (.agg #[.int .u64 c, .string g])).run Tryz.prog w = .ok (.bool (!decide (a = c ∧ f = g))) w := by
 rw [run_neq_struct, Lock.sameS]; rfl
end Go.Proofs.YtpebabaigakagaaGreatDoor.Tab
end
section
namespace Go.Proofs.YtpebabaigakagaaGreatDoor.Cmd
open Go.RowKit
open Path (bl rightB overB)
attribute [-go_sem] run_eql_struct run_neq_struct run_eqGuard_agg
theorem foot_0 (num : Int) (foot : ByteArray) (req : Int) (path : ByteArray) (mode n time : Int) (w : World) {rc : Bool} (hrc : ∀ w, Calls Tryz.prog 21 #[.agg #[.int .i64 0, .int .u64 num, .string foot, .int .u64 req, .string path, .int .i64 mode, .int .u64 n, .int .i64 time]] w fun e w' => e = .returned (.bool rc) ∧ Ext w w') :
 Calls Tryz.prog 81 #[.agg #[.int .i64 0, .int .u64 num, .string foot, .int .u64 req, .string path, .int .i64 mode, .int .u64 n, .int .i64 time]] w fun e w' => e = .returned (.tuple #[.string (if rc then foot else .empty), .bool (rc && false)]) ∧ Ext w w' := by
 have hA : At [] w [] w := At.start (L0 := []) trivial
 have hF := hA.facts; (try simp only [uY] at hA hF)
 go_enter Tryz.func81, Tryz.ntmps81
 go_wp2_with ((with_reducible refine gbx ?_); refine wC (E := 29) hA ?_; clear hF hA; intro bX w1 hA hbX hF; (try simp only [uY] at hA hF))
 refine (had_0 _).mono ?_
 rintro e w1 ⟨rfl, hx⟩
 have hB := hA.ext hx
 clear hF hA hx; have hA := hB; clear hB
 have hF := hA.facts; (try simp only [uY] at hA hF)
 go_wp2_with (first | ((with_reducible refine gal ?_); refine wG 106 [.bool false, .bool false, .bool false, .bool false, .bool false, .bool false] hA ?_; clear hF hA; intro bH w1 hA hbH hF; (try simp only [uY] at hA hF)) | ((with_reducible refine gst ?_); refine wT hA ?_; clear hF hA; intro w1 hA hF; (try simp only [uY] at hA hF)))
 refine (hrc _).mono ?_
 rintro e w1 ⟨rfl, hx⟩
 have hB := hA.ext hx
 clear hF hA hx; have hA := hB; clear hB
 have hF := hA.facts; (try simp only [uY] at hA hF)
 cases rc
 · go_wp2_with fail
   refine bodyPost_ret (v := .tuple #[.string ⟨#[]⟩, .bool false]) (by simp [results, Tryz.results81, go_sem, hF]) rfl ⟨rfl, hA.toExt⟩
 · go_wp2_with fail
   try go_frame
   (refine cA hA ?_); (have hn1 := Cl.none hA); (have hn2 := Cl.none2 hA); (repeat (first | go_big_quiet_skip | (go_big_quiet_want; (first | (refine qL ?_; go_frame; go_big_quiet_on) | (go_big_quiet_op; (first | go_big_quiet_on | ((apply Exists.intro); (refine ⟨fun w1 hw => ?_, ?_⟩); (focus ((have hw := Cl.out hw); (fail))); (go_big_quiet_on))))))))
   (refine wpQuiet_nil ?_); (intro w1 hB); (clear hF hA hn1 hn2); (have hA := Cl.out hB); (clear hB); have hF := hA.facts; (try simp only [uY] at hA hF)
   go_wp2_with fail
   refine bodyPost_ret (v := .tuple #[.string foot, .bool false]) (by simp [results, Tryz.results81, go_sem, hF]) rfl ⟨rfl, hA.toExt⟩
theorem foot_1 (num : Int) (foot : ByteArray) (req : Int) (path : ByteArray) (mode n time : Int) (w : World) {rc : Bool} (hrc : ∀ w, Calls Tryz.prog 21 #[.agg #[.int .i64 1, .int .u64 num, .string foot, .int .u64 req, .string path, .int .i64 mode, .int .u64 n, .int .i64 time]] w fun e w' => e = .returned (.bool rc) ∧ Ext w w') :
 Calls Tryz.prog 81 #[.agg #[.int .i64 1, .int .u64 num, .string foot, .int .u64 req, .string path, .int .i64 mode, .int .u64 n, .int .i64 time]] w fun e w' => e = .returned (.tuple #[.string (if rc then foot else .empty), .bool (rc && true)]) ∧ Ext w w' := by
 have hA : At [] w [] w := At.start (L0 := []) trivial
 have hF := hA.facts; (try simp only [uY] at hA hF)
 go_enter Tryz.func81, Tryz.ntmps81
 go_wp2_with ((with_reducible refine gbx ?_); refine wC (E := 29) hA ?_; clear hF hA; intro bX w1 hA hbX hF; (try simp only [uY] at hA hF))
 refine (had_1 _).mono ?_
 rintro e w1 ⟨rfl, hx⟩
 have hB := hA.ext hx
 clear hF hA hx; have hA := hB; clear hB
 have hF := hA.facts; (try simp only [uY] at hA hF)
 go_wp2_with (first | ((with_reducible refine gal ?_); refine wG 106 [.bool false, .bool false, .bool false, .bool false, .bool false, .bool false] hA ?_; clear hF hA; intro bH w1 hA hbH hF; (try simp only [uY] at hA hF)) | ((with_reducible refine gst ?_); refine wT hA ?_; clear hF hA; intro w1 hA hF; (try simp only [uY] at hA hF)))
 refine (hrc _).mono ?_
 rintro e w1 ⟨rfl, hx⟩
 have hB := hA.ext hx
 clear hF hA hx; have hA := hB; clear hB
 have hF := hA.facts; (try simp only [uY] at hA hF)
 cases rc
 · go_wp2_with fail
   refine bodyPost_ret (v := .tuple #[.string ⟨#[]⟩, .bool false]) (by simp [results, Tryz.results81, go_sem, hF]) rfl ⟨rfl, hA.toExt⟩
 · go_wp2_with fail
   try go_frame
   (refine cA hA ?_); (have hn1 := Cl.none hA); (have hn2 := Cl.none2 hA); (repeat (first | go_big_quiet_skip | (go_big_quiet_want; (first | (refine qL ?_; go_frame; go_big_quiet_on) | (go_big_quiet_op; (first | go_big_quiet_on | ((apply Exists.intro); (refine ⟨fun w1 hw => ?_, ?_⟩); (focus ((have hw := Cl.out hw); (fail))); (go_big_quiet_on))))))))
   (refine wpQuiet_nil ?_); (intro w1 hB); (clear hF hA hn1 hn2); (have hA := Cl.out hB); (clear hB); have hF := hA.facts; (try simp only [uY] at hA hF)
   go_wp2_with fail
   refine bodyPost_ret (v := .tuple #[.string foot, .bool true]) (by simp [results, Tryz.results81, go_sem, hF]) rfl ⟨rfl, hA.toExt⟩
theorem foot_2 (num : Int) (foot : ByteArray) (req : Int) (path : ByteArray) (mode n time : Int) (w : World) {rc : Bool} (hrc : ∀ w, Calls Tryz.prog 21 #[.agg #[.int .i64 2, .int .u64 num, .string foot, .int .u64 req, .string path, .int .i64 mode, .int .u64 n, .int .i64 time]] w fun e w' => e = .returned (.bool rc) ∧ Ext w w') :
 Calls Tryz.prog 81 #[.agg #[.int .i64 2, .int .u64 num, .string foot, .int .u64 req, .string path, .int .i64 mode, .int .u64 n, .int .i64 time]] w fun e w' => e = .returned (.tuple #[.string (if rc then foot else .empty), .bool (rc && true)]) ∧ Ext w w' := by
 have hA : At [] w [] w := At.start (L0 := []) trivial
 have hF := hA.facts; (try simp only [uY] at hA hF)
 go_enter Tryz.func81, Tryz.ntmps81
 go_wp2_with ((with_reducible refine gbx ?_); refine wC (E := 29) hA ?_; clear hF hA; intro bX w1 hA hbX hF; (try simp only [uY] at hA hF))
 refine (had_2 _).mono ?_
 rintro e w1 ⟨rfl, hx⟩
 have hB := hA.ext hx
 clear hF hA hx; have hA := hB; clear hB
 have hF := hA.facts; (try simp only [uY] at hA hF)
 go_wp2_with (first | ((with_reducible refine gal ?_); refine wG 106 [.bool false, .bool false, .bool false, .bool false, .bool false, .bool false] hA ?_; clear hF hA; intro bH w1 hA hbH hF; (try simp only [uY] at hA hF)) | ((with_reducible refine gst ?_); refine wT hA ?_; clear hF hA; intro w1 hA hF; (try simp only [uY] at hA hF)))
 refine (hrc _).mono ?_
 rintro e w1 ⟨rfl, hx⟩
 have hB := hA.ext hx
 clear hF hA hx; have hA := hB; clear hB
 have hF := hA.facts; (try simp only [uY] at hA hF)
 cases rc
 · go_wp2_with fail
   refine bodyPost_ret (v := .tuple #[.string ⟨#[]⟩, .bool false]) (by simp [results, Tryz.results81, go_sem, hF]) rfl ⟨rfl, hA.toExt⟩
 · go_wp2_with fail
   try go_frame
   (refine cA hA ?_); (have hn1 := Cl.none hA); (have hn2 := Cl.none2 hA); (repeat (first | go_big_quiet_skip | (go_big_quiet_want; (first | (refine qL ?_; go_frame; go_big_quiet_on) | (go_big_quiet_op; (first | go_big_quiet_on | ((apply Exists.intro); (refine ⟨fun w1 hw => ?_, ?_⟩); (focus ((have hw := Cl.out hw); (fail))); (go_big_quiet_on))))))))
   (refine wpQuiet_nil ?_); (intro w1 hB); (clear hF hA hn1 hn2); (have hA := Cl.out hB); (clear hB); have hF := hA.facts; (try simp only [uY] at hA hF)
   go_wp2_with fail
   refine bodyPost_ret (v := .tuple #[.string foot, .bool true]) (by simp [results, Tryz.results81, go_sem, hF]) rfl ⟨rfl, hA.toExt⟩
theorem foot_3 (num : Int) (foot : ByteArray) (req : Int) (path : ByteArray) (mode n time : Int) (w : World) {rc : Bool} (hrc : ∀ w, Calls Tryz.prog 21 #[.agg #[.int .i64 3, .int .u64 num, .string foot, .int .u64 req, .string path, .int .i64 mode, .int .u64 n, .int .i64 time]] w fun e w' => e = .returned (.bool rc) ∧ Ext w w') :
 Calls Tryz.prog 81 #[.agg #[.int .i64 3, .int .u64 num, .string foot, .int .u64 req, .string path, .int .i64 mode, .int .u64 n, .int .i64 time]] w fun e w' => e = .returned (.tuple #[.string (if rc then foot else .empty), .bool (rc && true)]) ∧ Ext w w' := by
 have hA : At [] w [] w := At.start (L0 := []) trivial
 have hF := hA.facts; (try simp only [uY] at hA hF)
 go_enter Tryz.func81, Tryz.ntmps81
 go_wp2_with ((with_reducible refine gbx ?_); refine wC (E := 29) hA ?_; clear hF hA; intro bX w1 hA hbX hF; (try simp only [uY] at hA hF))
 refine (had_3 _).mono ?_
 rintro e w1 ⟨rfl, hx⟩
 have hB := hA.ext hx
 clear hF hA hx; have hA := hB; clear hB
 have hF := hA.facts; (try simp only [uY] at hA hF)
 go_wp2_with (first | ((with_reducible refine gal ?_); refine wG 106 [.bool false, .bool false, .bool false, .bool false, .bool false, .bool false] hA ?_; clear hF hA; intro bH w1 hA hbH hF; (try simp only [uY] at hA hF)) | ((with_reducible refine gst ?_); refine wT hA ?_; clear hF hA; intro w1 hA hF; (try simp only [uY] at hA hF)))
 refine (hrc _).mono ?_
 rintro e w1 ⟨rfl, hx⟩
 have hB := hA.ext hx
 clear hF hA hx; have hA := hB; clear hB
 have hF := hA.facts; (try simp only [uY] at hA hF)
 cases rc
 · go_wp2_with fail
   refine bodyPost_ret (v := .tuple #[.string ⟨#[]⟩, .bool false]) (by simp [results, Tryz.results81, go_sem, hF]) rfl ⟨rfl, hA.toExt⟩
 · go_wp2_with fail
   try go_frame
   (refine cA hA ?_); (have hn1 := Cl.none hA); (have hn2 := Cl.none2 hA); (repeat (first | go_big_quiet_skip | (go_big_quiet_want; (first | (refine qL ?_; go_frame; go_big_quiet_on) | (go_big_quiet_op; (first | go_big_quiet_on | ((apply Exists.intro); (refine ⟨fun w1 hw => ?_, ?_⟩); (focus ((have hw := Cl.out hw); (fail))); (go_big_quiet_on))))))))
   (refine wpQuiet_nil ?_); (intro w1 hB); (clear hF hA hn1 hn2); (have hA := Cl.out hB); (clear hB); have hF := hA.facts; (try simp only [uY] at hA hF)
   go_wp2_with fail
   refine bodyPost_ret (v := .tuple #[.string foot, .bool true]) (by simp [results, Tryz.results81, go_sem, hF]) rfl ⟨rfl, hA.toExt⟩
theorem foot_4 (num : Int) (foot : ByteArray) (req : Int) (path : ByteArray) (mode n time : Int) (w : World) {rc : Bool} (hrc : ∀ w, Calls Tryz.prog 21 #[.agg #[.int .i64 4, .int .u64 num, .string foot, .int .u64 req, .string path, .int .i64 mode, .int .u64 n, .int .i64 time]] w fun e w' => e = .returned (.bool rc) ∧ Ext w w') :
 Calls Tryz.prog 81 #[.agg #[.int .i64 4, .int .u64 num, .string foot, .int .u64 req, .string path, .int .i64 mode, .int .u64 n, .int .i64 time]] w fun e w' => e = .returned (.tuple #[.string (if rc then path else .empty), .bool (rc && true)]) ∧ Ext w w' := by
 have hA : At [] w [] w := At.start (L0 := []) trivial
 have hF := hA.facts; (try simp only [uY] at hA hF)
 go_enter Tryz.func81, Tryz.ntmps81
 go_wp2_with ((with_reducible refine gbx ?_); refine wC (E := 29) hA ?_; clear hF hA; intro bX w1 hA hbX hF; (try simp only [uY] at hA hF))
 refine (had_4 _).mono ?_
 rintro e w1 ⟨rfl, hx⟩
 have hB := hA.ext hx
 clear hF hA hx; have hA := hB; clear hB
 have hF := hA.facts; (try simp only [uY] at hA hF)
 go_wp2_with (first | ((with_reducible refine gal ?_); refine wG 106 [.bool false, .bool false, .bool false, .bool false, .bool false, .bool false] hA ?_; clear hF hA; intro bH w1 hA hbH hF; (try simp only [uY] at hA hF)) | ((with_reducible refine gst ?_); refine wT hA ?_; clear hF hA; intro w1 hA hF; (try simp only [uY] at hA hF)))
 refine (hrc _).mono ?_
 rintro e w1 ⟨rfl, hx⟩
 have hB := hA.ext hx
 clear hF hA hx; have hA := hB; clear hB
 have hF := hA.facts; (try simp only [uY] at hA hF)
 cases rc
 · go_wp2_with fail
   refine bodyPost_ret (v := .tuple #[.string ⟨#[]⟩, .bool false]) (by simp [results, Tryz.results81, go_sem, hF]) rfl ⟨rfl, hA.toExt⟩
 · go_wp2_with fail
   refine bodyPost_ret (v := .tuple #[.string path, .bool true]) (by simp [results, Tryz.results81, go_sem, hF]) rfl ⟨rfl, hA.toExt⟩
theorem foot_5 (num : Int) (foot : ByteArray) (req : Int) (path : ByteArray) (mode n time : Int) (w : World) {rc : Bool} (hrc : ∀ w, Calls Tryz.prog 21 #[.agg #[.int .i64 5, .int .u64 num, .string foot, .int .u64 req, .string path, .int .i64 mode, .int .u64 n, .int .i64 time]] w fun e w' => e = .returned (.bool rc) ∧ Ext w w') :
 Calls Tryz.prog 81 #[.agg #[.int .i64 5, .int .u64 num, .string foot, .int .u64 req, .string path, .int .i64 mode, .int .u64 n, .int .i64 time]] w fun e w' => e = .returned (.tuple #[.string (if rc then path else .empty), .bool (rc && true)]) ∧ Ext w w' := by
 have hA : At [] w [] w := At.start (L0 := []) trivial
 have hF := hA.facts; (try simp only [uY] at hA hF)
 go_enter Tryz.func81, Tryz.ntmps81
 go_wp2_with ((with_reducible refine gbx ?_); refine wC (E := 29) hA ?_; clear hF hA; intro bX w1 hA hbX hF; (try simp only [uY] at hA hF))
 refine (had_5 _).mono ?_
 rintro e w1 ⟨rfl, hx⟩
 have hB := hA.ext hx
 clear hF hA hx; have hA := hB; clear hB
 have hF := hA.facts; (try simp only [uY] at hA hF)
 go_wp2_with (first | ((with_reducible refine gal ?_); refine wG 106 [.bool false, .bool false, .bool false, .bool false, .bool false, .bool false] hA ?_; clear hF hA; intro bH w1 hA hbH hF; (try simp only [uY] at hA hF)) | ((with_reducible refine gst ?_); refine wT hA ?_; clear hF hA; intro w1 hA hF; (try simp only [uY] at hA hF)))
 refine (hrc _).mono ?_
 rintro e w1 ⟨rfl, hx⟩
 have hB := hA.ext hx
 clear hF hA hx; have hA := hB; clear hB
 have hF := hA.facts; (try simp only [uY] at hA hF)
 cases rc
 · go_wp2_with fail
   refine bodyPost_ret (v := .tuple #[.string ⟨#[]⟩, .bool false]) (by simp [results, Tryz.results81, go_sem, hF]) rfl ⟨rfl, hA.toExt⟩
 · go_wp2_with fail
   refine bodyPost_ret (v := .tuple #[.string path, .bool true]) (by simp [results, Tryz.results81, go_sem, hF]) rfl ⟨rfl, hA.toExt⟩
theorem foot_6 (num : Int) (foot : ByteArray) (req : Int) (path : ByteArray) (mode n time : Int) (w : World) {rc : Bool} (hrc : ∀ w, Calls Tryz.prog 21 #[.agg #[.int .i64 6, .int .u64 num, .string foot, .int .u64 req, .string path, .int .i64 mode, .int .u64 n, .int .i64 time]] w fun e w' => e = .returned (.bool rc) ∧ Ext w w') :
 Calls Tryz.prog 81 #[.agg #[.int .i64 6, .int .u64 num, .string foot, .int .u64 req, .string path, .int .i64 mode, .int .u64 n, .int .i64 time]] w fun e w' => e = .returned (.tuple #[.string (if rc then path else .empty), .bool (rc && true)]) ∧ Ext w w' := by
 have hA : At [] w [] w := At.start (L0 := []) trivial
 have hF := hA.facts; (try simp only [uY] at hA hF)
 go_enter Tryz.func81, Tryz.ntmps81
 go_wp2_with ((with_reducible refine gbx ?_); refine wC (E := 29) hA ?_; clear hF hA; intro bX w1 hA hbX hF; (try simp only [uY] at hA hF))
 refine (had_6 _).mono ?_
 rintro e w1 ⟨rfl, hx⟩
 have hB := hA.ext hx
 clear hF hA hx; have hA := hB; clear hB
 have hF := hA.facts; (try simp only [uY] at hA hF)
 go_wp2_with (first | ((with_reducible refine gal ?_); refine wG 106 [.bool false, .bool false, .bool false, .bool false, .bool false, .bool false] hA ?_; clear hF hA; intro bH w1 hA hbH hF; (try simp only [uY] at hA hF)) | ((with_reducible refine gst ?_); refine wT hA ?_; clear hF hA; intro w1 hA hF; (try simp only [uY] at hA hF)))
 refine (hrc _).mono ?_
 rintro e w1 ⟨rfl, hx⟩
 have hB := hA.ext hx
 clear hF hA hx; have hA := hB; clear hB
 have hF := hA.facts; (try simp only [uY] at hA hF)
 cases rc
 · go_wp2_with fail
   refine bodyPost_ret (v := .tuple #[.string ⟨#[]⟩, .bool false]) (by simp [results, Tryz.results81, go_sem, hF]) rfl ⟨rfl, hA.toExt⟩
 · go_wp2_with fail
   refine bodyPost_ret (v := .tuple #[.string path, .bool true]) (by simp [results, Tryz.results81, go_sem, hF]) rfl ⟨rfl, hA.toExt⟩
theorem foot_7 (num : Int) (foot : ByteArray) (req : Int) (path : ByteArray) (mode n time : Int) (w : World) {rc : Bool} (hrc : ∀ w, Calls Tryz.prog 21 #[.agg #[.int .i64 7, .int .u64 num, .string foot, .int .u64 req, .string path, .int .i64 mode, .int .u64 n, .int .i64 time]] w fun e w' => e = .returned (.bool rc) ∧ Ext w w') :
 Calls Tryz.prog 81 #[.agg #[.int .i64 7, .int .u64 num, .string foot, .int .u64 req, .string path, .int .i64 mode, .int .u64 n, .int .i64 time]] w fun e w' => e = .returned (.tuple #[.string (if rc then path else .empty), .bool (rc && true)]) ∧ Ext w w' := by
 have hA : At [] w [] w := At.start (L0 := []) trivial
 have hF := hA.facts; (try simp only [uY] at hA hF)
 go_enter Tryz.func81, Tryz.ntmps81
 go_wp2_with ((with_reducible refine gbx ?_); refine wC (E := 29) hA ?_; clear hF hA; intro bX w1 hA hbX hF; (try simp only [uY] at hA hF))
 refine (had_7 _).mono ?_
 rintro e w1 ⟨rfl, hx⟩
 have hB := hA.ext hx
 clear hF hA hx; have hA := hB; clear hB
 have hF := hA.facts; (try simp only [uY] at hA hF)
 go_wp2_with (first | ((with_reducible refine gal ?_); refine wG 106 [.bool false, .bool false, .bool false, .bool false, .bool false, .bool false] hA ?_; clear hF hA; intro bH w1 hA hbH hF; (try simp only [uY] at hA hF)) | ((with_reducible refine gst ?_); refine wT hA ?_; clear hF hA; intro w1 hA hF; (try simp only [uY] at hA hF)))
 refine (hrc _).mono ?_
 rintro e w1 ⟨rfl, hx⟩
 have hB := hA.ext hx
 clear hF hA hx; have hA := hB; clear hB
 have hF := hA.facts; (try simp only [uY] at hA hF)
 cases rc
 · go_wp2_with fail
   refine bodyPost_ret (v := .tuple #[.string ⟨#[]⟩, .bool false]) (by simp [results, Tryz.results81, go_sem, hF]) rfl ⟨rfl, hA.toExt⟩
 · go_wp2_with fail
   refine bodyPost_ret (v := .tuple #[.string path, .bool true]) (by simp [results, Tryz.results81, go_sem, hF]) rfl ⟨rfl, hA.toExt⟩
theorem foot_8 (num : Int) (foot : ByteArray) (req : Int) (path : ByteArray) (mode n time : Int) (w : World) {rc : Bool} (hrc : ∀ w, Calls Tryz.prog 21 #[.agg #[.int .i64 8, .int .u64 num, .string foot, .int .u64 req, .string path, .int .i64 mode, .int .u64 n, .int .i64 time]] w fun e w' => e = .returned (.bool rc) ∧ Ext w w') :
 Calls Tryz.prog 81 #[.agg #[.int .i64 8, .int .u64 num, .string foot, .int .u64 req, .string path, .int .i64 mode, .int .u64 n, .int .i64 time]] w fun e w' => e = .returned (.tuple #[.string (if rc then foot else .empty), .bool (rc && true)]) ∧ Ext w w' := by
 have hA : At [] w [] w := At.start (L0 := []) trivial
 have hF := hA.facts; (try simp only [uY] at hA hF)
 go_enter Tryz.func81, Tryz.ntmps81
 go_wp2_with ((with_reducible refine gbx ?_); refine wC (E := 29) hA ?_; clear hF hA; intro bX w1 hA hbX hF; (try simp only [uY] at hA hF))
 refine (had_8 _).mono ?_
 rintro e w1 ⟨rfl, hx⟩
 have hB := hA.ext hx
 clear hF hA hx; have hA := hB; clear hB
 have hF := hA.facts; (try simp only [uY] at hA hF)
 go_wp2_with (first | ((with_reducible refine gal ?_); refine wG 106 [.bool false, .bool false, .bool false, .bool false, .bool false, .bool false] hA ?_; clear hF hA; intro bH w1 hA hbH hF; (try simp only [uY] at hA hF)) | ((with_reducible refine gst ?_); refine wT hA ?_; clear hF hA; intro w1 hA hF; (try simp only [uY] at hA hF)))
 refine (hrc _).mono ?_
 rintro e w1 ⟨rfl, hx⟩
 have hB := hA.ext hx
 clear hF hA hx; have hA := hB; clear hB
 have hF := hA.facts; (try simp only [uY] at hA hF)
 cases rc
 · go_wp2_with fail
   refine bodyPost_ret (v := .tuple #[.string ⟨#[]⟩, .bool false]) (by simp [results, Tryz.results81, go_sem, hF]) rfl ⟨rfl, hA.toExt⟩
 · go_wp2_with fail
   try go_frame
   (refine cA hA ?_); (have hn1 := Cl.none hA); (have hn2 := Cl.none2 hA); (repeat (first | go_big_quiet_skip | (go_big_quiet_want; (first | (refine qL ?_; go_frame; go_big_quiet_on) | (go_big_quiet_op; (first | go_big_quiet_on | ((apply Exists.intro); (refine ⟨fun w1 hw => ?_, ?_⟩); (focus ((have hw := Cl.out hw); (fail))); (go_big_quiet_on))))))))
   (refine wpQuiet_nil ?_); (intro w1 hB); (clear hF hA hn1 hn2); (have hA := Cl.out hB); (clear hB); have hF := hA.facts; (try simp only [uY] at hA hF)
   go_wp2_with fail
   refine bodyPost_ret (v := .tuple #[.string foot, .bool true]) (by simp [results, Tryz.results81, go_sem, hF]) rfl ⟨rfl, hA.toExt⟩
theorem foot_no (c : Cm) (hk : hasOf c.kind = none) (w : World) : Calls Tryz.prog 81 #[c.val] w fun e w' => e = .returned (.tuple #[.string .empty, .bool false]) ∧ Ext w w' := by
 have hA : At [] w [] w := At.start (L0 := []) trivial
 have hF := hA.facts
 have hno := fun w => had_no c.kind hk w
 have hrc := fun w => right_no c hk w
 clear hk
 obtain ⟨kind, num, foot, req, path, mode, n, time⟩ := c
 simp only [Cm.val] at *
 have hF := hA.facts; (try simp only [uY] at hA hF)
 go_enter Tryz.func81, Tryz.ntmps81
 go_wp2_with ((with_reducible refine gbx ?_); refine wC (E := 29) hA ?_; clear hF hA; intro bX w1 hA hbX hF; (try simp only [uY] at hA hF))
 refine (hno _).mono ?_
 clear hno
 rintro e w1 ⟨rfl, hx⟩
 have hB := hA.ext hx
 clear hF hA hx; have hA := hB; clear hB
 have hF := hA.facts; (try simp only [uY] at hA hF)
 go_wp2_with (first | ((with_reducible refine gal ?_); refine wG 106 [.bool false, .bool false, .bool false, .bool false, .bool false, .bool false] hA ?_; clear hF hA; intro bH w1 hA hbH hF; (try simp only [uY] at hA hF)) | ((with_reducible refine gst ?_); refine wT hA ?_; clear hF hA; intro w1 hA hF; (try simp only [uY] at hA hF)))
 refine (hrc _).mono ?_
 clear hrc
 rintro e w1 ⟨rfl, hx⟩
 have hB := hA.ext hx
 clear hF hA hx; have hA := hB; clear hB
 have hF := hA.facts; (try simp only [uY] at hA hF)
 go_wp2_with fail
 refine bodyPost_ret (v := .tuple #[.string ⟨#[]⟩, .bool false]) (by simp [results, Tryz.results81, go_sem, hF]) rfl ⟨rfl, hA.toExt⟩
theorem foot_any (c : Cm) (w : World) (hf : c.foot.size ≤ 1000) (hp : c.path.size ≤ 1000) : Calls Tryz.prog 81 #[c.val] w fun e w' => e = .returned (.tuple #[.string (footC c).1, .bool (footC c).2]) ∧ Ext w w' := by
 have hrc := fun w => right_any c w hf hp
 obtain ⟨kind, num, foot, req, path, mode, n, time⟩ := c
 by_cases h0 : kind = 0
 · subst h0
   have := foot_0 num foot req path mode n time w hrc
   have e : footC ⟨0, num, foot, req, path, mode, n, time⟩ = (if rightC ⟨0, num, foot, req, path, mode, n, time⟩ then (foot, false) else (.empty, false)) := rfl
   rw [e]
   cases hr : rightC ⟨0, num, foot, req, path, mode, n, time⟩
   · rw [hr] at this; exact this
   · rw [hr] at this; exact this
 by_cases h1 : kind = 1
 · subst h1
   have := foot_1 num foot req path mode n time w hrc
   have e : footC ⟨1, num, foot, req, path, mode, n, time⟩ = (if rightC ⟨1, num, foot, req, path, mode, n, time⟩ then (foot, true) else (.empty, false)) := rfl
   rw [e]
   cases hr : rightC ⟨1, num, foot, req, path, mode, n, time⟩
   · rw [hr] at this; exact this
   · rw [hr] at this; exact this
 by_cases h2 : kind = 2
 · subst h2
   have := foot_2 num foot req path mode n time w hrc
   have e : footC ⟨2, num, foot, req, path, mode, n, time⟩ = (if rightC ⟨2, num, foot, req, path, mode, n, time⟩ then (foot, true) else (.empty, false)) := rfl
   rw [e]
   cases hr : rightC ⟨2, num, foot, req, path, mode, n, time⟩
   · rw [hr] at this; exact this
   · rw [hr] at this; exact this
 by_cases h3 : kind = 3
 · subst h3
   have := foot_3 num foot req path mode n time w hrc
   have e : footC ⟨3, num, foot, req, path, mode, n, time⟩ = (if rightC ⟨3, num, foot, req, path, mode, n, time⟩ then (foot, true) else (.empty, false)) := rfl
   rw [e]
   cases hr : rightC ⟨3, num, foot, req, path, mode, n, time⟩
   · rw [hr] at this; exact this
   · rw [hr] at this; exact this
 by_cases h4 : kind = 4
 · subst h4
   have := foot_4 num foot req path mode n time w hrc
   have e : footC ⟨4, num, foot, req, path, mode, n, time⟩ = (if rightC ⟨4, num, foot, req, path, mode, n, time⟩ then (path, true) else (.empty, false)) := rfl
   rw [e]
   cases hr : rightC ⟨4, num, foot, req, path, mode, n, time⟩
   · rw [hr] at this; exact this
   · rw [hr] at this; exact this
 by_cases h5 : kind = 5
 · subst h5
   have := foot_5 num foot req path mode n time w hrc
   have e : footC ⟨5, num, foot, req, path, mode, n, time⟩ = (if rightC ⟨5, num, foot, req, path, mode, n, time⟩ then (path, true) else (.empty, false)) := rfl
   rw [e]
   cases hr : rightC ⟨5, num, foot, req, path, mode, n, time⟩
   · rw [hr] at this; exact this
   · rw [hr] at this; exact this
 by_cases h6 : kind = 6
 · subst h6
   have := foot_6 num foot req path mode n time w hrc
   have e : footC ⟨6, num, foot, req, path, mode, n, time⟩ = (if rightC ⟨6, num, foot, req, path, mode, n, time⟩ then (path, true) else (.empty, false)) := rfl
   rw [e]
   cases hr : rightC ⟨6, num, foot, req, path, mode, n, time⟩
   · rw [hr] at this; exact this
   · rw [hr] at this; exact this
 by_cases h7 : kind = 7
 · subst h7
   have := foot_7 num foot req path mode n time w hrc
   have e : footC ⟨7, num, foot, req, path, mode, n, time⟩ = (if rightC ⟨7, num, foot, req, path, mode, n, time⟩ then (path, true) else (.empty, false)) := rfl
   rw [e]
   cases hr : rightC ⟨7, num, foot, req, path, mode, n, time⟩
   · rw [hr] at this; exact this
   · rw [hr] at this; exact this
 by_cases h8 : kind = 8
 · subst h8
   have := foot_8 num foot req path mode n time w hrc
   have e : footC ⟨8, num, foot, req, path, mode, n, time⟩ = (if rightC ⟨8, num, foot, req, path, mode, n, time⟩ then (foot, true) else (.empty, false)) := rfl
   rw [e]
   cases hr : rightC ⟨8, num, foot, req, path, mode, n, time⟩
   · rw [hr] at this; exact this
   · rw [hr] at this; exact this
 have hk : hasOf kind = none := by unfold hasOf; simp [h0, h1, h2, h3, h4, h5, h6, h7, h8]
 have e : footC ⟨kind, num, foot, req, path, mode, n, time⟩ = (.empty, false) := by unfold footC rightC; simp only [hk]; rfl
 rw [e]
 exact foot_no ⟨kind, num, foot, req, path, mode, n, time⟩ hk w
theorem foot_size (c : Cm) (hf : c.foot.size ≤ 1000) (hp : c.path.size ≤ 1000) : (footC c).1.size ≤ 1000 := by
 have he : ByteArray.empty.size ≤ 1000 := by decide
 unfold footC
 split
 · split
   · split
     · exact hp
     · exact hf
   · exact he
 · exact he
theorem of_any (c : Cm) (w : World) (hf : c.foot.size ≤ 1000) (hp : c.path.size ≤ 1000) : Calls Tryz.prog 51 #[c.val] w fun e w' => e = .returned (.tuple #[.agg #[.string (if (footC c).2 then (footC c).1 else .empty), .int .u64 (if (footC c).2 then c.num else 0)], .bool (footC c).2]) ∧ Ext w w' := by
 have hA : At [] w [] w := At.start (L0 := []) trivial
 have hF := hA.facts
 have hfo := fun w => foot_any c w hf hp
 generalize footC c = fc at *
 obtain ⟨fp, fb⟩ := fc
 obtain ⟨kind, num, foot, req, path, mode, n, time⟩ := c
 simp only [Cm.val] at *
 have hF := hA.facts; (try simp only [uY] at hA hF)
 go_enter Tryz.func51, Tryz.ntmps51
 go_wp2_with (first | ((with_reducible refine gbx ?_); refine wC (E := 29) hA ?_; clear hF hA; intro bX w1 hA hbX hF; (try simp only [uY] at hA hF)) | ((with_reducible refine gal ?_); refine wG 116 [.string .empty, .int .u64 0] hA ?_; clear hF hA; intro bK w1 hA hbK hF; (try simp only [uY] at hA hF)))
 refine (hfo _).mono ?_
 clear hfo
 rintro e w1 ⟨rfl, hx⟩
 have hB := hA.ext hx
 clear hF hA hx; have hA := hB; clear hB
 have hF := hA.facts; (try simp only [uY] at hA hF)
 cases fb
 · go_wp2_with ((with_reducible refine gst ?_); refine wT hA ?_; clear hF hA; intro w1 hA hF; (try simp only [uY] at hA hF))
   refine bodyPost_ret (v := .tuple #[.agg #[.string ⟨#[]⟩, .int .u64 0], .bool false]) (by simp [results, Tryz.results51, go_sem, hF]) rfl ⟨rfl, hA.toExt⟩
 · go_wp2_with ((with_reducible refine gst ?_); refine wT hA ?_; clear hF hA; intro w1 hA hF; (try simp only [uY] at hA hF))
   refine bodyPost_ret (v := .tuple #[.agg #[.string fp, .int .u64 num], .bool true]) (by simp [results, Tryz.results51, go_sem, hF]) rfl ⟨rfl, hA.toExt⟩
theorem clash_any (f : ByteArray) (n : Int) (g : ByteArray) (m : Int) (w : World) (hf : f.size ≤ 1000) (hg : g.size ≤ 1000) : Calls Tryz.prog 52 #[.agg #[.string f, .int .u64 n], .agg #[.string g, .int .u64 m]] w fun e w' => e = .returned (.bool ((n == m) || overB (bl f) (bl g))) ∧ Ext w w' := by
 have hA : At [] w [] w := At.start (L0 := []) trivial
 have hF := hA.facts
 have hov := fun w => Path.overlap_any f g w (by omega) (by omega)
 generalize overB (bl f) (bl g) = ob at *
 obtain ⟨x, hx0⟩ : ∃ x, (n == m) = x := ⟨_, rfl⟩
 rw [hx0]
 have hF := hA.facts; (try simp only [uY] at hA hF)
 cases x
 · go_enter Tryz.func52, Tryz.ntmps52
   go_wp2_with (first | ((with_reducible show wpList _ _ _ ({ dst := some 2, op := Op.box _ _, type := _, pos := _, after := _, guard := _ } :: _) _ _); ((with_reducible refine gbx ?_); refine wH 116 [.string f, .int .u64 n] hA ?_; clear hF hA; intro bA w1 hA hbA hF; (try simp only [uY] at hA hF))) | ((with_reducible show wpList _ _ _ ({ dst := some 3, op := Op.box _ _, type := _, pos := _, after := _, guard := _ } :: _) _ _); ((with_reducible refine gbx ?_); refine wH 116 [.string g, .int .u64 m] hA ?_; clear hF hA; intro bB w1 hA hbB hF; (try simp only [uY] at hA hF))))
   refine (hov _).mono ?_
   clear hov
   rintro e w1 ⟨rfl, hx⟩
   have hB := hA.ext hx
   clear hF hA hx; have hA := hB; clear hB
   have hF := hA.facts; (try simp only [uY] at hA hF)
   go_wp2_with fail
   go_ret
   exact ⟨rfl, hA.toExt⟩
 · go_enter Tryz.func52, Tryz.ntmps52
   go_wp2_with (first | ((with_reducible show wpList _ _ _ ({ dst := some 2, op := Op.box _ _, type := _, pos := _, after := _, guard := _ } :: _) _ _); ((with_reducible refine gbx ?_); refine wH 116 [.string f, .int .u64 n] hA ?_; clear hF hA; intro bA w1 hA hbA hF; (try simp only [uY] at hA hF))) | ((with_reducible show wpList _ _ _ ({ dst := some 3, op := Op.box _ _, type := _, pos := _, after := _, guard := _ } :: _) _ _); ((with_reducible refine gbx ?_); refine wH 116 [.string g, .int .u64 m] hA ?_; clear hF hA; intro bB w1 hA hbB hF; (try simp only [uY] at hA hF))))
   go_ret
   exact ⟨rfl, hA.toExt⟩
end Go.Proofs.YtpebabaigakagaaGreatDoor.Cmd
end
