/- RegI, IpF, IndexO, joined. -/
import Derived.Test.YtgbpfgdjnhbcgaaGreatDoorQ20
import Derived.Lib.SmallJoins
set_option linter.unusedSimpArgs false
set_option linter.unusedVariables false
set_option maxRecDepth 100000
set_option maxHeartbeats 16000000
section
namespace Go.Proofs.YtgbpfgdjnhbcgaaGreatDoor
open Go.RowKit
section
variable {P : Program} {ops : Array Oper} {rest : List Oper} {o : Oper} {a : Act} {Q : Exit → Act → World → Prop} {L0 L F : List Part} {w0 w : World}
theorem wpList_loadPart_at {ty : TypeId} {x : Operand} (hg : o.guard = none) (hop : o.op = .load ty x) {b : Nat} (hx : a.eval x = .pointer (some ⟨b, 0, none⟩)) {vs : List Value} {T : TypeId} (h : At L0 w0 L w) (s : Sel (Part.cells b vs T) L F)
 (hu : (P.underlying ty).map (·.isRow) = some true) (hi : (P.info? ty).map (·.size) = some vs.length)
 (hK : wpList P ops Q rest (a.put o.dst (.agg vs.toArray)) w) : wpList P ops Q (o :: rest) a w :=
 wpList_loadRow_at hg hop hx (fun k u hk => by
  have hb : BlockIs w b vs T := h.get s
  rw [Nat.zero_add, hb.cell]; exact hk) hu hi hK
end
end Go.Proofs.YtgbpfgdjnhbcgaaGreatDoor
end
section
namespace Go.Proofs.YtgbpfgdjnhbcgaaGreatDoor.Ix
open Go.RowKit
open Go.Maps (Keyed)
open Path (bl rightB overB)
open Attr (A8 rightI)
open Cmd (Cm keyC footC through0)
attribute [-go_sem] run_eql_struct run_neq_struct run_eqGuard_agg
attribute [local go_sem] Attr.guardA Attr.eqlA
theorem guardKy (op : BinOp) (x y : Operand) (a b c d : Value) (w : World) : (eqGuard op 37 x y (.agg #[a, b]) (.agg #[c, d])).run Tryz.prog w = .ok () w := run_eqGuard_agg _ _ _ _ _ _ _ (by kernel_rfl)
theorem neqKy (f : ByteArray) (n : Int) (w : World) : (binOp .neq 37 (.agg #[.string f, .int .u64 n]) (.agg #[.string f, .int .u64 n])).run Tryz.prog w = .ok (.bool false) w := by
 have h : (Op.equalIn 10000 37 (.agg #[.string f, .int .u64 n]) (.agg #[.string f, .int .u64 n])).run Tryz.prog w = .ok true w := by
  rw [run_equalIn_agg _ 9999 _ _ _ (by kernel_rfl) (by kernel_rfl)]
  simp [go_sem, Op.eqFields]
 rw [run_neq_struct, h]; rfl
theorem guardRa (op : BinOp) (x y : Operand) (c1 c2 c3 c4 c5 c6 c7 c8 e1 e2 e3 e4 e5 e6 e7 e8 : Value) (w : World) : (eqGuard op 51 x y (.agg #[c1, c2, c3, c4, c5, c6, c7, c8]) (.agg #[e1, e2, e3, e4, e5, e6, e7, e8])).run Tryz.prog w = .ok () w := run_eqGuard_agg _ _ _ _ _ _ _ (by kernel_rfl)
theorem sameRa (s d0 d1 d2 d3 d4 d5 d6 : Int) (w : World) : (Go.Op.equalIn 10000 51 (.agg #[.int .i64 s, .int .i64 d0, .int .i64 d1, .int .i64 d2, .int .i64 d3, .int .i64 d4, .int .i64 d5, .int .i64 d6]) (.agg #[.int .i64 s, .int .i64 d0, .int .i64 d1, .int .i64 d2, .int .i64 d3, .int .i64 d4, .int .i64 d5, .int .i64 d6])).run Tryz.prog w = .ok true w := by
 rw [run_equalIn_agg _ 9999 _ _ _ (by kernel_rfl) (by kernel_rfl)]
 simp [go_sem, Go.Op.eqFields, show ∀ w, (Go.Op.equalIn 9999 38 (.agg #[.int .i64 d0, .int .i64 d1, .int .i64 d2, .int .i64 d3, .int .i64 d4, .int .i64 d5, .int .i64 d6]) (.agg #[.int .i64 d0, .int .i64 d1, .int .i64 d2, .int .i64 d3, .int .i64 d4, .int .i64 d5, .int .i64 d6])).run Tryz.prog w = .ok true w from fun w => Attr.same7g 9997 d0 d1 d2 d3 d4 d5 d6 w]
theorem neqRa (s d0 d1 d2 d3 d4 d5 d6 : Int) (w : World) : (binOp .neq 51 (.agg #[.int .i64 s, .int .i64 d0, .int .i64 d1, .int .i64 d2, .int .i64 d3, .int .i64 d4, .int .i64 d5, .int .i64 d6]) (.agg #[.int .i64 s, .int .i64 d0, .int .i64 d1, .int .i64 d2, .int .i64 d3, .int .i64 d4, .int .i64 d5, .int .i64 d6])).run Tryz.prog w = .ok (.bool false) w := by rw [run_neq_struct, sameRa]; rfl
theorem eqlRa (s d0 d1 d2 d3 d4 d5 d6 : Int) (w : World) : (binOp .eql 51 (.agg #[.int .i64 s, .int .i64 d0, .int .i64 d1, .int .i64 d2, .int .i64 d3, .int .i64 d4, .int .i64 d5, .int .i64 d6]) (.agg #[.int .i64 s, .int .i64 d0, .int .i64 d1, .int .i64 d2, .int .i64 d3, .int .i64 d4, .int .i64 d5, .int .i64 d6])).run Tryz.prog w = .ok (.bool true) w := by rw [run_eql_struct, sameRa]; rfl
attribute [local go_sem] guardKy neqKy guardRa neqRa eqlRa
theorem below_oldX {w w' : World} {L F : List Part} (h : At [Part.old w] w L w') (s : Sel (Part.old w) L F) : Below w.heap.size w w' := by
 have ho : (Part.old w).holds w' := h.get s
 exact ⟨h.exc.os, h.exc.tape, h.exc.output, h.exc.size, fun b hb => ho b hb⟩
theorem fineL_stepL {l : List En} (h : FineL l) {o : Op12} (ho : o.ok) : FineL (stepL l o) := by
 have key : ∀ q, opN o = some q → Fine q.2 ∧ q.1.1.size ≤ 1000 := fun q hq => by
  unfold opN at hq
  split at hq
  · split at hq
    · rename_i k hk
      split at hq
      · rename_i hr
        cases hq
        refine ⟨fine_note hr, ?_⟩
        unfold keyC at hk
        split at hk
        · cases hk; exact Cmd.foot_size _ ho.cf ho.cp
        · cases hk
      · cases hq
    · cases hq
  · split at hq
    · split at hq
      · rename_i hr
        cases hq
        simp only [Bool.and_eq_true] at hr
        exact ⟨fine_iff.1 hr.2, ho.ef⟩
      · cases hq
    · cases hq
 unfold stepL
 cases hq : opN o with
 | none => exact h
 | some q =>
  intro e he
  rcases List.mem_append.1 he with he | he
  · exact h e he
  · rw [List.mem_singleton.1 he]; exact key q hq
theorem stepL_len (l : List En) (o : Op12) : (stepL l o).length ≤ l.length + 1 := by
 unfold stepL
 split <;> simp
theorem ask_both {l : List En} (h : FineL l) (k : Option (ByteArray × Int)) (r t : Int) : askE (entsOf l) k r t = askE l k r t := by
 unfold askE
 cases k with
 | none => rfl
 | some k => simp only []; rw [ask_ents (fun e he => (h e he).1)]
theorem list_is {l m : List En} (hf : FineL l) (hp : m.Perm (entsOf l)) (hs : m.Pairwise ltX) : m = entsK l := by
 obtain ⟨h1, h2⟩ := entsK_of (fun e he => (hf e he).1)
 refine stK_one ?_ h1 (hp.trans h2.symm)
 unfold StK
 rw [List.pairwise_map]
 refine hs.imp fun {a b} q => ?_
 rcases q with q | ⟨q1, q2⟩
 · exact .inl q
 · exact .inr ⟨by show Go.Lib.compareBytes (bl a.foot) (bl b.foot) = 0; rw [q1]; exact Cb.cb_self _, q2⟩
theorem merge_from {f : ByteArray} {n : Int} {a : A8} : ∀ {es : List En} {e : En}, e ∈ mergeE es f n a → e.foot = f ∨ ∃ x ∈ es, e.foot = x.foot
 | [], e, h => by unfold mergeE at h; rw [List.mem_singleton.1 h]; exact .inl rfl
 | x :: es, e, h => by
  unfold mergeE at h
  split at h
  · rcases List.mem_cons.1 h with rfl | h
    · exact .inl rfl
    · exact .inr ⟨e, by simp [h], rfl⟩
  · rcases List.mem_cons.1 h with rfl | h
    · exact .inr ⟨e, by simp, rfl⟩
    · rcases merge_from h with q | ⟨y, hy, q⟩
      · exact .inl q
      · exact .inr ⟨y, by simp [hy], q⟩
theorem ents_from (l : List En) : ∀ e ∈ entsOf l, ∃ x ∈ l, e.foot = x.foot := by
 unfold entsOf
 suffices H : ∀ (l es : List En) (e : En), e ∈ l.foldl (fun es e => mergeE es e.foot e.num e.a) es → (∃ x ∈ l, e.foot = x.foot) ∨ ∃ x ∈ es, e.foot = x.foot from fun e he => (H l [] e he).elim id (fun ⟨x, hx, _⟩ => absurd hx (by simp))
 intro l
 induction l with
 | nil => exact fun es e h => .inr ⟨e, h, rfl⟩
 | cons y l ih =>
  intro es e h
  rcases ih _ e h with ⟨x, hx, q⟩ | ⟨x, hx, q⟩
  · exact .inl ⟨x, by simp [hx], q⟩
  · rcases merge_from hx with q2 | ⟨z, hz, q2⟩
    · exact .inl ⟨y, by simp, q.trans q2⟩
    · exact .inr ⟨z, hz, q.trans q2⟩
def I1Rel (w : World) (p m b4 b5 : Nat) (c4 c5 : List Value) (os : List Op12) (k : Nat) (u8 u : Value) (wr : World) : Prop :=
 ∃ (i : Nat) (l : List En), u = .int .i64 i ∧ i + k = os.length ∧ FineL l ∧ l.length ≤ i ∧ At [Part.old w] w [IxP p m (entsOf l), rowN u8 l, Part.cells b4 c4 27, Part.cells b5 c5 29, Part.old w] wr
def I2Rel (w : World) (L : List Part) (n : Nat) (k : Nat) (u : Value) (wr : World) : Prop := ∃ i : Nat, u = .int .i64 i ∧ i + k = n ∧ At [Part.old w] w L wr
set_option maxRecDepth 1000000 in
theorem plays_law {w : World} {va : Value} {os : List Op12} (hops : OpsAt w va os) (hol : os.length ≤ 9223372036854775807) (c : Cm) (cn0 : 0 ≤ c.num) (cn1 : c.num < big64) (ir it : Int) :
 Calls Tryz.prog 3 #[va, c.val, .agg #[.int .i64 ir, .int .i64 it]] w fun e w' => e = .returned (.bool true) ∧ Below w.heap.size w w' := by
 have hA : At [Part.old w] w [Part.old w] w := At.start ⟨fun _ _ => rfl, trivial, nofun⟩
 have hf1 := fun (w1 : World) (q : Sep [Part.old w] w1) => fits_any q hops 40 hol
 have hs1 := fun w => small_any c w
 obtain ⟨f1, hf1d⟩ : ∃ x, fitsB os 40 = x := ⟨_, rfl⟩
 obtain ⟨s1, hs1d⟩ : ∃ x, smallB c = x := ⟨_, rfl⟩
 rw [hf1d] at hf1
 rw [hs1d] at hs1
 have hall := Lib.hid (show fitsB os 40 = f1 ∧ smallB c = s1 from ⟨hf1d, hs1d⟩)
 clear hf1d hs1d
 obtain ⟨sa, sc, rfl, hel⟩ := hops
 have hel' := Lib.hid hel
 have hc' := Lib.hid (show 0 ≤ c.num ∧ c.num < big64 from ⟨cn0, cn1⟩)
 clear hel cn0 cn1
 obtain ⟨kind, num, foot, req, path, mode, n, time⟩ := c
 simp only [Cm.val] at hs1 ⊢
 have hs1' := Lib.hid hs1
 have hf1' := Lib.hid hf1
 clear hs1 hf1
 have hF := hA.facts; (try simp only [uZ] at hA hF)
 go_enter Tryz.func3, Tryz.ntmps3
 go_wp2_with (first | (((with_reducible show wpList _ _ _ ({ dst := some 4, op := Op.box _ _, type := _, pos := _, after := _, guard := _ } :: _) _ _)); ((with_reducible refine gbx ?_); refine wH 27 [.int .i64 kind, .int .u64 num, .string foot, .int .u64 req, .string path, .int .i64 mode, .int .u64 n, .int .i64 time] hA ?_; clear hF hA; intro b4 w1 hA hb4 hF; (try simp only [uZ] at hA hF))) | (((with_reducible show wpList _ _ _ ({ dst := some 5, op := Op.box _ _, type := _, pos := _, after := _, guard := _ } :: _) _ _)); ((with_reducible refine gbx ?_); refine wH 29 [.int .i64 ir, .int .i64 it] hA ?_; clear hF hA; intro b5 w1 hA hb5 hF; (try simp only [uZ] at hA hF))) | ((with_reducible refine gst ?_); refine wT hA ?_; clear hF hA; intro w1 hA hF; (try simp only [uZ] at hA hF)) | ((with_reducible refine gbx ?_); refine wC hA ?_; clear hF hA; intro b1 w1 hA hb1 hF; (try simp only [uZ] at hA hF)))
 refine (anchor_any _).mono ?_
 rintro e w1 ⟨rfl, hx⟩
 have hB := hA.ext hx
 clear hx
 clear hF hA; have hA := hB; clear hB
 try simp only [uA] at hA
 have hF := hA.facts; (try simp only [uZ] at hA hF)
 go_wp2_with (first | ((with_reducible refine gst ?_); refine wT hA ?_; clear hF hA; intro w1 hA hF; (try simp only [uZ] at hA hF)) | ((with_reducible refine gbx ?_); refine wC hA ?_; clear hF hA; intro b1 w1 hA hb1 hF; (try simp only [uZ] at hA hF)))
 refine (hf1'.out _ (hA.sep1 (A := Part.old w) sZ)).mono ?_
 rintro e w1 ⟨rfl, hT⟩
 have hB := hA.call1 (A := Part.old w) sZ hT
 clear hT
 clear hF hA; have hA := hB; clear hB
 try simp only [uA] at hA
 have hF := hA.facts; (try simp only [uZ] at hA hF)
 cases f1
 · go_wp2_with (first | ((with_reducible refine gst ?_); refine wT hA ?_; clear hF hA; intro w1 hA hF; (try simp only [uZ] at hA hF)) | ((with_reducible refine gbx ?_); refine wC hA ?_; clear hF hA; intro b1 w1 hA hb1 hF; (try simp only [uZ] at hA hF)))
   go_ret
   exact ⟨rfl, below_oldX hA sZ⟩
 have hcc := (hA.get (A := Part.cells b4 [.int .i64 kind, .int .u64 num, .string foot, .int .u64 req, .string path, .int .i64 mode, .int .u64 n, .int .i64 time] 27) sZ : BlockIs _ _ _ _)
 have cc0 := hcc.cell 0
 have cc1 := hcc.cell 1
 have cc2 := hcc.cell 2
 have cc3 := hcc.cell 3
 have cc4 := hcc.cell 4
 have cc5 := hcc.cell 5
 have cc6 := hcc.cell 6
 have cc7 := hcc.cell 7
 clear hcc
 go_wp2_with (first | ((with_reducible refine gst ?_); refine wT hA ?_; clear hF hA; intro w1 hA hF; (try simp only [uZ] at hA hF)) | ((with_reducible refine gbx ?_); refine wC hA ?_; clear hF hA; intro b1 w1 hA hb1 hF; (try simp only [uZ] at hA hF)))
 refine (hs1'.out _).mono ?_
 clear cc0 cc1 cc2 cc3 cc4 cc5 cc6 cc7
 rintro e w1 ⟨rfl, hx⟩
 have hB := hA.ext hx
 clear hx
 clear hF hA; have hA := hB; clear hB
 try simp only [uA] at hA
 have hF := hA.facts; (try simp only [uZ] at hA hF)
 cases s1
 · go_wp2_with (first | ((with_reducible refine gst ?_); refine wT hA ?_; clear hF hA; intro w1 hA hF; (try simp only [uZ] at hA hF)) | ((with_reducible refine gbx ?_); refine wC hA ?_; clear hF hA; intro b1 w1 hA hb1 hF; (try simp only [uZ] at hA hF)))
   go_ret
   exact ⟨rfl, below_oldX hA sZ⟩
 have hcf : foot.size ≤ 1000 ∧ path.size ≤ 1000 := by have h := hall.out.2; unfold smallB at h; simp at h; omega
 have hos40 : os.length ≤ 40 ∧ (∀ o ∈ os, okB o = true) := by have h := hall.out.1; unfold fitsB at h; simp only [Bool.and_eq_true, List.all_eq_true, decide_eq_true_iff] at h; exact ⟨by omega, h.1⟩
 have hosk := Lib.hid hos40.2
 have hcf' := Lib.hid hcf
 obtain ⟨hos40, _⟩ := hos40
 clear hcf hall
 go_wp2_with (first | ((with_reducible refine gst ?_); refine wT hA ?_; clear hF hA; intro w1 hA hF; (try simp only [uZ] at hA hF)) | ((with_reducible refine gbx ?_); refine wC hA ?_; clear hF hA; intro b1 w1 hA hb1 hF; (try simp only [uZ] at hA hF)))
 refine (new_any _).mono ?_
 rintro e w2 ⟨p, m, rfl, hT⟩
 have hB := hA.call0 hT
 clear hT
 clear hF hA; have hA := hB; clear hB
 try simp only [uA] at hA
 have hF := hA.facts; (try simp only [uZ] at hA hF)
 go_wp2_with (first | ((with_reducible refine gst ?_); refine wT hA ?_; clear hF hA; intro w1 hA hF; (try simp only [uZ] at hA hF)) | ((with_reducible refine gbx ?_); refine wC hA ?_; clear hF hA; intro b1 w1 hA hb1 hF; (try simp only [uZ] at hA hF)))
 try go_frame
 have hB := rowN_nil hA
 clear hF hA; have hA := hB; clear hB
 go_loopg [8, 29] os.length (I1Rel w p m b4 b5 [.int .i64 kind, .int .u64 num, .string foot, .int .u64 req, .string path, .int .i64 mode, .int .u64 n, .int .i64 time] [.int .i64 ir, .int .i64 it] os)
 case atStart => exact ⟨0, [], rfl, by omega, nofun, by simp, hA.pick pZ⟩
 case round =>
  obtain ⟨i, l, rfl, hik, hfl, hln, hB⟩ := hrel
  have hfl' := Lib.hid hfl
  clear hA hfl; have hA := hB; clear hB
  by_cases hi : i < os.length
  · obtain ⟨bk, off, rfl, hce, hnn⟩ := hel'.out i hi
    have hoo := Lib.hid (okB_ok (hosk.out os[i] (List.getElem_mem hi)) hnn)
    have hgs := Lib.hid (fineL_stepL hfl'.out hoo.out)
    have hls := stepL_len l os[i]
    obtain ⟨o, hoi⟩ : ∃ o, os[i] = o := ⟨_, rfl⟩
    simp only [hoi] at hce hoo hgs hls
    clear hoi hnn
    have hst := fun (w1 : World) (q : Sep [IxP p m (entsOf l), rowN u8 l] w1) => stepQ_any q (by omega) o hoo.out
    simp only [stepL_ents] at hst
    generalize stepL l o = l' at *
    obtain ⟨kd, ⟨okind, onum, ofoot, oreq, opath, omode, on, otime⟩, r, t, q, ⟨ef, en, ⟨e0, e1, e2, e3, e4, e5, e6, e7⟩⟩⟩ := o
    have hr22' := Lib.hid (show ∀ (k : Nat) u, ([.int .i64 kd, .int .i64 okind, .int .u64 onum, .string ofoot, .int .u64 oreq, .string opath, .int .i64 omode, .int .u64 on, .int .i64 otime, .int .i64 r, .int .i64 t, .int .i64 q, .string ef, .int .u64 en, .int .i64 e0, .int .i64 e1, .int .i64 e2, .int .i64 e3, .int .i64 e4, .int .i64 e5, .int .i64 e6, .int .i64 e7] : List Value)[k]? = some u → wr.cell? ⟨bk, off + i * 22 + k, none⟩ = some u from fun k u hk => old_cell (hA.get (A := Part.old w) sZ) (hce k u hk))
    have hst' := Lib.hid hst
    clear hce hoo hst
    have hF := hA.facts; (try simp only [uZ] at hA hF)
    go_wp2_with (first | ((with_reducible refine gal ?_); refine wG 44 [.int .i64 0, .int .i64 0, .int .u64 0, .string .empty, .int .u64 0, .string .empty, .int .i64 0, .int .u64 0, .int .i64 0, .int .i64 0, .int .i64 0, .int .i64 0, .string .empty, .int .u64 0, .int .i64 0, .int .i64 0, .int .i64 0, .int .i64 0, .int .i64 0, .int .i64 0, .int .i64 0, .int .i64 0] hA ?_; clear hF hA; intro b10 w1 hA hb10 hF; (try simp only [uZ] at hA hF)) | ((with_reducible show wpList _ _ _ ({ dst := some 32, op := Op.load _ _, type := _, pos := _, after := _, guard := _ } :: _) _ _); refine wpList_loadRow_at (vs := [.int .i64 kd, .int .i64 okind, .int .u64 onum, .string ofoot, .int .u64 oreq, .string opath, .int .i64 omode, .int .u64 on, .int .i64 otime, .int .i64 r, .int .i64 t, .int .i64 q, .string ef, .int .u64 en, .int .i64 e0, .int .i64 e1, .int .i64 e2, .int .i64 e3, .int .i64 e4, .int .i64 e5, .int .i64 e6, .int .i64 e7]) rfl rfl (by (try simp only [Act.eval, eV]) <;> exact rfl) hr22'.out (by kernel_rfl) (by kernel_rfl) ?_) | ((with_reducible show wpList _ _ _ ({ dst := _, op := Op.store _ _ _, type := _, pos := _, after := _, guard := _ } :: _) _ _); refine wpList_storeAll_at (b := b10) (vs := [.int .i64 kd, .int .i64 okind, .int .u64 onum, .string ofoot, .int .u64 oreq, .string opath, .int .i64 omode, .int .u64 on, .int .i64 otime, .int .i64 r, .int .i64 t, .int .i64 q, .string ef, .int .u64 en, .int .i64 e0, .int .i64 e1, .int .i64 e2, .int .i64 e3, .int .i64 e4, .int .i64 e5, .int .i64 e6, .int .i64 e7]) rfl rfl (by (try simp only [Act.eval, eV]) <;> exact rfl) (by (try simp only [Act.eval, eV]) <;> exact rfl) (by kernel_rfl) hA sR (by kernel_rfl) rfl rfl ?_; intro w1 hB; clear hF hA; have hA := hB; clear hB; have hF := hA.facts; (try simp only [uZ] at hA hF)) | ((with_reducible show wpList _ _ _ ({ dst := some 36, op := Op.load _ _, type := _, pos := _, after := _, guard := _ } :: _) _ _); refine wpList_loadPart_at (b := b10) (vs := [.int .i64 kd, .int .i64 okind, .int .u64 onum, .string ofoot, .int .u64 oreq, .string opath, .int .i64 omode, .int .u64 on, .int .i64 otime, .int .i64 r, .int .i64 t, .int .i64 q, .string ef, .int .u64 en, .int .i64 e0, .int .i64 e1, .int .i64 e2, .int .i64 e3, .int .i64 e4, .int .i64 e5, .int .i64 e6, .int .i64 e7]) rfl rfl (by (try simp only [Act.eval, eV]) <;> exact rfl) hA sZ (by kernel_rfl) (by kernel_rfl) ?_) | ((with_reducible refine gst ?_); refine wT hA ?_; clear hF hA; intro w1 hA hF; (try simp only [uZ] at hA hF)) | ((with_reducible refine gbx ?_); refine wC hA ?_; clear hF hA; intro b1 w1 hA hb1 hF; (try simp only [uZ] at hA hF)))
    refine (hst'.out _ (hA.sep2 (A := IxP p m (entsOf l)) (B := rowN u8 l) sZ sZ)).mono ?_
    rintro e w3 ⟨v', rfl, hT⟩
    have hB := hA.call2 (A := IxP p m (entsOf l)) (B := rowN u8 l) sZ sZ hT
    clear hT hst'
    clear hF hA; have hA := hB; clear hB
    try simp only [uA] at hA
    have hF := hA.facts; (try simp only [uZ] at hA hF)
    go_wp2_with (first | ((with_reducible refine gst ?_); refine wT hA ?_; clear hF hA; intro w1 hA hF; (try simp only [uZ] at hA hF)) | ((with_reducible refine gbx ?_); refine wC hA ?_; clear hF hA; intro b1 w1 hA hb1 hF; (try simp only [uZ] at hA hF)))
    go_roundg (gk - 1)
    case measure => omega
    case rel => exact ⟨i + 1, l', by simp, by omega, hgs.out, by omega, hA.pick pZ⟩
  · have hle : l.length ≤ 40 := by omega
    clear hel' hosk hik hln
    have hel := entsK_len l
    have hpk := (entsK_of (fun e he => (hfl'.out e he).1)).2.length_eq
    have hfe : ∀ e ∈ entsOf l, e.foot.size ≤ 1000 := fun e he => by
     obtain ⟨x, hx, hk⟩ := ents_from l e he
     have := (hfl'.out x hx).2
     rw [hk]; exact this
    have hfe' := Lib.hid hfe
    clear hfe
    have hF := hA.facts; (try simp only [uZ] at hA hF)
    go_wp2_with (first | ((with_reducible refine gst ?_); refine wT hA ?_; clear hF hA; intro w1 hA hF; (try simp only [uZ] at hA hF)) | ((with_reducible refine gbx ?_); refine wC hA ?_; clear hF hA; intro b1 w1 hA hb1 hF; (try simp only [uZ] at hA hF)))
    refine (entries_any (hA.sep1 (A := rowN u8 l) sZ) (by omega)).mono ?_
    rintro e w3 ⟨vk, rfl, hT⟩
    have hB := hA.call1 (A := rowN u8 l) sZ hT
    clear hT
    clear hF hA; have hA := hB; clear hB
    try simp only [uA] at hA
    have hF := hA.facts; (try simp only [uZ] at hA hF)
    go_wp2_with (first | ((with_reducible refine gst ?_); refine wT hA ?_; clear hF hA; intro w1 hA hF; (try simp only [uZ] at hA hF)) | ((with_reducible refine gbx ?_); refine wC hA ?_; clear hF hA; intro b1 w1 hA hb1 hF; (try simp only [uZ] at hA hF)))
    refine (list_any (hA.sep1 (A := IxP p m (entsOf l)) sZ) (by omega)).mono ?_
    rintro e w3 ⟨vl, ll, rfl, hpm, hpw, hT⟩
    have hll := list_is hfl'.out hpm hpw
    subst hll
    have hB := hA.call1 (A := IxP p m (entsOf l)) sZ hT
    clear hT hpm hpw
    clear hF hA; have hA := hB; clear hB
    try simp only [uA] at hA
    have hcn := fun (w1 : World) (q : Sep [IxP p m (entsOf l)] w1) => count_any q
    rw [← hpk] at hcn
    obtain ⟨K, hK⟩ : ∃ K, entsK l = K := ⟨_, rfl⟩
    rw [hK] at hA hcn hel
    have hcn' := Lib.hid hcn
    have hpk' := Lib.hid hpk
    clear hK hcn hpk
    obtain ⟨lx, lcap, rfl, hlx, hlcap, _⟩ := hA.row_form (e := 42) (size := 10) (v := vl) (n := K.length) (xs := K.flatMap En.cells) .here
    obtain ⟨kx, kcap, rfl, hkx, hkcap, _⟩ := hA.row_form (e := 53) (size := 10) (v := vk) (n := K.length) (xs := K.flatMap En.cells) sZ
    clear hlx hkx
    have hne : ((K.length : Int) != (K.length : Int)) = false := by simp
    have hF := hA.facts; (try simp only [uZ] at hA hF)
    go_wp2_with (first | ((with_reducible refine gst ?_); refine wT hA ?_; clear hF hA; intro w1 hA hF; (try simp only [uZ] at hA hF)) | ((with_reducible refine gbx ?_); refine wC hA ?_; clear hF hA; intro b1 w1 hA hb1 hF; (try simp only [uZ] at hA hF)))
    refine (hcn'.out _ (hA.sep1 (A := IxP p m (entsOf l)) sZ)).mono ?_
    rintro e w1 ⟨rfl, hT⟩
    have hB := hA.call1 (A := IxP p m (entsOf l)) sZ hT
    clear hT
    clear hF hA; have hA := hB; clear hB
    try simp only [uA] at hA
    have hF := hA.facts; (try simp only [uZ] at hA hF)
    go_wp2_with (first | ((with_reducible refine gst ?_); refine wT hA ?_; clear hF hA; intro w1 hA hF; (try simp only [uZ] at hA hF)) | ((with_reducible refine gbx ?_); refine wC hA ?_; clear hF hA; intro b1 w1 hA hb1 hF; (try simp only [uZ] at hA hF)))
    try go_frame
    clear hi
    go_loopg [61] K.length (I2Rel w [rowX (.slice lx K.length lcap) K, rowN (.slice kx K.length kcap) K, IxP p m (entsOf l), rowN u8 l, Part.cells b4 [.int .i64 kind, .int .u64 num, .string foot, .int .u64 req, .string path, .int .i64 mode, .int .u64 n, .int .i64 time] 27, Part.cells b5 [.int .i64 ir, .int .i64 it] 29, Part.old w] K.length)
    case atStart => exact ⟨0, rfl, by omega, hA.pick pZ⟩
    case round =>
     obtain ⟨i, rfl, hik, hB⟩ := hrel
     clear hF hA; have hA := hB; clear hB
     by_cases hi : i < K.length
     · have hvs := xs_at hi
       obtain ⟨ga, hga⟩ : ∃ g, lx = some ⟨g, 0, none⟩ := by
        obtain ⟨g, c, q, _⟩ := hA.row_open (ax := lx) (cap := lcap) (n := K.length) (xs := K.flatMap En.cells) (e := 42) sZ (by omega)
        exact ⟨g, q⟩
       obtain ⟨gk2, ck, hgk, _, hkm, hkl, hkt, hB⟩ := hA.row_open (e := 53) (size := 10) (ax := kx) (cap := kcap) (n := K.length) (xs := K.flatMap En.cells) sZ (by omega)
       subst hga hgk
       have hx : K[i]? = some K[i] := List.getElem?_eq_getElem hi
       have hd := cells_at enL_len hkt hx
       have hc10 := cut_cells enL_len hkt hx
       obtain ⟨x, hxx⟩ : ∃ x, K[i] = x := ⟨_, rfl⟩
       rw [hxx] at hvs hd hc10
       clear hxx hx hA; have hA := hB; clear hB
       obtain ⟨xf, xn, ⟨x0, x1, x2, x3, x4, x5, x6, x7⟩⟩ := x
       have hvs := Lib.hid (show _ = ([.string xf, .int .u64 xn, .int .i64 x0, .int .i64 x1, .int .i64 x2, .int .i64 x3, .int .i64 x4, .int .i64 x5, .int .i64 x6, .int .i64 x7] : List Value) from hvs)
       have q0 : ck[i * 10]? = some (.string xf) := hd 0 (by omega)
       have q1 : ck[i * 10 + 1]? = some (.int .u64 xn) := hd 1 (by omega)
       have q8 : (ck.drop (i * 10 + 2)).take 8 = [.int .i64 x0, .int .i64 x1, .int .i64 x2, .int .i64 x3, .int .i64 x4, .int .i64 x5, .int .i64 x6, .int .i64 x7] := sub_cells (u := .string xf) (v := .int .u64 xn) (l := [.int .i64 x0, .int .i64 x1, .int .i64 x2, .int .i64 x3, .int .i64 x4, .int .i64 x5, .int .i64 x6, .int .i64 x7]) (show (ck.drop (i * 10)).take 10 = [.string xf, .int .u64 xn, .int .i64 x0, .int .i64 x1, .int .i64 x2, .int .i64 x3, .int .i64 x4, .int .i64 x5, .int .i64 x6, .int .i64 x7] from hc10)
       have hkt' := Lib.hid hkt
       clear hd hc10 hkt
       have hF := hA.facts; (try simp only [uZ] at hA hF)
       go_wp2_with (first | ((with_reducible show wpList _ _ _ ({ dst := some 65, op := Op.load _ _, type := _, pos := _, after := _, guard := _ } :: _) _ _); refine wpList_rowEl_at (g := ga) (j := i * 10) (vs := [.string xf, .int .u64 xn, .int .i64 x0, .int .i64 x1, .int .i64 x2, .int .i64 x3, .int .i64 x4, .int .i64 x5, .int .i64 x6, .int .i64 x7]) rfl rfl (by (try simp only [Act.eval, eV]) <;> exact rfl) hA sZ hvs.out (by kernel_rfl) (by kernel_rfl) ?_) | ((with_reducible refine gal ?_); refine wG 42 [.string .empty, .int .u64 0, .int .i64 0, .int .i64 0, .int .i64 0, .int .i64 0, .int .i64 0, .int .i64 0, .int .i64 0, .int .i64 0] hA ?_; clear hF hA; intro b15 w1 hA hb15 hF; (try simp only [uZ] at hA hF)) | ((with_reducible refine gst ?_); refine wT hA ?_; clear hF hA; intro w1 hA hF; (try simp only [uZ] at hA hF)) | ((with_reducible refine gbx ?_); refine wC hA ?_; clear hF hA; intro b1 w1 hA hb1 hF; (try simp only [uZ] at hA hF)))
       try go_frame
       (refine cA hA ?_); (have hn1 := Cl.none hA); (have hn2 := Cl.none2 hA); (repeat (first | go_big_quiet_skip | (go_big_quiet_want; (first | (refine qM 37 2 ?_; go_frame; go_big_quiet_on) | (refine qM 40 8 ?_; go_frame; go_big_quiet_on) | (refine qM 51 8 ?_; go_frame; go_big_quiet_on) | (refine qL ?_; go_frame; go_big_quiet_on) | (go_big_quiet_op; (first | go_big_quiet_on | ((apply Exists.intro); (refine ⟨fun w1 hw => ?_, ?_⟩); (focus ((have hw := Cl.out hw); (fail))); (go_big_quiet_on))))))))
       (refine wpQuiet_nil ?_); (intro w1 hB); (clear hF hA hn1 hn2); (have hA := Cl.out hB); (clear hB); have hF := hA.facts; (try simp only [uZ] at hA hF)
       go_wp2_with (first | ((with_reducible refine gst ?_); refine wT hA ?_; clear hF hA; intro w1 hA hF; (try simp only [uZ] at hA hF)) | ((with_reducible refine gbx ?_); refine wC hA ?_; clear hF hA; intro b1 w1 hA hb1 hF; (try simp only [uZ] at hA hF)))
       go_roundg (gk - 1)
       case measure => omega
       case rel =>
        have hC := hA.row_shut (e := 53) (size := 10) (g := gk2) (n := K.length) (cap := kcap) (xs := K.flatMap En.cells) sZ hkl hkcap hkm hkt'.out
        exact ⟨i + 1, by simp, by omega, hC.pick pZ⟩
     · clear hik
       have ha1 := fun (w1 : World) (q : Sep [IxP p m (entsOf l)] w1) => ask_any q ⟨kind, num, foot, req, path, mode, n, time⟩ hcf'.out.1 hcf'.out.2 hfe'.out (by rw [← hpk'.out]; have := entsK_len l; omega) ir it
       have ha2 := fun (w1 : World) (q : Sep [rowN u8 l] w1) => askR_any q ⟨kind, num, foot, req, path, mode, n, time⟩ hcf'.out.1 hcf'.out.2 ir it (by omega) hfl'.out
       have hof := fun w => of12_any ⟨kind, num, foot, req, path, mode, n, time⟩ w
       simp only [ask_both hfl'.out] at ha1
       generalize askE l (keyC ⟨kind, num, foot, req, path, mode, n, time⟩) ir it = av at *
       obtain ⟨a0, a1, a2, a3, a4, a5, a6, a7⟩ := av
       simp only [Cm.val, A8.val] at ha1 ha2 hof
       have hF := hA.facts; (try simp only [uZ] at hA hF)
       go_wp2_with (first | ((with_reducible refine gst ?_); refine wT hA ?_; clear hF hA; intro w1 hA hF; (try simp only [uZ] at hA hF)) | ((with_reducible refine gbx ?_); refine wC hA ?_; clear hF hA; intro b1 w1 hA hb1 hF; (try simp only [uZ] at hA hF)))
       try go_frame
       (refine cA hA ?_); (have hn1 := Cl.none hA); (have hn2 := Cl.none2 hA); (repeat (first | go_big_quiet_skip | (go_big_quiet_want; (first | (refine qM 27 8 ?_; go_frame; go_big_quiet_on) | (refine qM 29 2 ?_; go_frame; go_big_quiet_on) | (refine qL ?_; go_frame; go_big_quiet_on) | (go_big_quiet_op; (first | go_big_quiet_on | ((apply Exists.intro); (refine ⟨fun w1 hw => ?_, ?_⟩); (focus ((have hw := Cl.out hw); (first | exact through0 hw (hof _) | ((with_reducible refine (ha1 _ (hw.sep1 (A := IxP p m (entsOf l)) sZ)).mono ?_); exact fun e w' h => ⟨h.1, thr1 (A := IxP p m (entsOf l)) sZ hw h.2⟩) | ((with_reducible refine (ha2 _ (hw.sep1 (A := rowN u8 l) sZ)).mono ?_); exact fun e w' h => ⟨h.1, thr1 (A := rowN u8 l) sZ hw h.2⟩)))); (go_big_quiet_on))))))))
       (refine wpQuiet_nil ?_); (intro w1 hB); (clear hF hA hn1 hn2); (have hA := Cl.out hB); (clear hB); have hF := hA.facts; (try simp only [uZ] at hA hF)
       go_wp2_with (first | ((with_reducible refine gst ?_); refine wT hA ?_; clear hF hA; intro w1 hA hF; (try simp only [uZ] at hA hF)) | ((with_reducible refine gbx ?_); refine wC hA ?_; clear hF hA; intro b1 w1 hA hb1 hF; (try simp only [uZ] at hA hF)))
       go_ret
       exact ⟨rfl, below_oldX hA sZ⟩
end Go.Proofs.YtgbpfgdjnhbcgaaGreatDoor.Ix
end
section
namespace Go.Proofs.YtgbpfgdjnhbcgaaGreatDoor.Ix
open Go.RowKit Go.Joins Go.ChangeShapes Go.WideShapes
open Attr (A8)
open Cmd (Cm)
theorem cut_at {α : Type} (l : List α) (a s : Nat) {t : Nat} (h : a + s = t) : l.drop a = (l.drop a).take s ++ l.drop t := by
 subst h
 conv => lhs; rw [← List.take_append_drop s (l.drop a)]
 rw [List.drop_drop]
theorem cut_end {α : Type} (l : List α) {n : Nat} (h : l.length = n) : l.drop n = [] := List.drop_eq_nil_of_le (by omega)
section
variable {H : Type} {enc : TypeId × Value → H} {W : World} {base : Nat} {spare : Nat → Bool} {held : Bool} {fuel : Nat}
theorem wf64 {n : Int} (h : (Lit.int .u64 n).wf = true) : 0 ≤ n ∧ n < big64 := by
 simp [Lit.wf, IntKind.min, IntKind.max, IntKind.signed, IntKind.bits] at h
 unfold big64
 omega
theorem open_sess {cs : List Value} {y : DataW H × List MemPlace} (h : DataW.trod enc Tryz.prog W base spare held fuel 25 cs = some y) : ∃ n f, cs = [.int .u64 n, .string f] ∧ 0 ≤ n ∧ n < big64 := by
 obtain ⟨xs, n, _, rfl, hl, hxl, hf⟩ := DataW.trod_struct Tryz.underlying25 h
 have hn : cs.length = 2 := hl.trans (by kernel_rfl)
 have hx : xs.length = 2 := hxl
 have hc_string : Tryz.prog.cellsOf 9 = 1 := by kernel_rfl
 have hc_uint64 : Tryz.prog.cellsOf 23 = 1 := by kernel_rfl
 match xs, hx with
 | [y0, y1], _ =>
  have f0 : DataW.trod enc Tryz.prog W base spare held n 23 ((cs.drop 0).take (Tryz.prog.cellsOf 23)) = some y0 := hf 0 _ rfl
  rw [hc_uint64] at f0
  have f1 : DataW.trod enc Tryz.prog W base spare held n 9 ((cs.drop 1).take (Tryz.prog.cellsOf 9)) = some y1 := hf 1 _ rfl
  rw [hc_string] at f1
  obtain ⟨k0, e0, _, w0⟩ := DataW.trod_int Tryz.underlying23 f0
  obtain ⟨k1, e1, _, w1⟩ := DataW.trod_string Tryz.underlying9 f1
  have hcs : cs.drop 0 = (cs.drop 0).take 1 ++ ((cs.drop 1).take 1 ++ []) := (cut_at cs 0 1 (t := 1) rfl).trans (congrArg (_ ++ ·) ((cut_at cs 1 1 (t := 2) rfl).trans (congrArg (_ ++ ·) (cut_end cs hn))))
  rw [e0, e1] at hcs
  exact ⟨k0, k1, hcs, (wf64 w0).1, (wf64 w0).2⟩
theorem open_cmd {cs : List Value} {y : DataW H × List MemPlace} (h : DataW.trod enc Tryz.prog W base spare held fuel 27 cs = some y) : ∃ c : Cm, cs = c.cells ∧ 0 ≤ c.num ∧ c.num < big64 := by
 obtain ⟨xs, n, _, rfl, hl, hxl, hf⟩ := DataW.trod_struct Tryz.underlying27 h
 have hn : cs.length = 8 := hl.trans (by kernel_rfl)
 have hx : xs.length = 7 := hxl
 have hc_int : Tryz.prog.cellsOf 3 = 1 := by kernel_rfl
 have hc_moothillcmdSession : Tryz.prog.cellsOf 25 = 2 := by kernel_rfl
 have hc_string : Tryz.prog.cellsOf 9 = 1 := by kernel_rfl
 have hc_uint64 : Tryz.prog.cellsOf 23 = 1 := by kernel_rfl
 match xs, hx with
 | [y0, y1, y2, y3, y4, y5, y6], _ =>
  have f0 : DataW.trod enc Tryz.prog W base spare held n 3 ((cs.drop 0).take (Tryz.prog.cellsOf 3)) = some y0 := hf 0 _ rfl
  rw [hc_int] at f0
  have f1 : DataW.trod enc Tryz.prog W base spare held n 25 ((cs.drop 1).take (Tryz.prog.cellsOf 25)) = some y1 := hf 1 _ rfl
  rw [hc_moothillcmdSession] at f1
  have f2 : DataW.trod enc Tryz.prog W base spare held n 23 ((cs.drop 3).take (Tryz.prog.cellsOf 23)) = some y2 := hf 2 _ rfl
  rw [hc_uint64] at f2
  have f3 : DataW.trod enc Tryz.prog W base spare held n 9 ((cs.drop 4).take (Tryz.prog.cellsOf 9)) = some y3 := hf 3 _ rfl
  rw [hc_string] at f3
  have f4 : DataW.trod enc Tryz.prog W base spare held n 3 ((cs.drop 5).take (Tryz.prog.cellsOf 3)) = some y4 := hf 4 _ rfl
  rw [hc_int] at f4
  have f5 : DataW.trod enc Tryz.prog W base spare held n 23 ((cs.drop 6).take (Tryz.prog.cellsOf 23)) = some y5 := hf 5 _ rfl
  rw [hc_uint64] at f5
  have f6 : DataW.trod enc Tryz.prog W base spare held n 3 ((cs.drop 7).take (Tryz.prog.cellsOf 3)) = some y6 := hf 6 _ rfl
  rw [hc_int] at f6
  obtain ⟨k0, e0, _, _⟩ := DataW.trod_int Tryz.underlying3 f0
  obtain ⟨k1, k2, e1, w1, v1⟩ := open_sess f1
  obtain ⟨k3, e2, _, w2⟩ := DataW.trod_int Tryz.underlying23 f2
  obtain ⟨k4, e3, _, w3⟩ := DataW.trod_string Tryz.underlying9 f3
  obtain ⟨k5, e4, _, _⟩ := DataW.trod_int Tryz.underlying3 f4
  obtain ⟨k6, e5, _, w5⟩ := DataW.trod_int Tryz.underlying23 f5
  obtain ⟨k7, e6, _, _⟩ := DataW.trod_int Tryz.underlying3 f6
  have hcs : cs.drop 0 = (cs.drop 0).take 1 ++ ((cs.drop 1).take 2 ++ ((cs.drop 3).take 1 ++ ((cs.drop 4).take 1 ++ ((cs.drop 5).take 1 ++ ((cs.drop 6).take 1 ++ ((cs.drop 7).take 1 ++ [])))))) := (cut_at cs 0 1 (t := 1) rfl).trans (congrArg (_ ++ ·) ((cut_at cs 1 2 (t := 3) rfl).trans (congrArg (_ ++ ·) ((cut_at cs 3 1 (t := 4) rfl).trans (congrArg (_ ++ ·) ((cut_at cs 4 1 (t := 5) rfl).trans (congrArg (_ ++ ·) ((cut_at cs 5 1 (t := 6) rfl).trans (congrArg (_ ++ ·) ((cut_at cs 6 1 (t := 7) rfl).trans (congrArg (_ ++ ·) ((cut_at cs 7 1 (t := 8) rfl).trans (congrArg (_ ++ ·) (cut_end cs hn))))))))))))))
  rw [e0, e1, e2, e3, e4, e5, e6] at hcs
  exact ⟨⟨k0, k1, k2, k3, k4, k5, k6, k7⟩, hcs, w1, v1⟩
theorem open_id {cs : List Value} {y : DataW H × List MemPlace} (h : DataW.trod enc Tryz.prog W base spare held fuel 29 cs = some y) : ∃ r t, cs = [.int .i64 r, .int .i64 t] := by
 obtain ⟨xs, n, _, rfl, hl, hxl, hf⟩ := DataW.trod_struct Tryz.underlying29 h
 have hn : cs.length = 2 := hl.trans (by kernel_rfl)
 have hx : xs.length = 2 := hxl
 have hc_int : Tryz.prog.cellsOf 3 = 1 := by kernel_rfl
 match xs, hx with
 | [y0, y1], _ =>
  have f0 : DataW.trod enc Tryz.prog W base spare held n 3 ((cs.drop 0).take (Tryz.prog.cellsOf 3)) = some y0 := hf 0 _ rfl
  rw [hc_int] at f0
  have f1 : DataW.trod enc Tryz.prog W base spare held n 3 ((cs.drop 1).take (Tryz.prog.cellsOf 3)) = some y1 := hf 1 _ rfl
  rw [hc_int] at f1
  obtain ⟨k0, e0, _, _⟩ := DataW.trod_int Tryz.underlying3 f0
  obtain ⟨k1, e1, _, _⟩ := DataW.trod_int Tryz.underlying3 f1
  have hcs : cs.drop 0 = (cs.drop 0).take 1 ++ ((cs.drop 1).take 1 ++ []) := (cut_at cs 0 1 (t := 1) rfl).trans (congrArg (_ ++ ·) ((cut_at cs 1 1 (t := 2) rfl).trans (congrArg (_ ++ ·) (cut_end cs hn))))
  rw [e0, e1] at hcs
  exact ⟨k0, k1, hcs⟩
theorem open_key {cs : List Value} {y : DataW H × List MemPlace} (h : DataW.trod enc Tryz.prog W base spare held fuel 37 cs = some y) : ∃ f n, cs = [.string f, .int .u64 n] ∧ 0 ≤ n ∧ n < big64 := by
 obtain ⟨xs, n, _, rfl, hl, hxl, hf⟩ := DataW.trod_struct Tryz.underlying37 h
 have hn : cs.length = 2 := hl.trans (by kernel_rfl)
 have hx : xs.length = 2 := hxl
 have hc_string : Tryz.prog.cellsOf 9 = 1 := by kernel_rfl
 have hc_uint64 : Tryz.prog.cellsOf 23 = 1 := by kernel_rfl
 match xs, hx with
 | [y0, y1], _ =>
  have f0 : DataW.trod enc Tryz.prog W base spare held n 9 ((cs.drop 0).take (Tryz.prog.cellsOf 9)) = some y0 := hf 0 _ rfl
  rw [hc_string] at f0
  have f1 : DataW.trod enc Tryz.prog W base spare held n 23 ((cs.drop 1).take (Tryz.prog.cellsOf 23)) = some y1 := hf 1 _ rfl
  rw [hc_uint64] at f1
  obtain ⟨k0, e0, _, w0⟩ := DataW.trod_string Tryz.underlying9 f0
  obtain ⟨k1, e1, _, w1⟩ := DataW.trod_int Tryz.underlying23 f1
  have hcs : cs.drop 0 = (cs.drop 0).take 1 ++ ((cs.drop 1).take 1 ++ []) := (cut_at cs 0 1 (t := 1) rfl).trans (congrArg (_ ++ ·) ((cut_at cs 1 1 (t := 2) rfl).trans (congrArg (_ ++ ·) (cut_end cs hn))))
  rw [e0, e1] at hcs
  exact ⟨k0, k1, hcs, (wf64 w1).1, (wf64 w1).2⟩
theorem open_seven {cs : List Value} {y : DataW H × List MemPlace} (h : DataW.trod enc Tryz.prog W base spare held fuel 38 cs = some y) : ∃ d0 d1 d2 d3 d4 d5 d6, cs = [.int .i64 d0, .int .i64 d1, .int .i64 d2, .int .i64 d3, .int .i64 d4, .int .i64 d5, .int .i64 d6] := by
 obtain ⟨xs, n, _, rfl, hl, hxl, hf⟩ := DataW.trod_array Tryz.underlying38 h
 have hn : cs.length = 7 := hl.trans (by kernel_rfl)
 have hx : xs.length = 7 := hxl
 have hc_int : Tryz.prog.cellsOf 3 = 1 := by kernel_rfl
 match xs, hx with
 | [y0, y1, y2, y3, y4, y5, y6], _ =>
  have f0 : DataW.trod enc Tryz.prog W base spare held n 3 ((cs.drop (0 * Tryz.prog.cellsOf 3)).take (Tryz.prog.cellsOf 3)) = some y0 := hf 0 (by omega)
  rw [hc_int] at f0
  have f1 : DataW.trod enc Tryz.prog W base spare held n 3 ((cs.drop (1 * Tryz.prog.cellsOf 3)).take (Tryz.prog.cellsOf 3)) = some y1 := hf 1 (by omega)
  rw [hc_int] at f1
  have f2 : DataW.trod enc Tryz.prog W base spare held n 3 ((cs.drop (2 * Tryz.prog.cellsOf 3)).take (Tryz.prog.cellsOf 3)) = some y2 := hf 2 (by omega)
  rw [hc_int] at f2
  have f3 : DataW.trod enc Tryz.prog W base spare held n 3 ((cs.drop (3 * Tryz.prog.cellsOf 3)).take (Tryz.prog.cellsOf 3)) = some y3 := hf 3 (by omega)
  rw [hc_int] at f3
  have f4 : DataW.trod enc Tryz.prog W base spare held n 3 ((cs.drop (4 * Tryz.prog.cellsOf 3)).take (Tryz.prog.cellsOf 3)) = some y4 := hf 4 (by omega)
  rw [hc_int] at f4
  have f5 : DataW.trod enc Tryz.prog W base spare held n 3 ((cs.drop (5 * Tryz.prog.cellsOf 3)).take (Tryz.prog.cellsOf 3)) = some y5 := hf 5 (by omega)
  rw [hc_int] at f5
  have f6 : DataW.trod enc Tryz.prog W base spare held n 3 ((cs.drop (6 * Tryz.prog.cellsOf 3)).take (Tryz.prog.cellsOf 3)) = some y6 := hf 6 (by omega)
  rw [hc_int] at f6
  obtain ⟨k0, e0, _, _⟩ := DataW.trod_int Tryz.underlying3 f0
  obtain ⟨k1, e1, _, _⟩ := DataW.trod_int Tryz.underlying3 f1
  obtain ⟨k2, e2, _, _⟩ := DataW.trod_int Tryz.underlying3 f2
  obtain ⟨k3, e3, _, _⟩ := DataW.trod_int Tryz.underlying3 f3
  obtain ⟨k4, e4, _, _⟩ := DataW.trod_int Tryz.underlying3 f4
  obtain ⟨k5, e5, _, _⟩ := DataW.trod_int Tryz.underlying3 f5
  obtain ⟨k6, e6, _, _⟩ := DataW.trod_int Tryz.underlying3 f6
  have hcs : cs.drop 0 = (cs.drop 0).take 1 ++ ((cs.drop 1).take 1 ++ ((cs.drop 2).take 1 ++ ((cs.drop 3).take 1 ++ ((cs.drop 4).take 1 ++ ((cs.drop 5).take 1 ++ ((cs.drop 6).take 1 ++ [])))))) := (cut_at cs 0 1 (t := 1) rfl).trans (congrArg (_ ++ ·) ((cut_at cs 1 1 (t := 2) rfl).trans (congrArg (_ ++ ·) ((cut_at cs 2 1 (t := 3) rfl).trans (congrArg (_ ++ ·) ((cut_at cs 3 1 (t := 4) rfl).trans (congrArg (_ ++ ·) ((cut_at cs 4 1 (t := 5) rfl).trans (congrArg (_ ++ ·) ((cut_at cs 5 1 (t := 6) rfl).trans (congrArg (_ ++ ·) ((cut_at cs 6 1 (t := 7) rfl).trans (congrArg (_ ++ ·) (cut_end cs hn))))))))))))))
  simp only [Nat.zero_mul, Nat.one_mul, Nat.mul_one] at e0 e1 e2 e3 e4 e5 e6
  rw [e0, e1, e2, e3, e4, e5, e6] at hcs
  exact ⟨k0, k1, k2, k3, k4, k5, k6, hcs⟩
theorem open_attr {cs : List Value} {y : DataW H × List MemPlace} (h : DataW.trod enc Tryz.prog W base spare held fuel 40 cs = some y) : ∃ a : A8, cs = a.cells := by
 obtain ⟨xs, n, _, rfl, hl, hxl, hf⟩ := DataW.trod_struct Tryz.underlying40 h
 have hn : cs.length = 8 := hl.trans (by kernel_rfl)
 have hx : xs.length = 2 := hxl
 have hc_7int : Tryz.prog.cellsOf 38 = 7 := by kernel_rfl
 have hc_int : Tryz.prog.cellsOf 3 = 1 := by kernel_rfl
 match xs, hx with
 | [y0, y1], _ =>
  have f0 : DataW.trod enc Tryz.prog W base spare held n 3 ((cs.drop 0).take (Tryz.prog.cellsOf 3)) = some y0 := hf 0 _ rfl
  rw [hc_int] at f0
  have f1 : DataW.trod enc Tryz.prog W base spare held n 38 ((cs.drop 1).take (Tryz.prog.cellsOf 38)) = some y1 := hf 1 _ rfl
  rw [hc_7int] at f1
  obtain ⟨k0, e0, _, _⟩ := DataW.trod_int Tryz.underlying3 f0
  obtain ⟨d0, d1, d2, d3, d4, d5, d6, e1⟩ := open_seven f1
  have hcs : cs.drop 0 = (cs.drop 0).take 1 ++ ((cs.drop 1).take 7 ++ []) := (cut_at cs 0 1 (t := 1) rfl).trans (congrArg (_ ++ ·) ((cut_at cs 1 7 (t := 8) rfl).trans (congrArg (_ ++ ·) (cut_end cs hn))))
  rw [e0, e1] at hcs
  exact ⟨⟨k0, d0, d1, d2, d3, d4, d5, d6⟩, hcs⟩
theorem open_entry {cs : List Value} {y : DataW H × List MemPlace} (h : DataW.trod enc Tryz.prog W base spare held fuel 42 cs = some y) : ∃ e : En, cs = [.string e.foot, .int .u64 e.num] ++ e.a.cells ∧ 0 ≤ e.num ∧ e.num < big64 := by
 obtain ⟨xs, n, _, rfl, hl, hxl, hf⟩ := DataW.trod_struct Tryz.underlying42 h
 have hn : cs.length = 10 := hl.trans (by kernel_rfl)
 have hx : xs.length = 2 := hxl
 have hc_moothillattrAttr : Tryz.prog.cellsOf 40 = 8 := by kernel_rfl
 have hc_moothillclashKey : Tryz.prog.cellsOf 37 = 2 := by kernel_rfl
 match xs, hx with
 | [y0, y1], _ =>
  have f0 : DataW.trod enc Tryz.prog W base spare held n 37 ((cs.drop 0).take (Tryz.prog.cellsOf 37)) = some y0 := hf 0 _ rfl
  rw [hc_moothillclashKey] at f0
  have f1 : DataW.trod enc Tryz.prog W base spare held n 40 ((cs.drop 2).take (Tryz.prog.cellsOf 40)) = some y1 := hf 1 _ rfl
  rw [hc_moothillattrAttr] at f1
  obtain ⟨k0, k1, e0, w0, v0⟩ := open_key f0
  obtain ⟨a, e1⟩ := open_attr f1
  have hcs : cs.drop 0 = (cs.drop 0).take 2 ++ ((cs.drop 2).take 8 ++ []) := (cut_at cs 0 2 (t := 2) rfl).trans (congrArg (_ ++ ·) ((cut_at cs 2 8 (t := 10) rfl).trans (congrArg (_ ++ ·) (cut_end cs hn))))
  rw [e0, e1] at hcs
  exact ⟨⟨k0, k1, a⟩, hcs, w0, v0⟩
theorem open_op {cs : List Value} {y : DataW H × List MemPlace} (h : DataW.trod enc Tryz.prog W base spare held fuel 44 cs = some y) : ∃ o : Op12, cs = o.cells ∧ 0 ≤ o.c.num ∧ o.c.num < big64 ∧ 0 ≤ o.e.num ∧ o.e.num < big64 := by
 obtain ⟨xs, n, _, rfl, hl, hxl, hf⟩ := DataW.trod_struct Tryz.underlying44 h
 have hn : cs.length = 22 := hl.trans (by kernel_rfl)
 have hx : xs.length = 5 := hxl
 have hc_int : Tryz.prog.cellsOf 3 = 1 := by kernel_rfl
 have hc_moothillcmdCmd : Tryz.prog.cellsOf 27 = 8 := by kernel_rfl
 have hc_moothillindexEntry : Tryz.prog.cellsOf 42 = 10 := by kernel_rfl
 have hc_moothillmarkID : Tryz.prog.cellsOf 29 = 2 := by kernel_rfl
 match xs, hx with
 | [y0, y1, y2, y3, y4], _ =>
  have f0 : DataW.trod enc Tryz.prog W base spare held n 3 ((cs.drop 0).take (Tryz.prog.cellsOf 3)) = some y0 := hf 0 _ rfl
  rw [hc_int] at f0
  have f1 : DataW.trod enc Tryz.prog W base spare held n 27 ((cs.drop 1).take (Tryz.prog.cellsOf 27)) = some y1 := hf 1 _ rfl
  rw [hc_moothillcmdCmd] at f1
  have f2 : DataW.trod enc Tryz.prog W base spare held n 29 ((cs.drop 9).take (Tryz.prog.cellsOf 29)) = some y2 := hf 2 _ rfl
  rw [hc_moothillmarkID] at f2
  have f3 : DataW.trod enc Tryz.prog W base spare held n 3 ((cs.drop 11).take (Tryz.prog.cellsOf 3)) = some y3 := hf 3 _ rfl
  rw [hc_int] at f3
  have f4 : DataW.trod enc Tryz.prog W base spare held n 42 ((cs.drop 12).take (Tryz.prog.cellsOf 42)) = some y4 := hf 4 _ rfl
  rw [hc_moothillindexEntry] at f4
  obtain ⟨k0, e0, _, _⟩ := DataW.trod_int Tryz.underlying3 f0
  obtain ⟨c, e1, w1, v1⟩ := open_cmd f1
  obtain ⟨r, t, e2⟩ := open_id f2
  obtain ⟨q, e3, _, _⟩ := DataW.trod_int Tryz.underlying3 f3
  obtain ⟨en, e4, w4, v4⟩ := open_entry f4
  have hcs : cs.drop 0 = (cs.drop 0).take 1 ++ ((cs.drop 1).take 8 ++ ((cs.drop 9).take 2 ++ ((cs.drop 11).take 1 ++ ((cs.drop 12).take 10 ++ [])))) := (cut_at cs 0 1 (t := 1) rfl).trans (congrArg (_ ++ ·) ((cut_at cs 1 8 (t := 9) rfl).trans (congrArg (_ ++ ·) ((cut_at cs 9 2 (t := 11) rfl).trans (congrArg (_ ++ ·) ((cut_at cs 11 1 (t := 12) rfl).trans (congrArg (_ ++ ·) ((cut_at cs 12 10 (t := 22) rfl).trans (congrArg (_ ++ ·) (cut_end cs hn))))))))))
  rw [e0, e1, e2, e3, e4] at hcs
  exact ⟨⟨k0, c, r, t, q, en⟩, hcs, w1, v1, w4, v4⟩
theorem open_ops {v : Value} {y : DataW H × List MemPlace} (hsp : ∀ b, spare b = true) (h : DataW.trod enc Tryz.prog W base spare held fuel 22 [v] = some y) : ∃ os : List Op12, OpsAt W v os ∧ os.length ≤ 9223372036854775807 := by
 rcases Go.Deep.open_slice Tryz.underlying22 h with ⟨hcs, _⟩ | ⟨a, len, cap, m, n, D, Pl, hcs, _, hl, hm, hmm, _, hel⟩
 · simp at hcs
   subst hcs
   exact ⟨[], ⟨none, 0, rfl, fun j hj => absurd hj (Nat.not_lt_zero _)⟩, by simp⟩
 · simp at hcs
   subst hcs
   have hco : Tryz.prog.cellsOf 44 = 22 := by kernel_rfl
   rw [hco] at hel
   have hall : ∀ i, i < len → ∃ o : Op12, W.cells? base (a.add (i * 22)) 22 = some o.cells ∧ (0 ≤ o.c.num ∧ o.c.num < big64 ∧ 0 ≤ o.e.num ∧ o.e.num < big64) := fun i hi => by
    obtain ⟨cs', h1, h2⟩ := hel i (by rw [hmm, hsp, if_pos rfl]; omega)
    obtain ⟨o, rfl, h3⟩ := open_op h2
    exact ⟨o, h1, h3⟩
   obtain ⟨f, hf⟩ := @Go.Deep.choose_lt Op12 ⟨⟨0, ⟨0, 0, .empty, 0, .empty, 0, 0, 0⟩, 0, 0, 0, ⟨.empty, 0, ⟨0, 0, 0, 0, 0, 0, 0, 0⟩⟩⟩⟩ len _ hall
   have hlen : ((List.range len).map f).length = len := by simp
   refine ⟨(List.range len).map f, ⟨some a, cap, by rw [hlen], fun j hj => ?_⟩, by rw [hlen]; unfold maxLen at hm; omega⟩
   rw [hlen] at hj
   obtain ⟨hc, h3⟩ := hf j hj
   have hget : ((List.range len).map f)[j]'(by rw [hlen]; exact hj) = f j := by simp
   rw [hget]
   obtain ⟨h4, h5, h6⟩ := World.cells?_some hc
   have hz := (World.cells?_some (hf 0 (by omega)).1).2.2 0 (by omega)
   obtain ⟨b, off, sp⟩ := a
   have hsn : sp = none := by
    have := congrArg Addr.spot (spot_none hz)
    simpa [Addr.add] using this
   subst hsn
   have hcell : ∀ t u, (f j).cells[t]? = some u → W.cell? ⟨b, off + j * 22 + t, none⟩ = some u := fun t u hu => by
    have ht : t < 22 := by
     rcases Nat.lt_or_ge t 22 with q | q
     · exact q
     · rw [List.getElem?_eq_none (show (f j).cells.length ≤ t from q)] at hu
       cases hu
    have := h6 t ht
    rw [Addr.add_lit, Addr.add_lit, hu] at this
    exact this
   exact ⟨b, off, rfl, hcell, h3⟩
variable {d : DataW H} {ps : List MemPlace} {r : Reach} {b0 : Nat}
theorem openV_cmd {v : Value} (hv : Value.okWide Tryz.prog W r b0 27 v) (h : DataW.Trod enc Tryz.prog W base spare held 27 v d ps) : ∃ c : Cm, v = c.val ∧ 0 ≤ c.num ∧ c.num < big64 := by
 obtain ⟨cs, rfl, _⟩ := okWide_struct Tryz.underlying27 hv
 obtain ⟨fuel, hf⟩ := h
 obtain ⟨c, hc, h0, h1⟩ := open_cmd (cs := cs.toList) hf
 refine ⟨c, ?_, h0, h1⟩
 rw [show cs = c.cells.toArray from by rw [← hc]]
 rfl
theorem openV_id {v : Value} (hv : Value.okWide Tryz.prog W r b0 29 v) (h : DataW.Trod enc Tryz.prog W base spare held 29 v d ps) : ∃ r t : Int, v = .agg #[.int .i64 r, .int .i64 t] := by
 obtain ⟨cs, rfl, _⟩ := okWide_struct Tryz.underlying29 hv
 obtain ⟨fuel, hf⟩ := h
 obtain ⟨c0, c1, hc⟩ := open_id (cs := cs.toList) hf
 refine ⟨c0, c1, ?_⟩
 rw [show cs = [Value.int .i64 c0, .int .i64 c1].toArray from by rw [← hc]]
end
end Go.Proofs.YtgbpfgdjnhbcgaaGreatDoor.Ix
end
