/- TabZ, joined. -/
import Derived.Test.YtpebabaigakagaaGreatDoorP38
set_option linter.unusedSimpArgs false
set_option linter.unusedVariables false
set_option maxRecDepth 100000
set_option maxHeartbeats 16000000
section
namespace Go.Proofs.YtpebabaigakagaaGreatDoor.Tab
open Go.RowKit
open Path (bl rightB overB aboveB)
open Lease (Ses Ans fresh Turned)
open Lock (S3 Ent)
open Cmd (Cm rightC)
attribute [-go_sem] run_eql_struct run_neq_struct run_eqGuard_agg
attribute [local go_sem] guardAn eqlAn neqAn guardSe neqSe
def CutT (w : World) (R7 R9 : Part) (t p m : Nat) (ss : List Ses) (b : Lock.Bk) (wb : Bool) (u14 u15 : Value) (wc : World) : Prop := u15 = .bool wb ∧ At [Part.old w] w [TabP t p m ss b, Part.old w, R9, R7] wc
def AgRel (w : World) (R7 R9 R16 : Part) (t p m : Nat) (T1 : TS) (more : List Cm) (k : Nat) (u : Value) (wr : World) : Prop :=
 ∃ (i : Nat) (ss : List Ses) (b : Lock.Bk), u = .int .i64 i ∧ i + k = more.length ∧ TRel ss b (playT T1 (more.take i)) ∧ At [Part.old w] w [R16, TabP t p m ss b, Part.old w, R9, R7] wr
def BQ (t p m : Nat) (ss : List Ses) (b : Lock.Bk) (l : List Int) (w : World) (u : Value) (w' : World) : Prop := At [TabP t p m ss b] w [Wire.rowY u l, TabP t p m ss b] w'
theorem BQ.out {t p m : Nat} {ss : List Ses} {b : Lock.Bk} {l : List Int} {w : World} {u : Value} {w' : World} (h : BQ t p m ss b l w u w') : At [TabP t p m ss b] w [Wire.rowY u l, TabP t p m ss b] w' := h
theorem again_law {w : World} {v : Value} {l : List Cm} (hr : ReadsC (Part.old w) v l) (hl : l.length ≤ 9223372036854775807) (hv : ∀ c ∈ l, CmV c) {first : Int} (f0 : 0 ≤ first) (f1 : first < Lock.big64)
 (kc nc : Int) (fc : ByteArray) (rc : Int) (pc : ByteArray) (mc nnc tc : Int) (hvc : CmV ⟨kc, nc, fc, rc, pc, mc, nnc, tc⟩) {v3 : Value} {more : List Cm} (hr3 : ReadsC (Part.old w) v3 more) (hl3 : more.length ≤ 9223372036854775807) (hv3 : ∀ c ∈ more, CmV c)
 (ko no : Int) (fo : ByteArray) (ro : Int) (po : ByteArray) (mo nno tmo : Int) (hvo : CmV ⟨ko, no, fo, ro, po, mo, nno, tmo⟩) :
 Calls Tryz.prog 5 #[.int .u64 first, v, .agg #[.int .i64 kc, .int .u64 nc, .string fc, .int .u64 rc, .string pc, .int .i64 mc, .int .u64 nnc, .int .i64 tc], v3, .agg #[.int .i64 ko, .int .u64 no, .string fo, .int .u64 ro, .string po, .int .i64 mo, .int .u64 nno, .int .i64 tmo]] w fun e w' => e = .returned (.bool true) ∧ Below w.heap.size w w' := by
 have hm : Tryz.prog.follows .mixedOrders = true := by kernel_rfl
 have hA : At [Part.old w] w [Part.old w] w := At.start ⟨fun _ _ => rfl, trivial, nofun⟩
 have hsm := fun (w1 : World) (q : Sep [Part.old w] w1) => small_any q hr hl (fun c hc => ⟨(hv c hc).path, (hv c hc).foot⟩) 40
 have hsm3 := fun (w1 : World) (q : Sep [Part.old w] w1) => small_any q hr3 hl3 (fun c hc => ⟨(hv3 c hc).path, (hv3 c hc).foot⟩) 40
 have hpl := fun (hs : smallB l 40 = true) (w1 : World) (q : Sep [Part.old w] w1) => play_any q f0 f1 hr (by have := (small_in (k := 40) hs hv).1; omega) (small_in (k := 40) hs hv).2
 have hin := fun (hs : smallB l 40 = true) => small_in (k := 40) hs hv
 have hin3 := fun (hs : smallB more 40 = true) => small_in (k := 40) hs hv3
 obtain ⟨ax, cap, rfl, _, _⟩ := hr w (hA.get .here)
 obtain ⟨ax3, cap3, rfl, _, _⟩ := hr3 w (hA.get .here)
 obtain ⟨sb, hsb⟩ : ∃ z, smallB l 40 = z := ⟨_, rfl⟩
 obtain ⟨sb3, hsb3⟩ : ∃ z, smallB more 40 = z := ⟨_, rfl⟩
 rw [hsb] at hsm hpl hin
 rw [hsb3] at hsm3 hin3
 have hsm' := Lib.hid hsm
 have hsm3' := Lib.hid hsm3
 have hpl' := Lib.hid hpl
 have hin' := Lib.hid hin
 have hin3' := Lib.hid hin3
 have hvc' := Lib.hid hvc
 have hvo' := Lib.hid hvo
 have hr3' := Lib.hid hr3
 clear hsm hsm3 hpl hin hin3 hsb hsb3 hv hv3 hr hr3 hvc hvo
 have hF := hA.facts; (try simp only [uZ] at hA hF)
 go_enter Tryz.func5, Tryz.ntmps5
 go_wp2_with (first | (((with_reducible show wpList _ _ _ ({ dst := some 7, op := Op.box _ _, type := _, pos := _, after := _, guard := _ } :: _) _ _)); ((with_reducible refine gbx ?_); refine wH 29 [.int .i64 kc, .int .u64 nc, .string fc, .int .u64 rc, .string pc, .int .i64 mc, .int .u64 nnc, .int .i64 tc] hA ?_; clear hF hA; intro b7 w1 hA hb7 hF; (try simp only [uZ] at hA hF))) | (((with_reducible show wpList _ _ _ ({ dst := some 9, op := Op.box _ _, type := _, pos := _, after := _, guard := _ } :: _) _ _)); ((with_reducible refine gbx ?_); refine wH 29 [.int .i64 ko, .int .u64 no, .string fo, .int .u64 ro, .string po, .int .i64 mo, .int .u64 nno, .int .i64 tmo] hA ?_; clear hF hA; intro b9 w1 hA hb9 hF; (try simp only [uZ] at hA hF))) | ((with_reducible refine gst ?_); refine wT hA ?_; clear hF hA; intro w1 hA hF; (try simp only [uZ] at hA hF)) | ((with_reducible refine gbx ?_); refine wC hA ?_; clear hF hA; intro b1 w1 hA hb1 hF; (try simp only [uZ] at hA hF)))
 refine (anchor_any _).mono ?_
 rintro e w1 ⟨rfl, hx⟩
 have hB := hA.ext hx
 clear hx
 clear hF hA; have hA := hB; clear hB
 try simp only [uA] at hA
 have hF := hA.facts; (try simp only [uZ] at hA hF)
 go_wp2_with (first | ((with_reducible refine gst ?_); refine wT hA ?_; clear hF hA; intro w1 hA hF; (try simp only [uZ] at hA hF)) | ((with_reducible refine gbx ?_); refine wC hA ?_; clear hF hA; intro b1 w1 hA hb1 hF; (try simp only [uZ] at hA hF)))
 refine (hsm'.out _ (hA.sep1 (A := Part.old w) sZ)).mono ?_
 rintro e w1 ⟨rfl, hT⟩
 have hB := hA.call1 (A := Part.old w) sZ hT
 clear hT
 clear hF hA; have hA := hB; clear hB
 try simp only [uA] at hA
 have hF := hA.facts; (try simp only [uZ] at hA hF)
 clear hsm'
 cases sb
 · skip
   go_wp2_with (first | ((with_reducible refine gst ?_); refine wT hA ?_; clear hF hA; intro w1 hA hF; (try simp only [uZ] at hA hF)) | ((with_reducible refine gbx ?_); refine wC hA ?_; clear hF hA; intro b1 w1 hA hb1 hF; (try simp only [uZ] at hA hF)))
   go_ret
   exact ⟨rfl, below_old hA sZ⟩
 go_wp2_with (first | ((with_reducible refine gst ?_); refine wT hA ?_; clear hF hA; intro w1 hA hF; (try simp only [uZ] at hA hF)) | ((with_reducible refine gbx ?_); refine wC hA ?_; clear hF hA; intro b1 w1 hA hb1 hF; (try simp only [uZ] at hA hF)))
 refine (hsm3'.out _ (hA.sep1 (A := Part.old w) sZ)).mono ?_
 rintro e w1 ⟨rfl, hT⟩
 have hB := hA.call1 (A := Part.old w) sZ hT
 clear hT
 clear hF hA; have hA := hB; clear hB
 try simp only [uA] at hA
 have hF := hA.facts; (try simp only [uZ] at hA hF)
 clear hsm3'
 cases sb3
 · skip
   go_wp2_with (first | ((with_reducible refine gst ?_); refine wT hA ?_; clear hF hA; intro w1 hA hF; (try simp only [uZ] at hA hF)) | ((with_reducible refine gbx ?_); refine wC hA ?_; clear hF hA; intro b1 w1 hA hb1 hF; (try simp only [uZ] at hA hF)))
   go_ret
   exact ⟨rfl, below_old hA sZ⟩
 obtain ⟨hl40, hinl⟩ := hin'.out (by simp)
 obtain ⟨hm40, hinm⟩ := hin3'.out (by simp)
 have hinl' := Lib.hid hinl
 have hinm' := Lib.hid hinm
 clear hin' hin3' hinl hinm
 obtain ⟨a0, a1, a2, a3, a4, a5, a6, a7⟩ := cells8 (hA.get (A := Part.cells b7 [.int .i64 kc, .int .u64 nc, .string fc, .int .u64 rc, .string pc, .int .i64 mc, .int .u64 nnc, .int .i64 tc] 29) sZ)
 obtain ⟨e0, e1, e2, e3, e4, e5, e6, e7⟩ := cells8 (hA.get (A := Part.cells b9 [.int .i64 ko, .int .u64 no, .string fo, .int .u64 ro, .string po, .int .i64 mo, .int .u64 nno, .int .i64 tmo] 29) sZ)
 have hbs : ∀ w, (Instr.buildSlice 23 2 #[(0, .agg #[.int .i64 kc, .int .u64 nc, .string fc, .int .u64 rc, .string pc, .int .i64 mc, .int .u64 nnc, .int .i64 tc]), (1, .agg #[.int .i64 ko, .int .u64 no, .string fo, .int .u64 ro, .string po, .int .i64 mo, .int .u64 nno, .int .i64 tmo])]).run Tryz.prog w = .ok (.slice (some ⟨w.heap.size, 0, none⟩) 2 2) (w.alloc (.cells (([.int .i64 kc, .int .u64 nc, .string fc, .int .u64 rc, .string pc, .int .i64 mc, .int .u64 nnc, .int .i64 tc] ++ [.int .i64 ko, .int .u64 no, .string fo, .int .u64 ro, .string po, .int .i64 mo, .int .u64 nno, .int .i64 tmo] : List Value)).toArray 29)) := fun w => by kernel_rfl
 go_wp2_with (first | ((with_reducible refine gst ?_); refine wT hA ?_; clear hF hA; intro w1 hA hF; (try simp only [uZ] at hA hF)) | ((with_reducible refine gbx ?_); refine wC hA ?_; clear hF hA; intro b1 w1 hA hb1 hF; (try simp only [uZ] at hA hF)))
 have hB : At [Part.old w] w [rowCm (.slice (some ⟨w1.heap.size, 0, none⟩) 2 2) [⟨kc, nc, fc, rc, pc, mc, nnc, tc⟩, ⟨ko, no, fo, ro, po, mo, nno, tmo⟩], Part.old w, Part.cells b9 [.int .i64 ko, .int .u64 no, .string fo, .int .u64 ro, .string po, .int .i64 mo, .int .u64 nno, .int .i64 tmo] 29, Part.cells b7 [.int .i64 kc, .int .u64 nc, .string fc, .int .u64 rc, .string pc, .int .i64 mc, .int .u64 nnc, .int .i64 tc] 29] (w1.alloc (.cells #[.int .i64 kc, .int .u64 nc, .string fc, .int .u64 rc, .string pc, .int .i64 mc, .int .u64 nnc, .int .i64 tc, .int .i64 ko, .int .u64 no, .string fo, .int .u64 ro, .string po, .int .i64 mo, .int .u64 nno, .int .i64 tmo] 29)) :=
  (hA.alloc (([.int .i64 kc, .int .u64 nc, .string fc, .int .u64 rc, .string pc, .int .i64 mc, .int .u64 nnc, .int .i64 tc] : List Value) ++ [.int .i64 ko, .int .u64 no, .string fo, .int .u64 ro, .string po, .int .i64 mo, .int .u64 nno, .int .i64 tmo]) 29).row_shut (size := 8) (n := 2) (cap := 2) (xs := ([⟨kc, nc, fc, rc, pc, mc, nnc, tc⟩, ⟨ko, no, fo, ro, po, mo, nno, tmo⟩] : List Cm).flatMap Cm.cells) .here rfl (by omega) (by unfold maxLen; omega) rfl
 clear hF hA a0 a1 a2 a3 a4 a5 a6 a7 e0 e1 e2 e3 e4 e5 e6 e7 hbs
 generalize w1.alloc (.cells #[.int .i64 kc, .int .u64 nc, .string fc, .int .u64 rc, .string pc, .int .i64 mc, .int .u64 nnc, .int .i64 tc, .int .i64 ko, .int .u64 no, .string fo, .int .u64 ro, .string po, .int .i64 mo, .int .u64 nno, .int .i64 tmo] 29) = w2 at *
 generalize w1.heap.size = g at *
 have hA := hB
 clear hB
 refine (small_any (hA.sep1 (A := rowCm (.slice (some ⟨g, 0, none⟩) 2 2) [⟨kc, nc, fc, rc, pc, mc, nnc, tc⟩, ⟨ko, no, fo, ro, po, mo, nno, tmo⟩]) sZ) (reads_row (.slice (some ⟨g, 0, none⟩) 2 2) [⟨kc, nc, fc, rc, pc, mc, nnc, tc⟩, ⟨ko, no, fo, ro, po, mo, nno, tmo⟩]) (by simp) (fun c hc => by
  simp only [List.mem_cons, List.not_mem_nil, or_false] at hc
  rcases hc with rfl | rfl
  · exact ⟨hvc'.out.path, hvc'.out.foot⟩
  · exact ⟨hvo'.out.path, hvo'.out.foot⟩) 2).mono ?_
 have hF : True := trivial
 rintro e w1 ⟨rfl, hT⟩
 have hB := hA.call1 (A := rowCm (.slice (some ⟨g, 0, none⟩) 2 2) [⟨kc, nc, fc, rc, pc, mc, nnc, tc⟩, ⟨ko, no, fo, ro, po, mo, nno, tmo⟩]) sZ hT
 clear hT
 clear hF hA; have hA := hB; clear hB
 try simp only [uA] at hA
 have hF := hA.facts; (try simp only [uZ] at hA hF)
 have hin2 := fun (hs : smallB [⟨kc, nc, fc, rc, pc, mc, nnc, tc⟩, ⟨ko, no, fo, ro, po, mo, nno, tmo⟩] 2 = true) => (small_in (k := 2) hs (fun c hc => by
  simp only [List.mem_cons, List.not_mem_nil, or_false] at hc
  rcases hc with rfl | rfl
  · exact hvc'.out
  · exact hvo'.out)).2
 obtain ⟨s2, hs2⟩ : ∃ z, smallB [⟨kc, nc, fc, rc, pc, mc, nnc, tc⟩, ⟨ko, no, fo, ro, po, mo, nno, tmo⟩] 2 = z := ⟨_, rfl⟩
 rw [hs2] at hin2
 rw [hs2]
 have hin2' := Lib.hid hin2
 clear hin2 hs2
 cases s2
 · skip
   go_wp2_with (first | ((with_reducible refine gst ?_); refine wT hA ?_; clear hF hA; intro w1 hA hF; (try simp only [uZ] at hA hF)) | ((with_reducible refine gbx ?_); refine wC hA ?_; clear hF hA; intro b1 w1 hA hb1 hF; (try simp only [uZ] at hA hF)))
   go_ret
   exact ⟨rfl, below_old hA sZ⟩
 have okc' := Lib.hid (hin2'.out rfl ⟨kc, nc, fc, rc, pc, mc, nnc, tc⟩ (by simp))
 have oko' := Lib.hid (hin2'.out rfl ⟨ko, no, fo, ro, po, mo, nno, tmo⟩ (by simp))
 clear hin2' hvc' hvo'
 have hcf : fc.size ≤ 100 := okc'.out.ok.foot
 have hcp : pc.size ≤ 100 := okc'.out.ok.path
 have hof : fo.size ≤ 100 := oko'.out.ok.foot
 have hop : po.size ≤ 100 := oko'.out.ok.path
 have hcl := fun w1 => client_any w1 kc nc fc rc pc mc nnc tc (by omega) (by omega) okc'.out.r0
 have hro := fun w1 => Cmd.right_any ⟨ko, no, fo, ro, po, mo, nno, tmo⟩ w1 (show fo.size ≤ 1000 by omega) (show po.size ≤ 1000 by omega)
 obtain ⟨cc, hcc⟩ : ∃ z, (rightC ⟨kc, nc, fc, rc, pc, mc, nnc, tc⟩ && !decide (rc = 0)) = z := ⟨_, rfl⟩
 obtain ⟨co, hco⟩ : ∃ z, rightC ⟨ko, no, fo, ro, po, mo, nno, tmo⟩ = z := ⟨_, rfl⟩
 simp only [hcc] at hcl
 simp only [hco, Cmd.Cm.val] at hro
 have hcl' := Lib.hid hcl
 have hro' := Lib.hid hro
 have hcc' := Lib.hid hcc
 have hco' := Lib.hid hco
 clear hcl hro hcc hco hcf hcp hof hop
 obtain ⟨a0, a1, a2, a3, a4, a5, a6, a7⟩ := cells8 (hA.get (A := Part.cells b7 [.int .i64 kc, .int .u64 nc, .string fc, .int .u64 rc, .string pc, .int .i64 mc, .int .u64 nnc, .int .i64 tc] 29) sZ)
 go_wp2_with (first | ((with_reducible refine gst ?_); refine wT hA ?_; clear hF hA; intro w1 hA hF; (try simp only [uZ] at hA hF)) | ((with_reducible refine gbx ?_); refine wC hA ?_; clear hF hA; intro b1 w1 hA hb1 hF; (try simp only [uZ] at hA hF)))
 refine (hcl'.out _).mono ?_
 clear a0 a1 a2 a3 a4 a5 a6 a7
 rintro e w1 ⟨rfl, hx⟩
 have hB := hA.ext hx
 clear hx
 clear hF hA; have hA := hB; clear hB
 try simp only [uA] at hA
 have hF := hA.facts; (try simp only [uZ] at hA hF)
 cases cc
 · skip
   go_wp2_with (first | ((with_reducible refine gst ?_); refine wT hA ?_; clear hF hA; intro w1 hA hF; (try simp only [uZ] at hA hF)) | ((with_reducible refine gbx ?_); refine wC hA ?_; clear hF hA; intro b1 w1 hA hb1 hF; (try simp only [uZ] at hA hF)))
   go_ret
   exact ⟨rfl, below_old hA sZ⟩
 obtain ⟨e0, e1, e2, e3, e4, e5, e6, e7⟩ := cells8 (hA.get (A := Part.cells b9 [.int .i64 ko, .int .u64 no, .string fo, .int .u64 ro, .string po, .int .i64 mo, .int .u64 nno, .int .i64 tmo] 29) sZ)
 go_wp2_with (first | ((with_reducible refine gst ?_); refine wT hA ?_; clear hF hA; intro w1 hA hF; (try simp only [uZ] at hA hF)) | ((with_reducible refine gbx ?_); refine wC hA ?_; clear hF hA; intro b1 w1 hA hb1 hF; (try simp only [uZ] at hA hF)))
 refine (hro'.out _).mono ?_
 clear e0 e1 e2 e3 e4 e5 e6 e7
 rintro e w1 ⟨rfl, hx⟩
 have hB := hA.ext hx
 clear hx
 clear hF hA; have hA := hB; clear hB
 try simp only [uA] at hA
 have hF := hA.facts; (try simp only [uZ] at hA hF)
 cases co
 · skip
   go_wp2_with (first | ((with_reducible refine gst ?_); refine wT hA ?_; clear hF hA; intro w1 hA hF; (try simp only [uZ] at hA hF)) | ((with_reducible refine gbx ?_); refine wC hA ?_; clear hF hA; intro b1 w1 hA hb1 hF; (try simp only [uZ] at hA hF)))
   go_ret
   exact ⟨rfl, below_old hA sZ⟩
 have hrc : rightC ⟨kc, nc, fc, rc, pc, mc, nnc, tc⟩ = true ∧ rc ≠ 0 := by
  have := hcc'.out
  simp only [Bool.and_eq_true, Bool.not_eq_true', decide_eq_false_iff_not] at this
  exact this
 have hrc' := Lib.hid hrc
 clear hcc' hrc hcl' hro'
 go_wp2_with (first | ((with_reducible refine gst ?_); refine wT hA ?_; clear hF hA; intro w1 hA hF; (try simp only [uZ] at hA hF)) | ((with_reducible refine gbx ?_); refine wC hA ?_; clear hF hA; intro b1 w1 hA hb1 hF; (try simp only [uZ] at hA hF)))
 refine (hpl'.out (by simp) _ (hA.sep1 (A := Part.old w) sZ)).mono ?_
 rintro e w1 ⟨t, p, m, ss, b, av, rfl, hR, hT⟩
 have hB := hA.call1 (A := Part.old w) sZ hT
 clear hT
 clear hF hA; have hA := hB; clear hB
 try simp only [uA] at hA
 have hF := hA.facts; (try simp only [uZ] at hA hF)
 clear hpl'
 have hg0 := (good_new f0 f1).play (l := l) (fun x hx => (hinl'.out x hx).ok)
 have hs0 := play_all (l := l) (fun x hx => ⟨(hinl'.out x hx).ok, (hinl'.out x hx).r0, (hinl'.out x hx).r1⟩) (good_new f0 f1) (by intro s hs; cases hs)
 generalize playT ⟨[], ⟨first, [], []⟩⟩ l = T at *
 have hlk : (lookA T.S nc fc).told = (Lease.look ss nc fc).told := by rw [hR.look]; rfl
 have hcn0 : 0 ≤ nc := okc'.out.ok.num.1
 have hcn1 : nc < Lease.big64 := okc'.out.ok.num.2
 have hcr0 : 0 ≤ rc := okc'.out.r0
 have hcr1 : rc < Lease.big64 := okc'.out.r1
 have hcfm : fc.size ≤ maxLen := by have : fc.size ≤ 100 := okc'.out.ok.foot; unfold maxLen; omega
 have hrm0 := fun (w1 : World) (q : Sep [TabP t p m ss b] w1) => troom_any q hcn0 hcn1 hcfm
 have htd0 := fun (w1 : World) (q : Sep [TabP t p m ss b] w1) => ttold_any q hcn0 hcn1 hcfm hcr0 hcr1
 obtain ⟨rm, hrm⟩ : ∃ z, decide ((Lease.look ss nc fc).told.length < 256) = z := ⟨_, rfl⟩
 simp only [hrm] at hrm0
 obtain ⟨we, wn, wg, wb, hto, hwb⟩ : ∃ we wn wg wb, Lease.toldV (Lease.said (Lease.look ss nc fc).told rc) = .tuple #[.agg #[.int .i64 we, .int .u64 wn, .bool wg], .bool wb] ∧ (Lease.said (Lease.look ss nc fc).told rc).isSome = wb := by
  cases Lease.said (Lease.look ss nc fc).told rc with
  | none => exact ⟨0, 0, false, false, rfl, rfl⟩
  | some a => exact ⟨a.e, a.n, a.g, true, rfl, rfl⟩
 simp only [hto] at htd0
 rw [← hlk] at hrm hwb
 obtain ⟨T1, xe, xn, xg, q1⟩ : ∃ R u1 u2 u3, applyT T ⟨kc, nc, fc, rc, pc, mc, nnc, tc⟩ = (R, ⟨u1, u2, u3⟩) := ⟨_, _, _, _, rfl⟩
 have hap0 := fun (w1 : World) (q : Sep [TabP t p m ss b] w1) => apply_any q kc nc fc rc pc mc nnc tc hR hg0.inv (by omega) okc'.out.ok okc'.out.r0 okc'.out.r1 okc'.out.n0
 simp only [q1] at hap0
 have hg1 := hg0.apply okc'.out.ok
 have hs1 := apply_all hg0.inv.lock hs0 ⟨kc, nc, fc, rc, pc, mc, nnc, tc⟩ ⟨okc'.out.r0, okc'.out.r1⟩
 rw [q1] at hg1 hs1
 have hgl := fun (i : Nat) => hg1.play (l := more.take i) (fun x hx => (hinm'.out x (List.take_subset _ _ hx)).ok)
 have hg2 := hg1.play (l := more) (fun x hx => (hinm'.out x hx).ok)
 have hs2 := play_all (l := more) (fun x hx => ⟨(hinm'.out x hx).ok, (hinm'.out x hx).r0, (hinm'.out x hx).r1⟩) hg1 hs1
 have hmo := play_mono nc fc more T1
 obtain ⟨T2, hT2⟩ : ∃ z, playT T1 more = z := ⟨_, rfl⟩
 rw [hT2] at hg2 hs2 hmo
 obtain ⟨LL, hLL⟩ := rel_some hg2.inv.s.keys hs2
 have hyes : rm = true ∨ wb = true → applyT T2 ⟨kc, nc, fc, rc, pc, mc, nnc, tc⟩ = (T2, ⟨xe, xn, xg⟩) ∧ (no = nc → fo = fc → ro = rc → applyT T2 ⟨ko, no, fo, ro, po, mo, nno, tmo⟩ = (T2, ⟨xe, xn, xg⟩)) := fun hq => by
  have h1 := apply_tells (t := T) (c := ⟨kc, nc, fc, rc, pc, mc, nnc, tc⟩) hrc'.out.1 hrc'.out.2 (hq.elim (fun e => .inr (of_decide_eq_true (hrm.trans e))) (fun e => .inl (hwb.trans e)))
  rw [q1] at h1
  have h2 := hmo.said h1
  refine ⟨apply_said hrc'.out.1 hrc'.out.2 h2, fun e1 e2 e3 => ?_⟩
  subst e1 e2 e3
  exact apply_said (c := ⟨ko, no, fo, ro, po, mo, nno, tmo⟩) hco'.out hrc'.out.2 h2
 have hno : rm = false → wb = false → (⟨xe, xn, xg⟩ : Ans) = ⟨14, 0, false⟩ ∧ applyT T2 ⟨kc, nc, fc, rc, pc, mc, nnc, tc⟩ = (T2, ⟨14, 0, false⟩) := fun e1 e2 => by
  have hf : 256 ≤ (lookA T.S nc fc).told.length := by
   have := of_decide_eq_false (hrm.trans e1)
   omega
  have hn : Lease.said (lookA T.S nc fc).told rc = none := by
   cases hq : Lease.said (lookA T.S nc fc).told rc with
   | none => rfl
   | some a => rw [hq] at hwb; rw [← hwb] at e2; cases e2
  have h1 := apply_full (t := T) (c := ⟨kc, nc, fc, rc, pc, mc, nnc, tc⟩) hrc'.out.1 hrc'.out.2 hn hf
  rw [q1] at h1
  have e3 := congrArg Prod.fst h1
  simp only at e3
  subst e3
  have h3 := hmo.2 hf
  refine ⟨congrArg Prod.snd h1, apply_full (c := ⟨kc, nc, fc, rc, pc, mc, nnc, tc⟩) hrc'.out.1 hrc'.out.2 (by rw [h3]; exact hn) (by rw [h3]; exact hf)⟩
 have hac : applyT T2 ⟨kc, nc, fc, rc, pc, mc, nnc, tc⟩ = (T2, ⟨xe, xn, xg⟩) → ∀ (s2 : List Ses) (d2 : Lock.Bk) (hR2 : TRel s2 d2 T2) (w1 : World) (q : Sep [TabP t p m s2 d2] w1), Calls Tryz.prog 17 #[.pointer (some ⟨t, 0, none⟩), .agg #[.int .i64 kc, .int .u64 nc, .string fc, .int .u64 rc, .string pc, .int .i64 mc, .int .u64 nnc, .int .i64 tc]] w1 fun e w' => ∃ u, e = .returned u ∧ TQ t p m s2 d2 T2 (.agg #[.int .i64 xe, .int .u64 xn, .bool xg]) w1 u w' := fun e s2 d2 hR2 w1 q => by
  have := apply_any q kc nc fc rc pc mc nnc tc hR2 hg2.inv (by omega) okc'.out.ok okc'.out.r0 okc'.out.r1 okc'.out.n0
  rw [e] at this
  exact TPost.q this
 have hao : applyT T2 ⟨ko, no, fo, ro, po, mo, nno, tmo⟩ = (T2, ⟨xe, xn, xg⟩) → ∀ (s2 : List Ses) (d2 : Lock.Bk) (hR2 : TRel s2 d2 T2) (w1 : World) (q : Sep [TabP t p m s2 d2] w1), Calls Tryz.prog 17 #[.pointer (some ⟨t, 0, none⟩), .agg #[.int .i64 ko, .int .u64 no, .string fo, .int .u64 ro, .string po, .int .i64 mo, .int .u64 nno, .int .i64 tmo]] w1 fun e w' => ∃ u, e = .returned u ∧ TQ t p m s2 d2 T2 (.agg #[.int .i64 xe, .int .u64 xn, .bool xg]) w1 u w' := fun e s2 d2 hR2 w1 q => by
  have := apply_any q ko no fo ro po mo nno tmo hR2 hg2.inv (by omega) oko'.out.ok oko'.out.r0 oko'.out.r1 oko'.out.n0
  rw [e] at this
  exact TPost.q this
 have hby := fun (s2 : List Ses) (d2 : Lock.Bk) (hR2 : TRel s2 d2 T2) (w1 : World) (q : Sep [TabP t p m s2 d2] w1) => bytes_any q hR2 hLL hg2.inv (feet_ab hg2.ab) (by omega)
 have hcond := Lib.hid (⟨hyes, hno, hac, hao⟩ : _ ∧ _ ∧ _ ∧ _)
 have hby0 := Lib.hid hby
 have hap0' := Lib.hid hap0
 have hrm0' := Lib.hid hrm0
 have htd' := Lib.hid htd0
 have hgl' := Lib.hid hgl
 have hT2' := Lib.hid hT2
 clear hyes hno hac hao hby hap0 hrm0 htd0 hgl hT2 hLL hs2 hg2 hmo hs1 hg1 q1 hrm hwb hto hlk hR hg0 hs0 hcn0 hcn1 hcr0 hcr1 hcfm okc' oko' hco' hrc'
 go_upto_region 6 with (first | ((with_reducible refine gst ?_); refine wT hA ?_; clear hF hA; intro w1 hA hF; (try simp only [uZ] at hA hF)) | ((with_reducible refine gbx ?_); refine wC hA ?_; clear hF hA; intro b1 w1 hA hb1 hF; (try simp only [uZ] at hA hF)))
 try go_frame
 (refine cA hA ?_); (have hn1 := Cl.none hA); (have hn2 := Cl.none2 hA); (repeat (first | go_big_quiet_skip | (go_big_quiet_want; (first | (refine qM 25 2 ?_; go_frame; go_big_quiet_on) | (refine qL ?_; go_frame; go_big_quiet_on) | (go_big_quiet_op; (first | go_big_quiet_on | ((apply Exists.intro); (refine ⟨fun w1 hw => ?_, ?_⟩); (focus ((have hw := Cl.out hw); (first | exact through1 sZ hw (fun w q => sessions_any q) | exact through1 sZ hw (fun w q => hrm0'.out w q)))); (go_big_quiet_on))))))))
 (refine wpQuiet_nil ?_); (intro w1 hB); (clear hF hA hn1 hn2); (have hA := Cl.out hB); (clear hB); have hF := hA.facts; (try simp only [uZ] at hA hF)
 go_upto_region 7 with (first | ((with_reducible refine gst ?_); refine wT hA ?_; clear hF hA; intro w1 hA hF; (try simp only [uZ] at hA hF)) | ((with_reducible refine gbx ?_); refine wC hA ?_; clear hF hA; intro b1 w1 hA hb1 hF; (try simp only [uZ] at hA hF)))
 try go_frame
 go_cut [14, 15] from 58 to 67 (CutT w (Part.cells b7 [.int .i64 kc, .int .u64 nc, .string fc, .int .u64 rc, .string pc, .int .i64 mc, .int .u64 nnc, .int .i64 tc] 29) (Part.cells b9 [.int .i64 ko, .int .u64 no, .string fo, .int .u64 ro, .string po, .int .i64 mo, .int .u64 nno, .int .i64 tmo] 29) t p m ss b wb)
 case first =>
  have hB := hA.drew
  clear hF hA; have hA := hB; clear hB
  refine wp_region_held (S := fun w' => BlockIs w' b7 (k8 kc nc fc rc pc mc nnc tc) 29) hm ?_
  change wpAnyH _ _ _ _ _ 13 _ _ (World.drew _)
  generalize World.drew _ = wd at *
  have hS0 := (hA.get (A := Part.cells b7 (k8 kc nc fc rc pc mc nnc tc) 29) sZ : (fun w' => BlockIs w' b7 (k8 kc nc fc rc pc mc nnc tc) 29) wd)
  refine tP 0 59 (.pointer (some ⟨t, 0, none⟩)) (s := hS0) (h := ?_)
  try go_frame
  refine tP 2 61 (.pointer (some ⟨b7, 1, none⟩)) (s := hS0) (h := ?_)
  try go_frame
  refine tZ 3 62 (.agg #[.int .u64 nc, .string fc]) (r := (fun w' hS => run_load_row (ty := 25) (n := 2) (b := b7) (j := 1) rfl (by exact rfl) hS (by kernel_rfl) (by kernel_rfl) rfl rfl)) (s := hS0) (h := ?_)
  try go_frame
  refine tP 4 63 (.pointer (some ⟨b7, 3, none⟩)) (s := hS0) (h := ?_)
  try go_frame
  refine tZ 5 64 (.int .u64 rc) (r := (fun w' hS => run_load_one (ty := 22) (b := b7) (j := 3) rfl (by exact rfl) hS (by kernel_rfl) rfl)) (s := hS0) (h := ?_)
  try go_frame
  refine wpAnyH_two (i := 1) (j := 10) (by kernel_rfl) ?_ ?_
  · skip
    refine cY 1 60 13 (fun u w' => u = .pointer (some ⟨p, 0, none⟩) ∧ At [TabP t p m ss b] _ [TabP t p m ss b] w') ((sessions_any (hA.sep1 (A := TabP t p m ss b) sZ)).mono fun e w' ⟨he, hT⟩ => ⟨_, he, rfl, hT⟩) ?_
    rintro u w3 ⟨rfl, hT⟩
    have hB := hA.call1 (A := TabP t p m ss b) sZ hT
    clear hT
    simp only [uA] at hB
    refine andH hB.ci fun hS0 => ?_
    clear hA; have hA := hB; clear hB
    try go_frame
    refine wpAnyH_two (i := 6) (j := 10) (by kernel_rfl) ?_ ?_
    · skip
      refine cY 6 65 23 (fun u w' => u = .tuple #[.agg #[.int .i64 we, .int .u64 wn, .bool wg], .bool wb] ∧ At [TabP t p m ss b] _ [TabP t p m ss b] w') ((htd'.out _ (hA.sep1 (A := TabP t p m ss b) sZ)).mono fun e w' ⟨he, hT⟩ => ⟨_, he, rfl, hT⟩) ?_
      rintro u w3 ⟨rfl, hT⟩
      have hB := hA.call1 (A := TabP t p m ss b) sZ hT
      clear hT
      simp only [uA] at hB
      refine andH hB.ci fun hS0 => ?_
      clear hA; have hA := hB; clear hB
      try go_frame
      refine tP 7 58 (.tuple #[.agg #[.int .i64 we, .int .u64 wn, .bool wg], .bool wb]) (s := hS0) (h := ?_)
      try go_frame
      refine tP 8 66 (.agg #[.int .i64 we, .int .u64 wn, .bool wg]) (s := hS0) (h := ?_)
      try go_frame
      refine tP 9 67 (.bool wb) (s := hS0) (h := ?_)
      try go_frame
      refine wpAnyH_one (i := 10) (by kernel_rfl) ?_
      refine aZ 10 14 48 [.int .i64 0, .int .u64 0, .bool false] hA ?_
      intro b14 w3 hB
      refine andH hB.ci fun hS0 => ?_
      clear hA; have hA := hB; clear hB
      try go_frame
      refine wpAnyH_one (i := 11) (by kernel_rfl) ?_
      refine stZ 11 b14 0 [.int .i64 we, .int .u64 wn, .bool wg] hA ?_
      intro w3 hB
      simp only [uA] at hB
      refine andH hB.ci fun hS0 => ?_
      clear hA; have hA := hB; clear hB
      try go_frame
      refine tP 12 15 (.bool wb) (s := hS0) (h := ?_)
      try go_frame
      refine wpAnyH_done (by kernel_rfl) ?_ _
      try go_frame
      clear hS0
      have hF := hA.facts; (try simp only [uZ] at hA hF)
      go_wp2_with fail
      go_meet
      case rel => exact ⟨rfl, hA.pick pZ⟩
    · skip
      refine aZ 10 14 48 [.int .i64 0, .int .u64 0, .bool false] hA ?_
      intro b14 w3 hB
      refine andH hB.ci fun hS0 => ?_
      clear hA; have hA := hB; clear hB
      try go_frame
      refine wpAnyH_one (i := 6) (by kernel_rfl) ?_
      refine cY 6 65 23 (fun u w' => u = .tuple #[.agg #[.int .i64 we, .int .u64 wn, .bool wg], .bool wb] ∧ At [TabP t p m ss b] _ [TabP t p m ss b] w') ((htd'.out _ (hA.sep1 (A := TabP t p m ss b) sZ)).mono fun e w' ⟨he, hT⟩ => ⟨_, he, rfl, hT⟩) ?_
      rintro u w3 ⟨rfl, hT⟩
      have hB := hA.call1 (A := TabP t p m ss b) sZ hT
      clear hT
      simp only [uA] at hB
      refine andH hB.ci fun hS0 => ?_
      clear hA; have hA := hB; clear hB
      try go_frame
      refine tP 7 58 (.tuple #[.agg #[.int .i64 we, .int .u64 wn, .bool wg], .bool wb]) (s := hS0) (h := ?_)
      try go_frame
      refine tP 8 66 (.agg #[.int .i64 we, .int .u64 wn, .bool wg]) (s := hS0) (h := ?_)
      try go_frame
      refine tP 9 67 (.bool wb) (s := hS0) (h := ?_)
      try go_frame
      refine wpAnyH_one (i := 11) (by kernel_rfl) ?_
      refine stZ 11 b14 0 [.int .i64 we, .int .u64 wn, .bool wg] hA ?_
      intro w3 hB
      simp only [uA] at hB
      refine andH hB.ci fun hS0 => ?_
      clear hA; have hA := hB; clear hB
      try go_frame
      refine tP 12 15 (.bool wb) (s := hS0) (h := ?_)
      try go_frame
      refine wpAnyH_done (by kernel_rfl) ?_ _
      try go_frame
      clear hS0
      have hF := hA.facts; (try simp only [uZ] at hA hF)
      go_wp2_with fail
      go_meet
      case rel => exact ⟨rfl, hA.pick pZ⟩
  · skip
    refine aZ 10 14 48 [.int .i64 0, .int .u64 0, .bool false] hA ?_
    intro b14 w3 hB
    refine andH hB.ci fun hS0 => ?_
    clear hA; have hA := hB; clear hB
    try go_frame
    refine wpAnyH_one (i := 1) (by kernel_rfl) ?_
    refine cY 1 60 13 (fun u w' => u = .pointer (some ⟨p, 0, none⟩) ∧ At [TabP t p m ss b] _ [TabP t p m ss b] w') ((sessions_any (hA.sep1 (A := TabP t p m ss b) sZ)).mono fun e w' ⟨he, hT⟩ => ⟨_, he, rfl, hT⟩) ?_
    rintro u w3 ⟨rfl, hT⟩
    have hB := hA.call1 (A := TabP t p m ss b) sZ hT
    clear hT
    simp only [uA] at hB
    refine andH hB.ci fun hS0 => ?_
    clear hA; have hA := hB; clear hB
    try go_frame
    refine wpAnyH_one (i := 6) (by kernel_rfl) ?_
    refine cY 6 65 23 (fun u w' => u = .tuple #[.agg #[.int .i64 we, .int .u64 wn, .bool wg], .bool wb] ∧ At [TabP t p m ss b] _ [TabP t p m ss b] w') ((htd'.out _ (hA.sep1 (A := TabP t p m ss b) sZ)).mono fun e w' ⟨he, hT⟩ => ⟨_, he, rfl, hT⟩) ?_
    rintro u w3 ⟨rfl, hT⟩
    have hB := hA.call1 (A := TabP t p m ss b) sZ hT
    clear hT
    simp only [uA] at hB
    refine andH hB.ci fun hS0 => ?_
    clear hA; have hA := hB; clear hB
    try go_frame
    refine tP 7 58 (.tuple #[.agg #[.int .i64 we, .int .u64 wn, .bool wg], .bool wb]) (s := hS0) (h := ?_)
    try go_frame
    refine tP 8 66 (.agg #[.int .i64 we, .int .u64 wn, .bool wg]) (s := hS0) (h := ?_)
    try go_frame
    refine tP 9 67 (.bool wb) (s := hS0) (h := ?_)
    try go_frame
    refine wpAnyH_one (i := 11) (by kernel_rfl) ?_
    refine stZ 11 b14 0 [.int .i64 we, .int .u64 wn, .bool wg] hA ?_
    intro w3 hB
    simp only [uA] at hB
    refine andH hB.ci fun hS0 => ?_
    clear hA; have hA := hB; clear hB
    try go_frame
    refine tP 12 15 (.bool wb) (s := hS0) (h := ?_)
    try go_frame
    refine wpAnyH_done (by kernel_rfl) ?_ _
    try go_frame
    clear hS0
    have hF := hA.facts; (try simp only [uZ] at hA hF)
    go_wp2_with fail
    go_meet
    case rel => exact ⟨rfl, hA.pick pZ⟩
 case rest =>
 obtain ⟨rfl, hB⟩ := hcut
 clear hF hA
 have hA := hB
 clear hB hrm0' htd'
 have hF := hA.facts; (try simp only [uZ] at hA hF)
 go_wp2_with (first | ((with_reducible show wpList _ _ _ ({ dst := some 69, op := Op.load 29 _, type := _, pos := _, after := _, guard := _ } :: _) _ _); refine wpList_loadRow_at (vs := [.int .i64 kc, .int .u64 nc, .string fc, .int .u64 rc, .string pc, .int .i64 mc, .int .u64 nnc, .int .i64 tc]) rfl rfl (by (try simp only [Act.eval, eV]) <;> exact rfl) (fun k u hk => by rw [Nat.zero_add]; exact ((hA.get (A := Part.cells b7 [.int .i64 kc, .int .u64 nc, .string fc, .int .u64 rc, .string pc, .int .i64 mc, .int .u64 nnc, .int .i64 tc] 29) sZ : BlockIs _ _ _ _).cell k).trans hk) (by kernel_rfl) (by kernel_rfl) ?_) | ((with_reducible refine gst ?_); refine wT hA ?_; clear hF hA; intro w1 hA hF; (try simp only [uZ] at hA hF)) | ((with_reducible refine gbx ?_); refine wC hA ?_; clear hF hA; intro b1 w1 hA hb1 hF; (try simp only [uZ] at hA hF)))
 refine (hap0'.out _ (hA.sep1 (A := TabP t p m ss b) sZ)).mono ?_
 clear hap0'
 rintro e w1 ⟨ss1, d1, rfl, hR1, hT⟩
 have hB := hA.call1 (A := TabP t p m ss b) sZ hT
 clear hT
 clear hF hA; have hA := hB; clear hB
 try simp only [uA] at hA
 have hF := hA.facts; (try simp only [uZ] at hA hF)
 have hR1' := Lib.hid hR1
 clear hR1
 simp only [Lease.Ans.val]
 go_wp2_with (first | (((with_reducible show wpList _ _ _ ({ dst := some 16, op := Op.alloc _, type := _, pos := _, after := _, guard := _ } :: _) _ _)); ((with_reducible refine gal ?_); refine wG 48 [.int .i64 0, .int .u64 0, .bool false] hA ?_; clear hF hA; intro b16 w1 hA hb16 hF; (try simp only [uZ] at hA hF))) | ((with_reducible refine gst ?_); refine wT hA ?_; clear hF hA; intro w1 hA hF; (try simp only [uZ] at hA hF)) | ((with_reducible refine gbx ?_); refine wC hA ?_; clear hF hA; intro b1 w1 hA hb1 hF; (try simp only [uZ] at hA hF)))
 try go_frame
 go_loopg [73] more.length (AgRel w (Part.cells b7 [.int .i64 kc, .int .u64 nc, .string fc, .int .u64 rc, .string pc, .int .i64 mc, .int .u64 nnc, .int .i64 tc] 29) (Part.cells b9 [.int .i64 ko, .int .u64 no, .string fo, .int .u64 ro, .string po, .int .i64 mo, .int .u64 nno, .int .i64 tmo] 29) (Part.cells b16 [.int .i64 xe, .int .u64 xn, .bool xg] 48) t p m T1 more)
 case atStart => exact ⟨0, ss1, d1, rfl, by omega, hR1'.out, hA.pick pZ⟩
 case round =>
  obtain ⟨i, ss, b, rfl, hik, hRi, hB⟩ := hrel
  clear hF hA hR1'; have hA := hB; clear hB
  have hRi' := Lib.hid hRi
  clear hRi
  by_cases hi : i < more.length
  · obtain ⟨c, hc⟩ : ∃ c, more[i]? = some c := ⟨_, List.getElem?_eq_getElem hi⟩
    have hci := hinm'.out c (List.mem_of_getElem? hc)
    have htk : more.take (i + 1) = more.take i ++ [c] := by rw [List.take_add_one, hc]; rfl
    have hp1 := Lib.hid (show playT T1 (more.take (i + 1)) = (applyT (playT T1 (more.take i)) c).1 by rw [htk, playT_snoc])
    have hti : (more.take i).length ≤ 40 := by rw [List.length_take]; omega
    obtain ⟨bl0, ofl, hax⟩ : ∃ b0 o0, ax3 = some ⟨b0, o0, none⟩ := by
     obtain ⟨ax2, c2, e2, _, hr2⟩ := hr3'.out _ (hA.get (A := Part.old w) sZ)
     cases e2
     have hf := flat_at Cm.cells 8 (fun _ => rfl) more i c hc 0 (by omega)
     obtain ⟨b0, o0, e3, _⟩ := hr2 (i * 8 + 0) _ hf
     exact ⟨b0, o0, e3⟩
    subst hax
    have hrc := reads_cm hr3'.out hc _ (hA.get (A := Part.old w) sZ)
    have hap := fun (w1 : World) (q : Sep [TabP t p m ss b] w1) => apply_any q c.kind c.num c.foot c.req c.path c.mode c.n c.time hRi'.out (hgl'.out i).inv (by omega) hci.ok hci.r0 hci.r1 hci.n0
    obtain ⟨R1, hR1⟩ : ∃ z, applyT (playT T1 (more.take i)) c = z := ⟨_, rfl⟩
    have hcc : (⟨c.kind, c.num, c.foot, c.req, c.path, c.mode, c.n, c.time⟩ : Cm) = c := rfl
    simp only [hcc, hR1] at hap
    rw [hR1] at hp1
    clear hR1 hcc hc htk hci hti
    obtain ⟨R1, ⟨le, ln, lg⟩⟩ := R1
    obtain ⟨k2, n2, f2, r2, p2, m2, nn2, t2⟩ := c
    simp only at hap
    have hap' := Lib.hid hap
    have hrc' := Lib.hid (show ∀ (k : Nat) u, ([.int .i64 k2, .int .u64 n2, .string f2, .int .u64 r2, .string p2, .int .i64 m2, .int .u64 nn2, .int .i64 t2] : List Value)[k]? = some u → wr.cell? ⟨bl0, ofl + i * 8 + k, none⟩ = some u from hrc)
    clear hap hrc
    have hF := hA.facts; (try simp only [uZ] at hA hF)
    go_wp2_with (first | (((with_reducible show wpList _ _ _ ({ dst := some 18, op := Op.alloc _, type := _, pos := _, after := _, guard := _ } :: _) _ _)); ((with_reducible refine gal ?_); refine wG 29 [.int .i64 0, .int .u64 0, .string .empty, .int .u64 0, .string .empty, .int .i64 0, .int .u64 0, .int .i64 0] hA ?_; clear hF hA; intro b18 w1 hA hb18 hF; (try simp only [uZ] at hA hF))) | ((with_reducible show wpList _ _ _ ({ dst := some 76, op := Op.load _ _, type := _, pos := _, after := _, guard := _ } :: _) _ _); refine wpList_loadRow_at (vs := [.int .i64 k2, .int .u64 n2, .string f2, .int .u64 r2, .string p2, .int .i64 m2, .int .u64 nn2, .int .i64 t2]) rfl rfl (by (try simp only [Act.eval, eV]) <;> exact rfl) hrc'.out (by kernel_rfl) (by kernel_rfl) ?_) | ((with_reducible show wpList _ _ _ ({ dst := some 78, op := Op.load 29 _, type := _, pos := _, after := _, guard := _ } :: _) _ _); refine wpList_loadRow_at (vs := [.int .i64 k2, .int .u64 n2, .string f2, .int .u64 r2, .string p2, .int .i64 m2, .int .u64 nn2, .int .i64 t2]) rfl rfl (by (try simp only [Act.eval, eV]) <;> exact rfl) (fun k u hk => by rw [Nat.zero_add]; exact ((hA.get (A := Part.cells b18 [.int .i64 k2, .int .u64 n2, .string f2, .int .u64 r2, .string p2, .int .i64 m2, .int .u64 nn2, .int .i64 t2] 29) sZ : BlockIs _ _ _ _).cell k).trans hk) (by kernel_rfl) (by kernel_rfl) ?_) | ((with_reducible refine gst ?_); refine wT hA ?_; clear hF hA; intro w1 hA hF; (try simp only [uZ] at hA hF)) | ((with_reducible refine gbx ?_); refine wC hA ?_; clear hF hA; intro b1 w1 hA hb1 hF; (try simp only [uZ] at hA hF)))
    refine (hap'.out _ (hA.sep1 (A := TabP t p m ss b) sZ)).mono ?_
    rintro e w1 ⟨ss2, b2, rfl, hR2, hT⟩
    have hB := hA.call1 (A := TabP t p m ss b) sZ hT
    clear hT
    clear hF hA; have hA := hB; clear hB
    try simp only [uA] at hA
    have hF := hA.facts; (try simp only [uZ] at hA hF)
    have hR2' := Lib.hid hR2
    clear hR2 hap'
    go_wp2_with (first | ((with_reducible refine gst ?_); refine wT hA ?_; clear hF hA; intro w1 hA hF; (try simp only [uZ] at hA hF)) | ((with_reducible refine gbx ?_); refine wC hA ?_; clear hF hA; intro b1 w1 hA hb1 hF; (try simp only [uZ] at hA hF)))
    go_roundg (gk - 1)
    case measure => omega
    case rel => exact ⟨i + 1, ss2, b2, by simp, by omega, by rw [hp1.out]; exact hR2'.out, hA.pick pZ⟩
  · have hi2 : i = more.length := by omega
    subst hi2
    rw [List.take_of_length_le (Nat.le_refl _), hT2'.out] at hRi'
    have hF := hA.facts; (try simp only [uZ] at hA hF)
    go_wp2_with (first | ((with_reducible refine gst ?_); refine wT hA ?_; clear hF hA; intro w1 hA hF; (try simp only [uZ] at hA hF)) | ((with_reducible refine gbx ?_); refine wC hA ?_; clear hF hA; intro b1 w1 hA hb1 hF; (try simp only [uZ] at hA hF)))
    refine (hby0.out ss b hRi'.out _ (hA.sep1 (A := TabP t p m ss b) sZ)).mono ?_
    rintro e w1 ⟨v0, l0, rfl, hb0, hl0, hT⟩
    have hB := hA.call1 (A := TabP t p m ss b) sZ hT
    clear hT
    clear hF hA; have hA := hB; clear hB
    try simp only [uA] at hA
    have hF := hA.facts; (try simp only [uZ] at hA hF)
    have hl0' := Lib.hid (show l0.length ≤ 140000000000000 by omega)
    have hby' := Lib.hid (fun (s2 : List Ses) (d2 : Lock.Bk) (hR2 : TRel s2 d2 T2) (w1 : World) (q : Sep [TabP t p m s2 d2] w1) => ((hby0.out s2 d2 hR2 w1 q).mono fun e w' ⟨v1, l1, he, hb1, _, hT⟩ => by
     have e1 := bytes_same (LEq.refl T2.L) hb0 hb1
     subst e1
     exact (⟨v1, he, hT⟩ : ∃ u, e = .returned u ∧ BQ t p m s2 d2 l0 w1 u w')))
    clear hb0 hl0 hby0
    obtain ⟨hyes, hno, hac, hao⟩ := hcond.out
    have hR2' := hRi'
    clear hRi' hcond
    cases rm
    · cases wb
      · obtain ⟨hx, hac0⟩ := hno rfl rfl
        cases hx
        have hac' := Lib.hid (hac hac0)
        clear hyes hno hac hao hac0
        go_upto_region 16 with (first | ((with_reducible refine gst ?_); refine wT hA ?_; clear hF hA; intro w1 hA hF; (try simp only [uZ] at hA hF)) | ((with_reducible refine gbx ?_); refine wC hA ?_; clear hF hA; intro b1 w1 hA hb1 hF; (try simp only [uZ] at hA hF)))
        try go_frame
        have hB := hA.drew
        clear hF hA; have hA := hB; clear hB
        refine wp_region_held (S := fun w' => BlockIs w' b7 (k8 kc nc fc rc pc mc nnc tc) 29 ∧ BlockIs w' b16 [.int .i64 14, .int .u64 0, .bool false] 48) hm ?_
        change wpAnyH _ _ _ _ _ 17 _ _ (World.drew _)
        generalize World.drew _ = wd at *
        have hS0 := (⟨hA.get (A := Part.cells b7 (k8 kc nc fc rc pc mc nnc tc) 29) sZ, hA.get (A := Part.cells b16 [.int .i64 14, .int .u64 0, .bool false] 48) sZ⟩ : (fun w' => BlockIs w' b7 (k8 kc nc fc rc pc mc nnc tc) 29 ∧ BlockIs w' b16 [.int .i64 14, .int .u64 0, .bool false] 48) wd)
        refine tZ 0 89 (.agg #[.int .i64 14, .int .u64 0, .bool false]) (r := (fun w' hS => run_load_row (ty := 48) (n := 3) (b := b16) (j := 0) rfl (by exact rfl) hS.2 (by kernel_rfl) (by kernel_rfl) rfl rfl)) (s := hS0) (h := ?_)
        try go_frame
        refine tP 1 90 (.agg #[.int .i64 14, .int .u64 0, .bool false]) (s := hS0) (h := ?_)
        try go_frame
        refine tP 2 91 (.bool true) (s := hS0) (h := ?_)
        try go_frame
        refine tP 3 92 (.bool true) (s := hS0) (h := ?_)
        try go_frame
        refine tP 4 93 (.pointer (some ⟨t, 0, none⟩)) (s := hS0) (h := ?_)
        try go_frame
        refine tZ 5 94 (.agg #[.int .i64 kc, .int .u64 nc, .string fc, .int .u64 rc, .string pc, .int .i64 mc, .int .u64 nnc, .int .i64 tc]) (r := (fun w' hS => run_load_row (ty := 29) (n := 8) (b := b7) (j := 0) rfl (by exact rfl) hS.1 (by kernel_rfl) (by kernel_rfl) rfl rfl)) (s := hS0) (h := ?_)
        try go_frame
        refine tZ 7 96 (.agg #[.int .i64 14, .int .u64 0, .bool false]) (r := (fun w' hS => run_load_row (ty := 48) (n := 3) (b := b16) (j := 0) rfl (by exact rfl) hS.2 (by kernel_rfl) (by kernel_rfl) rfl rfl)) (s := hS0) (h := ?_)
        try go_frame
        refine wpAnyH_one (i := 6) (by kernel_rfl) ?_
        refine cZ 6 95 (hac'.out ss b hR2'.out _ (hA.sep1 (A := TabP t p m ss b) sZ)) ?_
        rintro u w3 ⟨s3, d3, rfl, hR3, hT⟩
        have hR3' := Lib.hid hR3
        have hB := hA.call1 (A := TabP t p m ss b) sZ hT
        clear hT hR3
        simp only [uA] at hB
        refine andH ⟨hB.ci, hB.ci⟩ fun hS0 => ?_
        clear hA; have hA := hB; clear hB
        try go_frame
        refine tP 8 97 (.bool true) (s := hS0) (h := ?_)
        try go_frame
        refine tP 9 98 (.bool true) (s := hS0) (h := ?_)
        try go_frame
        refine tP 10 99 (.bool true) (s := hS0) (h := ?_)
        try go_frame
        refine tP 11 100 (v0) (s := hS0) (h := ?_)
        try go_frame
        refine tP 12 101 (.pointer (some ⟨t, 0, none⟩)) (s := hS0) (h := ?_)
        try go_frame
        refine wpAnyH_one (i := 13) (by kernel_rfl) ?_
        refine cZ 13 102 (hby'.out s3 d3 hR3'.out _ (hA.sep1 (A := TabP t p m s3 d3) sZ)) ?_
        rintro v1 w3 hT
        have hB := hA.call1 (A := TabP t p m s3 d3) sZ hT.out
        clear hT
        simp only [uA] at hB
        refine andH ⟨hB.ci, hB.ci⟩ fun hS0 => ?_
        clear hA; have hA := hB; clear hB
        try go_frame
        refine wpAnyH_one (i := 14) (by kernel_rfl) ?_
        refine cY 14 103 25 (fun u w' => u = .bool true ∧ At [Wire.rowY v0 l0, Wire.rowY v1 l0] _ [Wire.rowY v0 l0, Wire.rowY v1 l0] w') ((Wire.same_any (hA.sep2 (A := Wire.rowY v0 l0) (B := Wire.rowY v1 l0) sZ sZ) hl0'.out).mono fun e w' ⟨he, hT⟩ => ⟨_, he, by rw [decide_eq_true (rfl : l0 = l0)], hT⟩) ?_
        rintro u w3 ⟨rfl, hT⟩
        have hB := hA.call2 (A := Wire.rowY v0 l0) (B := Wire.rowY v1 l0) sZ sZ hT
        clear hT
        simp only [uA] at hB
        refine andH ⟨hB.ci, hB.ci⟩ fun hS0 => ?_
        clear hA; have hA := hB; clear hB
        try go_frame
        refine tP 15 104 (.bool true) (s := hS0) (h := ?_)
        try go_frame
        refine tP 16 10 (.bool true) (s := hS0) (h := ?_)
        try go_frame
        refine wpAnyH_done (by kernel_rfl) ?_ _
        try go_frame
        clear hS0
        have hF := hA.facts; (try simp only [uZ] at hA hF)
        go_wp2_with (first | ((with_reducible refine gst ?_); refine wT hA ?_; clear hF hA; intro w1 hA hF; (try simp only [uZ] at hA hF)) | ((with_reducible refine gbx ?_); refine wC hA ?_; clear hF hA; intro b1 w1 hA hb1 hF; (try simp only [uZ] at hA hF)))
        go_ret
        exact ⟨rfl, below_old hA sZ⟩
      · obtain ⟨hac0, hao0⟩ := hyes (.inr rfl)
        have hac' := Lib.hid (hac hac0)
        have hao2 := Lib.hid (fun e1 e2 e3 => hao (hao0 e1 e2 e3))
        clear hyes hno hac hao hac0 hao0
        go_upto_region 17 with (first | ((with_reducible refine gst ?_); refine wT hA ?_; clear hF hA; intro w1 hA hF; (try simp only [uZ] at hA hF)) | ((with_reducible refine gbx ?_); refine wC hA ?_; clear hF hA; intro b1 w1 hA hb1 hF; (try simp only [uZ] at hA hF)))
        try go_frame
        have hB := hA.drew
        clear hF hA; have hA := hB; clear hB
        refine wp_region_held (S := fun w' => BlockIs w' b7 (k8 kc nc fc rc pc mc nnc tc) 29 ∧ BlockIs w' b16 [.int .i64 xe, .int .u64 xn, .bool xg] 48) hm ?_
        change wpAnyH _ _ _ _ _ 12 _ _ (World.drew _)
        generalize World.drew _ = wd at *
        have hS0 := (⟨hA.get (A := Part.cells b7 (k8 kc nc fc rc pc mc nnc tc) 29) sZ, hA.get (A := Part.cells b16 [.int .i64 xe, .int .u64 xn, .bool xg] 48) sZ⟩ : (fun w' => BlockIs w' b7 (k8 kc nc fc rc pc mc nnc tc) 29 ∧ BlockIs w' b16 [.int .i64 xe, .int .u64 xn, .bool xg] 48) wd)
        refine tP 0 105 (.pointer (some ⟨t, 0, none⟩)) (s := hS0) (h := ?_)
        try go_frame
        refine tZ 1 106 (.agg #[.int .i64 kc, .int .u64 nc, .string fc, .int .u64 rc, .string pc, .int .i64 mc, .int .u64 nnc, .int .i64 tc]) (r := (fun w' hS => run_load_row (ty := 29) (n := 8) (b := b7) (j := 0) rfl (by exact rfl) hS.1 (by kernel_rfl) (by kernel_rfl) rfl rfl)) (s := hS0) (h := ?_)
        try go_frame
        refine tZ 3 108 (.agg #[.int .i64 xe, .int .u64 xn, .bool xg]) (r := (fun w' hS => run_load_row (ty := 48) (n := 3) (b := b16) (j := 0) rfl (by exact rfl) hS.2 (by kernel_rfl) (by kernel_rfl) rfl rfl)) (s := hS0) (h := ?_)
        try go_frame
        refine wpAnyH_one (i := 2) (by kernel_rfl) ?_
        refine cZ 2 107 (hac'.out ss b hR2'.out _ (hA.sep1 (A := TabP t p m ss b) sZ)) ?_
        rintro u w3 ⟨s3, d3, rfl, hR3, hT⟩
        have hR3' := Lib.hid hR3
        have hB := hA.call1 (A := TabP t p m ss b) sZ hT
        clear hT hR3
        simp only [uA] at hB
        refine andH ⟨hB.ci, hB.ci⟩ fun hS0 => ?_
        clear hA; have hA := hB; clear hB
        try go_frame
        refine tP 4 109 (.bool false) (s := hS0) (h := ?_)
        try go_frame
        refine tP 5 110 (.bool false) (s := hS0) (h := ?_)
        try go_frame
        refine tP 6 111 (v0) (s := hS0) (h := ?_)
        try go_frame
        refine tP 7 112 (.pointer (some ⟨t, 0, none⟩)) (s := hS0) (h := ?_)
        try go_frame
        refine wpAnyH_one (i := 8) (by kernel_rfl) ?_
        refine cZ 8 113 (hby'.out s3 d3 hR3'.out _ (hA.sep1 (A := TabP t p m s3 d3) sZ)) ?_
        rintro v1 w3 hT
        have hB := hA.call1 (A := TabP t p m s3 d3) sZ hT.out
        clear hT
        simp only [uA] at hB
        refine andH ⟨hB.ci, hB.ci⟩ fun hS0 => ?_
        clear hA; have hA := hB; clear hB
        try go_frame
        refine wpAnyH_one (i := 9) (by kernel_rfl) ?_
        refine cY 9 114 25 (fun u w' => u = .bool true ∧ At [Wire.rowY v0 l0, Wire.rowY v1 l0] _ [Wire.rowY v0 l0, Wire.rowY v1 l0] w') ((Wire.same_any (hA.sep2 (A := Wire.rowY v0 l0) (B := Wire.rowY v1 l0) sZ sZ) hl0'.out).mono fun e w' ⟨he, hT⟩ => ⟨_, he, by rw [decide_eq_true (rfl : l0 = l0)], hT⟩) ?_
        rintro u w3 ⟨rfl, hT⟩
        have hB := hA.call2 (A := Wire.rowY v0 l0) (B := Wire.rowY v1 l0) sZ sZ hT
        clear hT
        simp only [uA] at hB
        refine andH ⟨hB.ci, hB.ci⟩ fun hS0 => ?_
        clear hA; have hA := hB; clear hB
        try go_frame
        refine tP 10 115 (.bool false) (s := hS0) (h := ?_)
        try go_frame
        refine tP 11 116 (.bool false) (s := hS0) (h := ?_)
        try go_frame
        refine wpAnyH_done (by kernel_rfl) ?_ _
        try go_frame
        clear hS0
        have hF := hA.facts; (try simp only [uZ] at hA hF)
        obtain ⟨a0, a1, a2, a3, a4, a5, a6, a7⟩ := cells8 (hA.get (A := Part.cells b7 [.int .i64 kc, .int .u64 nc, .string fc, .int .u64 rc, .string pc, .int .i64 mc, .int .u64 nnc, .int .i64 tc] 29) sZ)
        obtain ⟨e0, e1, e2, e3, e4, e5, e6, e7⟩ := cells8 (hA.get (A := Part.cells b9 [.int .i64 ko, .int .u64 no, .string fo, .int .u64 ro, .string po, .int .i64 mo, .int .u64 nno, .int .i64 tmo] 29) sZ)
        by_cases hsq : no = nc ∧ fo = fc
        · have hsd : decide (no = nc ∧ fo = fc) = true := decide_eq_true hsq
          have hnS := fun w => (neqSe no nc fo fc w).trans (by rw [hsd])
          by_cases hrq : ro = rc
          · have hrd : (ro != rc) = false := by simpa using hrq
            have hao' := Lib.hid (hao2.out hsq.1 hsq.2 hrq)
            clear hsd hsq hrq hao2
            go_upto_region 21 with (first | ((with_reducible refine gst ?_); refine wT hA ?_; clear hF hA; intro w1 hA hF; (try simp only [uZ] at hA hF)) | ((with_reducible refine gbx ?_); refine wC hA ?_; clear hF hA; intro b1 w1 hA hb1 hF; (try simp only [uZ] at hA hF)))
            try go_frame
            clear hnS hrd a0 a1 a2 a3 a4 a5 a6 a7 e0 e1 e2 e3 e4 e5 e6 e7
            have hB := hA.drew
            clear hF hA; have hA := hB; clear hB
            refine wp_region_held (S := fun w' => BlockIs w' b7 (k8 kc nc fc rc pc mc nnc tc) 29 ∧ BlockIs w' b16 [.int .i64 xe, .int .u64 xn, .bool xg] 48 ∧ BlockIs w' b9 (k8 ko no fo ro po mo nno tmo) 29) hm ?_
            change wpAnyH _ _ _ _ _ 12 _ _ (World.drew _)
            generalize World.drew _ = wd at *
            have hS0 := (⟨hA.get (A := Part.cells b7 (k8 kc nc fc rc pc mc nnc tc) 29) sZ, hA.get (A := Part.cells b16 [.int .i64 xe, .int .u64 xn, .bool xg] 48) sZ, hA.get (A := Part.cells b9 (k8 ko no fo ro po mo nno tmo) 29) sZ⟩ : (fun w' => BlockIs w' b7 (k8 kc nc fc rc pc mc nnc tc) 29 ∧ BlockIs w' b16 [.int .i64 xe, .int .u64 xn, .bool xg] 48 ∧ BlockIs w' b9 (k8 ko no fo ro po mo nno tmo) 29) wd)
            refine tP 0 129 (.pointer (some ⟨t, 0, none⟩)) (s := hS0) (h := ?_)
            try go_frame
            refine tZ 1 130 (.agg #[.int .i64 ko, .int .u64 no, .string fo, .int .u64 ro, .string po, .int .i64 mo, .int .u64 nno, .int .i64 tmo]) (r := (fun w' hS => run_load_row (ty := 29) (n := 8) (b := b9) (j := 0) rfl (by exact rfl) hS.2.2 (by kernel_rfl) (by kernel_rfl) rfl rfl)) (s := hS0) (h := ?_)
            try go_frame
            refine tZ 3 132 (.agg #[.int .i64 xe, .int .u64 xn, .bool xg]) (r := (fun w' hS => run_load_row (ty := 48) (n := 3) (b := b16) (j := 0) rfl (by exact rfl) hS.2.1 (by kernel_rfl) (by kernel_rfl) rfl rfl)) (s := hS0) (h := ?_)
            try go_frame
            refine wpAnyH_one (i := 2) (by kernel_rfl) ?_
            refine cZ 2 131 (hao'.out s3 d3 hR3'.out _ (hA.sep1 (A := TabP t p m s3 d3) sZ)) ?_
            rintro u w3 ⟨s4, d4, rfl, hR4, hT⟩
            have hR4' := Lib.hid hR4
            have hB := hA.call1 (A := TabP t p m s3 d3) sZ hT
            clear hT hR4
            simp only [uA] at hB
            refine andH ⟨hB.ci, hB.ci, hB.ci⟩ fun hS0 => ?_
            clear hA; have hA := hB; clear hB
            try go_frame
            refine tP 4 133 (.bool true) (s := hS0) (h := ?_)
            try go_frame
            refine tP 5 134 (.bool true) (s := hS0) (h := ?_)
            try go_frame
            refine tP 6 135 (v0) (s := hS0) (h := ?_)
            try go_frame
            refine tP 7 136 (.pointer (some ⟨t, 0, none⟩)) (s := hS0) (h := ?_)
            try go_frame
            refine wpAnyH_one (i := 8) (by kernel_rfl) ?_
            refine cZ 8 137 (hby'.out s4 d4 hR4'.out _ (hA.sep1 (A := TabP t p m s4 d4) sZ)) ?_
            rintro v2 w3 hT
            have hB := hA.call1 (A := TabP t p m s4 d4) sZ hT.out
            clear hT
            simp only [uA] at hB
            refine andH ⟨hB.ci, hB.ci, hB.ci⟩ fun hS0 => ?_
            clear hA; have hA := hB; clear hB
            try go_frame
            refine wpAnyH_one (i := 9) (by kernel_rfl) ?_
            refine cY 9 138 25 (fun u w' => u = .bool true ∧ At [Wire.rowY v0 l0, Wire.rowY v2 l0] _ [Wire.rowY v0 l0, Wire.rowY v2 l0] w') ((Wire.same_any (hA.sep2 (A := Wire.rowY v0 l0) (B := Wire.rowY v2 l0) sZ sZ) hl0'.out).mono fun e w' ⟨he, hT⟩ => ⟨_, he, by rw [decide_eq_true (rfl : l0 = l0)], hT⟩) ?_
            rintro u w3 ⟨rfl, hT⟩
            have hB := hA.call2 (A := Wire.rowY v0 l0) (B := Wire.rowY v2 l0) sZ sZ hT
            clear hT
            simp only [uA] at hB
            refine andH ⟨hB.ci, hB.ci, hB.ci⟩ fun hS0 => ?_
            clear hA; have hA := hB; clear hB
            try go_frame
            refine tP 10 139 (.bool true) (s := hS0) (h := ?_)
            try go_frame
            refine tP 11 10 (.bool true) (s := hS0) (h := ?_)
            try go_frame
            refine wpAnyH_done (by kernel_rfl) ?_ _
            try go_frame
            clear hS0
            have hF := hA.facts; (try simp only [uZ] at hA hF)
            go_wp2_with (first | ((with_reducible refine gst ?_); refine wT hA ?_; clear hF hA; intro w1 hA hF; (try simp only [uZ] at hA hF)) | ((with_reducible refine gbx ?_); refine wC hA ?_; clear hF hA; intro b1 w1 hA hb1 hF; (try simp only [uZ] at hA hF)))
            go_ret
            exact ⟨rfl, below_old hA sZ⟩
          · have hrd : (ro != rc) = true := by simpa using hrq
            clear hsd hsq hrq
            go_wp2_with (first | ((with_reducible refine gst ?_); refine wT hA ?_; clear hF hA; intro w1 hA hF; (try simp only [uZ] at hA hF)) | ((with_reducible refine gbx ?_); refine wC hA ?_; clear hF hA; intro b1 w1 hA hb1 hF; (try simp only [uZ] at hA hF)))
            go_ret
            exact ⟨rfl, below_old hA sZ⟩
        · have hsd : decide (no = nc ∧ fo = fc) = false := decide_eq_false hsq
          have hnS := fun w => (neqSe no nc fo fc w).trans (by rw [hsd])
          clear hsd hsq
          go_wp2_with (first | ((with_reducible refine gst ?_); refine wT hA ?_; clear hF hA; intro w1 hA hF; (try simp only [uZ] at hA hF)) | ((with_reducible refine gbx ?_); refine wC hA ?_; clear hF hA; intro b1 w1 hA hb1 hF; (try simp only [uZ] at hA hF)))
          go_ret
          exact ⟨rfl, below_old hA sZ⟩
    · obtain ⟨hac0, hao0⟩ := hyes (.inl rfl)
      have hac' := Lib.hid (hac hac0)
      have hao2 := Lib.hid (fun e1 e2 e3 => hao (hao0 e1 e2 e3))
      clear hyes hno hac hao hac0 hao0
      go_upto_region 17 with (first | ((with_reducible refine gst ?_); refine wT hA ?_; clear hF hA; intro w1 hA hF; (try simp only [uZ] at hA hF)) | ((with_reducible refine gbx ?_); refine wC hA ?_; clear hF hA; intro b1 w1 hA hb1 hF; (try simp only [uZ] at hA hF)))
      try go_frame
      have hB := hA.drew
      clear hF hA; have hA := hB; clear hB
      refine wp_region_held (S := fun w' => BlockIs w' b7 (k8 kc nc fc rc pc mc nnc tc) 29 ∧ BlockIs w' b16 [.int .i64 xe, .int .u64 xn, .bool xg] 48) hm ?_
      change wpAnyH _ _ _ _ _ 12 _ _ (World.drew _)
      generalize World.drew _ = wd at *
      have hS0 := (⟨hA.get (A := Part.cells b7 (k8 kc nc fc rc pc mc nnc tc) 29) sZ, hA.get (A := Part.cells b16 [.int .i64 xe, .int .u64 xn, .bool xg] 48) sZ⟩ : (fun w' => BlockIs w' b7 (k8 kc nc fc rc pc mc nnc tc) 29 ∧ BlockIs w' b16 [.int .i64 xe, .int .u64 xn, .bool xg] 48) wd)
      refine tP 0 105 (.pointer (some ⟨t, 0, none⟩)) (s := hS0) (h := ?_)
      try go_frame
      refine tZ 1 106 (.agg #[.int .i64 kc, .int .u64 nc, .string fc, .int .u64 rc, .string pc, .int .i64 mc, .int .u64 nnc, .int .i64 tc]) (r := (fun w' hS => run_load_row (ty := 29) (n := 8) (b := b7) (j := 0) rfl (by exact rfl) hS.1 (by kernel_rfl) (by kernel_rfl) rfl rfl)) (s := hS0) (h := ?_)
      try go_frame
      refine tZ 3 108 (.agg #[.int .i64 xe, .int .u64 xn, .bool xg]) (r := (fun w' hS => run_load_row (ty := 48) (n := 3) (b := b16) (j := 0) rfl (by exact rfl) hS.2 (by kernel_rfl) (by kernel_rfl) rfl rfl)) (s := hS0) (h := ?_)
      try go_frame
      refine wpAnyH_one (i := 2) (by kernel_rfl) ?_
      refine cZ 2 107 (hac'.out ss b hR2'.out _ (hA.sep1 (A := TabP t p m ss b) sZ)) ?_
      rintro u w3 ⟨s3, d3, rfl, hR3, hT⟩
      have hR3' := Lib.hid hR3
      have hB := hA.call1 (A := TabP t p m ss b) sZ hT
      clear hT hR3
      simp only [uA] at hB
      refine andH ⟨hB.ci, hB.ci⟩ fun hS0 => ?_
      clear hA; have hA := hB; clear hB
      try go_frame
      refine tP 4 109 (.bool false) (s := hS0) (h := ?_)
      try go_frame
      refine tP 5 110 (.bool false) (s := hS0) (h := ?_)
      try go_frame
      refine tP 6 111 (v0) (s := hS0) (h := ?_)
      try go_frame
      refine tP 7 112 (.pointer (some ⟨t, 0, none⟩)) (s := hS0) (h := ?_)
      try go_frame
      refine wpAnyH_one (i := 8) (by kernel_rfl) ?_
      refine cZ 8 113 (hby'.out s3 d3 hR3'.out _ (hA.sep1 (A := TabP t p m s3 d3) sZ)) ?_
      rintro v1 w3 hT
      have hB := hA.call1 (A := TabP t p m s3 d3) sZ hT.out
      clear hT
      simp only [uA] at hB
      refine andH ⟨hB.ci, hB.ci⟩ fun hS0 => ?_
      clear hA; have hA := hB; clear hB
      try go_frame
      refine wpAnyH_one (i := 9) (by kernel_rfl) ?_
      refine cY 9 114 25 (fun u w' => u = .bool true ∧ At [Wire.rowY v0 l0, Wire.rowY v1 l0] _ [Wire.rowY v0 l0, Wire.rowY v1 l0] w') ((Wire.same_any (hA.sep2 (A := Wire.rowY v0 l0) (B := Wire.rowY v1 l0) sZ sZ) hl0'.out).mono fun e w' ⟨he, hT⟩ => ⟨_, he, by rw [decide_eq_true (rfl : l0 = l0)], hT⟩) ?_
      rintro u w3 ⟨rfl, hT⟩
      have hB := hA.call2 (A := Wire.rowY v0 l0) (B := Wire.rowY v1 l0) sZ sZ hT
      clear hT
      simp only [uA] at hB
      refine andH ⟨hB.ci, hB.ci⟩ fun hS0 => ?_
      clear hA; have hA := hB; clear hB
      try go_frame
      refine tP 10 115 (.bool false) (s := hS0) (h := ?_)
      try go_frame
      refine tP 11 116 (.bool false) (s := hS0) (h := ?_)
      try go_frame
      refine wpAnyH_done (by kernel_rfl) ?_ _
      try go_frame
      clear hS0
      have hF := hA.facts; (try simp only [uZ] at hA hF)
      obtain ⟨a0, a1, a2, a3, a4, a5, a6, a7⟩ := cells8 (hA.get (A := Part.cells b7 [.int .i64 kc, .int .u64 nc, .string fc, .int .u64 rc, .string pc, .int .i64 mc, .int .u64 nnc, .int .i64 tc] 29) sZ)
      obtain ⟨e0, e1, e2, e3, e4, e5, e6, e7⟩ := cells8 (hA.get (A := Part.cells b9 [.int .i64 ko, .int .u64 no, .string fo, .int .u64 ro, .string po, .int .i64 mo, .int .u64 nno, .int .i64 tmo] 29) sZ)
      by_cases hsq : no = nc ∧ fo = fc
      · have hsd : decide (no = nc ∧ fo = fc) = true := decide_eq_true hsq
        have hnS := fun w => (neqSe no nc fo fc w).trans (by rw [hsd])
        by_cases hrq : ro = rc
        · have hrd : (ro != rc) = false := by simpa using hrq
          have hao' := Lib.hid (hao2.out hsq.1 hsq.2 hrq)
          clear hsd hsq hrq hao2
          go_upto_region 21 with (first | ((with_reducible refine gst ?_); refine wT hA ?_; clear hF hA; intro w1 hA hF; (try simp only [uZ] at hA hF)) | ((with_reducible refine gbx ?_); refine wC hA ?_; clear hF hA; intro b1 w1 hA hb1 hF; (try simp only [uZ] at hA hF)))
          try go_frame
          clear hnS hrd a0 a1 a2 a3 a4 a5 a6 a7 e0 e1 e2 e3 e4 e5 e6 e7
          have hB := hA.drew
          clear hF hA; have hA := hB; clear hB
          refine wp_region_held (S := fun w' => BlockIs w' b7 (k8 kc nc fc rc pc mc nnc tc) 29 ∧ BlockIs w' b16 [.int .i64 xe, .int .u64 xn, .bool xg] 48 ∧ BlockIs w' b9 (k8 ko no fo ro po mo nno tmo) 29) hm ?_
          change wpAnyH _ _ _ _ _ 12 _ _ (World.drew _)
          generalize World.drew _ = wd at *
          have hS0 := (⟨hA.get (A := Part.cells b7 (k8 kc nc fc rc pc mc nnc tc) 29) sZ, hA.get (A := Part.cells b16 [.int .i64 xe, .int .u64 xn, .bool xg] 48) sZ, hA.get (A := Part.cells b9 (k8 ko no fo ro po mo nno tmo) 29) sZ⟩ : (fun w' => BlockIs w' b7 (k8 kc nc fc rc pc mc nnc tc) 29 ∧ BlockIs w' b16 [.int .i64 xe, .int .u64 xn, .bool xg] 48 ∧ BlockIs w' b9 (k8 ko no fo ro po mo nno tmo) 29) wd)
          refine tP 0 129 (.pointer (some ⟨t, 0, none⟩)) (s := hS0) (h := ?_)
          try go_frame
          refine tZ 1 130 (.agg #[.int .i64 ko, .int .u64 no, .string fo, .int .u64 ro, .string po, .int .i64 mo, .int .u64 nno, .int .i64 tmo]) (r := (fun w' hS => run_load_row (ty := 29) (n := 8) (b := b9) (j := 0) rfl (by exact rfl) hS.2.2 (by kernel_rfl) (by kernel_rfl) rfl rfl)) (s := hS0) (h := ?_)
          try go_frame
          refine tZ 3 132 (.agg #[.int .i64 xe, .int .u64 xn, .bool xg]) (r := (fun w' hS => run_load_row (ty := 48) (n := 3) (b := b16) (j := 0) rfl (by exact rfl) hS.2.1 (by kernel_rfl) (by kernel_rfl) rfl rfl)) (s := hS0) (h := ?_)
          try go_frame
          refine wpAnyH_one (i := 2) (by kernel_rfl) ?_
          refine cZ 2 131 (hao'.out s3 d3 hR3'.out _ (hA.sep1 (A := TabP t p m s3 d3) sZ)) ?_
          rintro u w3 ⟨s4, d4, rfl, hR4, hT⟩
          have hR4' := Lib.hid hR4
          have hB := hA.call1 (A := TabP t p m s3 d3) sZ hT
          clear hT hR4
          simp only [uA] at hB
          refine andH ⟨hB.ci, hB.ci, hB.ci⟩ fun hS0 => ?_
          clear hA; have hA := hB; clear hB
          try go_frame
          refine tP 4 133 (.bool true) (s := hS0) (h := ?_)
          try go_frame
          refine tP 5 134 (.bool true) (s := hS0) (h := ?_)
          try go_frame
          refine tP 6 135 (v0) (s := hS0) (h := ?_)
          try go_frame
          refine tP 7 136 (.pointer (some ⟨t, 0, none⟩)) (s := hS0) (h := ?_)
          try go_frame
          refine wpAnyH_one (i := 8) (by kernel_rfl) ?_
          refine cZ 8 137 (hby'.out s4 d4 hR4'.out _ (hA.sep1 (A := TabP t p m s4 d4) sZ)) ?_
          rintro v2 w3 hT
          have hB := hA.call1 (A := TabP t p m s4 d4) sZ hT.out
          clear hT
          simp only [uA] at hB
          refine andH ⟨hB.ci, hB.ci, hB.ci⟩ fun hS0 => ?_
          clear hA; have hA := hB; clear hB
          try go_frame
          refine wpAnyH_one (i := 9) (by kernel_rfl) ?_
          refine cY 9 138 25 (fun u w' => u = .bool true ∧ At [Wire.rowY v0 l0, Wire.rowY v2 l0] _ [Wire.rowY v0 l0, Wire.rowY v2 l0] w') ((Wire.same_any (hA.sep2 (A := Wire.rowY v0 l0) (B := Wire.rowY v2 l0) sZ sZ) hl0'.out).mono fun e w' ⟨he, hT⟩ => ⟨_, he, by rw [decide_eq_true (rfl : l0 = l0)], hT⟩) ?_
          rintro u w3 ⟨rfl, hT⟩
          have hB := hA.call2 (A := Wire.rowY v0 l0) (B := Wire.rowY v2 l0) sZ sZ hT
          clear hT
          simp only [uA] at hB
          refine andH ⟨hB.ci, hB.ci, hB.ci⟩ fun hS0 => ?_
          clear hA; have hA := hB; clear hB
          try go_frame
          refine tP 10 139 (.bool true) (s := hS0) (h := ?_)
          try go_frame
          refine tP 11 10 (.bool true) (s := hS0) (h := ?_)
          try go_frame
          refine wpAnyH_done (by kernel_rfl) ?_ _
          try go_frame
          clear hS0
          have hF := hA.facts; (try simp only [uZ] at hA hF)
          go_wp2_with (first | ((with_reducible refine gst ?_); refine wT hA ?_; clear hF hA; intro w1 hA hF; (try simp only [uZ] at hA hF)) | ((with_reducible refine gbx ?_); refine wC hA ?_; clear hF hA; intro b1 w1 hA hb1 hF; (try simp only [uZ] at hA hF)))
          go_ret
          exact ⟨rfl, below_old hA sZ⟩
        · have hrd : (ro != rc) = true := by simpa using hrq
          clear hsd hsq hrq
          go_wp2_with (first | ((with_reducible refine gst ?_); refine wT hA ?_; clear hF hA; intro w1 hA hF; (try simp only [uZ] at hA hF)) | ((with_reducible refine gbx ?_); refine wC hA ?_; clear hF hA; intro b1 w1 hA hb1 hF; (try simp only [uZ] at hA hF)))
          go_ret
          exact ⟨rfl, below_old hA sZ⟩
      · have hsd : decide (no = nc ∧ fo = fc) = false := decide_eq_false hsq
        have hnS := fun w => (neqSe no nc fo fc w).trans (by rw [hsd])
        clear hsd hsq
        go_wp2_with (first | ((with_reducible refine gst ?_); refine wT hA ?_; clear hF hA; intro w1 hA hF; (try simp only [uZ] at hA hF)) | ((with_reducible refine gbx ?_); refine wC hA ?_; clear hF hA; intro b1 w1 hA hb1 hF; (try simp only [uZ] at hA hF)))
        go_ret
        exact ⟨rfl, below_old hA sZ⟩
end Go.Proofs.YtpebabaigakagaaGreatDoor.Tab
end
