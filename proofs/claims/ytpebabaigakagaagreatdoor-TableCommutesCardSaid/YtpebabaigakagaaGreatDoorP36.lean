/- TabX, joined. -/
import Derived.Test.YtpebabaigakagaaGreatDoorP33
import Derived.Test.YtpebabaigakagaaGreatDoorP34
import Derived.Test.YtpebabaigakagaaGreatDoorP35
set_option linter.unusedSimpArgs false
set_option linter.unusedVariables false
set_option maxRecDepth 100000
set_option maxHeartbeats 16000000
section
namespace Go
open _root_.Go.Proofs.YtpebabaigakagaaGreatDoor
open Go.RowKit
section
variable {P : Program} {ops : Array Oper} {Q : Exit → Act → World → Prop} {md : Region.Mode} {S : World → Prop}
theorem wpAnyH_three {i j k fuel : Nat} {listed : Array Bool} {a : Act} {w : World} (hr : Region.ready md ops listed = [i, j, k]) (h1 : wpOp P ops Q i (fun a' w' => S w' ∧ wpAnyH P md ops Q S fuel (listed.setIfInBounds i true) a' w') a w)
 (h2 : wpOp P ops Q j (fun a' w' => S w' ∧ wpAnyH P md ops Q S fuel (listed.setIfInBounds j true) a' w') a w) (h3 : wpOp P ops Q k (fun a' w' => S w' ∧ wpAnyH P md ops Q S fuel (listed.setIfInBounds k true) a' w') a w) : wpAnyH P md ops Q S (fuel + 1) listed a w :=
 wpAnyH_all hr (by simp) (fun x hx => by
  rcases List.mem_cons.1 hx with rfl | hx
  · exact h1
  rcases List.mem_cons.1 hx with rfl | hx
  · exact h2
  · rw [List.mem_singleton.1 hx]; exact h3)
end
end Go
namespace Go.Proofs.YtpebabaigakagaaGreatDoor.Tab
open Go.RowKit
open Path (bl rightB overB aboveB)
open Lease (Ses Ans fresh Turned)
open Lock (S3 Ent)
open Cmd (Cm rightC)
attribute [-go_sem] run_eql_struct run_neq_struct run_eqGuard_agg
attribute [local go_sem] guardAn eqlAn
theorem cells8 {w : World} {b : Nat} {c0 c1 c2 c3 c4 c5 c6 c7 : Value} {T : TypeId} (h : BlockIs w b [c0, c1, c2, c3, c4, c5, c6, c7] T) : w.cell? ⟨b, 0, none⟩ = some c0 ∧ w.cell? ⟨b, 1, none⟩ = some c1 ∧ w.cell? ⟨b, 2, none⟩ = some c2 ∧ w.cell? ⟨b, 3, none⟩ = some c3 ∧ w.cell? ⟨b, 4, none⟩ = some c4 ∧ w.cell? ⟨b, 5, none⟩ = some c5 ∧ w.cell? ⟨b, 6, none⟩ = some c6 ∧ w.cell? ⟨b, 7, none⟩ = some c7 :=
 ⟨h.cell 0, h.cell 1, h.cell 2, h.cell 3, h.cell 4, h.cell 5, h.cell 6, h.cell 7⟩
theorem cells3 {w : World} {b : Nat} {c0 c1 c2 : Value} {T : TypeId} (h : BlockIs w b [c0, c1, c2] T) : w.cell? ⟨b, 0, none⟩ = some c0 ∧ w.cell? ⟨b, 1, none⟩ = some c1 ∧ w.cell? ⟨b, 2, none⟩ = some c2 := ⟨h.cell 0, h.cell 1, h.cell 2⟩
theorem feet_ab {t : TS} (h : Ab t) : Lock.Feet t.L := fun e he => by
 have h1 := h e he
 rw [Path.aboveB_parts] at h1
 simp only [Bool.and_eq_true] at h1
 have h2 := h1.1.1
 unfold Path.rightB at h2
 simp only [Bool.and_eq_true, decide_eq_true_eq] at h2
 have h3 : (bl e.foot).length = e.foot.size := by unfold Path.bl; exact Array.length_toList
 omega
def TQ (t p m : Nat) (ss : List Ses) (b : Lock.Bk) (T : TS) (x : Value) (w : World) (u : Value) (w' : World) : Prop := ∃ (ss' : List Ses) (b' : Lock.Bk), u = x ∧ TRel ss' b' T ∧ At [TabP t p m ss b] w [TabP t p m ss' b'] w'
theorem TPost.q {P : Program} {f : FuncId} {args : Array Value} {t p m : Nat} {ss : List Ses} {b : Lock.Bk} {w : World} {T : TS} {x1 x2 : Int} {x3 : Bool} (h : Calls P f args w (TPost t p m ss b w T ⟨x1, x2, x3⟩)) : Calls P f args w fun e w' => ∃ u, e = .returned u ∧ TQ t p m ss b T (.agg #[.int .i64 x1, .int .u64 x2, .bool x3]) w u w' :=
 h.mono fun e w' ⟨ss', b', he, hR, hT⟩ => ⟨_, he, ss', b', rfl, hR, hT⟩
def CutX (w : World) (t p m : Nat) (T : TS) (R : Part) (b6 b7 : Nat) (c6 c7 x y : List Value) (u v : Value) (wc : World) : Prop :=
 ∃ (b13 b14 : Nat) (ss : List Ses) (b : Lock.Bk), u = .pointer (some ⟨b13, 0, none⟩) ∧ v = .pointer (some ⟨b14, 0, none⟩) ∧ TRel ss b T ∧ At [Part.old w] w [Part.cells b14 y 48, Part.cells b13 x 48, TabP t p m ss b, R, Part.old w, Part.cells b7 c7 29, Part.cells b6 c6 29] wc
def CutY (w : World) (t p m : Nat) (T : TS) (R : Part) (b13 b14 b6 b7 : Nat) (c6 c7 x y : List Value) (u v : Value) (wc : World) : Prop :=
 ∃ (b15 b16 : Nat) (ss : List Ses) (b : Lock.Bk), u = .pointer (some ⟨b15, 0, none⟩) ∧ v = .pointer (some ⟨b16, 0, none⟩) ∧ TRel ss b T ∧ At [Part.old w] w [Part.cells b16 x 48, Part.cells b15 y 48, Part.cells b14 y 48, Part.cells b13 x 48, TabP t p m ss b, R, Part.old w] wc
theorem commutes_law {w : World} {v : Value} {l : List Cm} (hr : ReadsC (Part.old w) v l) (hl : l.length ≤ 9223372036854775807) (hv : ∀ c ∈ l, CmV c) {first : Int} (f0 : 0 ≤ first) (f1 : first < Lock.big64)
 (ka na : Int) (fa : ByteArray) (ra : Int) (pa : ByteArray) (ma nna ta : Int) (hva : CmV ⟨ka, na, fa, ra, pa, ma, nna, ta⟩) (kb nb : Int) (fb : ByteArray) (rb : Int) (pb : ByteArray) (mb nnb tb : Int) (hvb : CmV ⟨kb, nb, fb, rb, pb, mb, nnb, tb⟩) :
 Calls Tryz.prog 6 #[.int .u64 first, v, .agg #[.int .i64 ka, .int .u64 na, .string fa, .int .u64 ra, .string pa, .int .i64 ma, .int .u64 nna, .int .i64 ta], .agg #[.int .i64 kb, .int .u64 nb, .string fb, .int .u64 rb, .string pb, .int .i64 mb, .int .u64 nnb, .int .i64 tb]] w fun e w' => e = .returned (.bool true) ∧ Below w.heap.size w w' := by
 have hm : Tryz.prog.follows .mixedOrders = true := by kernel_rfl
 have hA : At [Part.old w] w [Part.old w] w := At.start ⟨fun _ _ => rfl, trivial, nofun⟩
 have hsm := fun (w1 : World) (q : Sep [Part.old w] w1) => small_any q hr hl (fun c hc => ⟨(hv c hc).path, (hv c hc).foot⟩) 60
 have hpl := fun (hs : smallB l 60 = true) (w1 : World) (q : Sep [Part.old w] w1) => play_any q f0 f1 hr (by have := (small_in (k := 60) hs hv).1; omega) (small_in (k := 60) hs hv).2
 have hln := fun (hs : smallB l 60 = true) => (small_in (k := 60) hs hv).1
 have hgd := fun (hs : smallB l 60 = true) => (good_new f0 f1).play (l := l) (fun x hx => ((small_in (k := 60) hs hv).2 x hx).ok)
 have hal := fun (hs : smallB l 60 = true) => play_all (l := l) (fun x hx => by have := (small_in (k := 60) hs hv).2 x hx; exact ⟨this.ok, this.r0, this.r1⟩) (good_new f0 f1) (by intro s hs; cases hs)
 obtain ⟨ax, cap, rfl, _, _⟩ := hr w (hA.get .here)
 obtain ⟨sb, hsb⟩ : ∃ z, smallB l 60 = z := ⟨_, rfl⟩
 rw [hsb] at hsm hpl hln hgd hal
 have hsm' := Lib.hid hsm
 have hpl' := Lib.hid hpl
 have hln' := Lib.hid hln
 have hgd' := Lib.hid hgd
 have hal' := Lib.hid hal
 have hva' := Lib.hid hva
 have hvb' := Lib.hid hvb
 clear hsm hpl hln hgd hal hsb hv hr hva hvb
 have hF := hA.facts; (try simp only [uZ] at hA hF)
 go_enter Tryz.func6, Tryz.ntmps6
 go_wp2_with (first | (((with_reducible show wpList _ _ _ ({ dst := some 6, op := Op.box _ _, type := _, pos := _, after := _, guard := _ } :: _) _ _)); ((with_reducible refine gbx ?_); refine wH 29 [.int .i64 ka, .int .u64 na, .string fa, .int .u64 ra, .string pa, .int .i64 ma, .int .u64 nna, .int .i64 ta] hA ?_; clear hF hA; intro b6 w1 hA hb6 hF; (try simp only [uZ] at hA hF))) | (((with_reducible show wpList _ _ _ ({ dst := some 7, op := Op.box _ _, type := _, pos := _, after := _, guard := _ } :: _) _ _)); ((with_reducible refine gbx ?_); refine wH 29 [.int .i64 kb, .int .u64 nb, .string fb, .int .u64 rb, .string pb, .int .i64 mb, .int .u64 nnb, .int .i64 tb] hA ?_; clear hF hA; intro b7 w1 hA hb7 hF; (try simp only [uZ] at hA hF))) | ((with_reducible refine gst ?_); refine wT hA ?_; clear hF hA; intro w1 hA hF; (try simp only [uZ] at hA hF)) | ((with_reducible refine gbx ?_); refine wC hA ?_; clear hF hA; intro b1 w1 hA hb1 hF; (try simp only [uZ] at hA hF)))
 refine (anchor_any _).mono ?_
 rintro e w1 ⟨rfl, hx⟩
 have hB := hA.ext hx
 clear hx
 clear hF hA; have hA := hB; clear hB
 try simp only [uA] at hA
 have hF := hA.facts; (try simp only [uZ] at hA hF)
 go_wp2_with (first | ((with_reducible refine gst ?_); refine wT hA ?_; clear hF hA; intro w1 hA hF; (try simp only [uZ] at hA hF)) | ((with_reducible refine gbx ?_); refine wC hA ?_; clear hF hA; intro b1 w1 hA hb1 hF; (try simp only [uZ] at hA hF)))
 refine (hsm'.out _ (hA.sep1 (A := Part.old w) sZ)).mono ?_
 rintro e w1 ⟨rfl, hT⟩
 have hB := hA.call1 (A := Part.old w) sZ hT
 clear hT
 clear hF hA; have hA := hB; clear hB
 try simp only [uA] at hA
 have hF := hA.facts; (try simp only [uZ] at hA hF)
 clear hsm'
 cases sb
 · go_wp2_with (first | ((with_reducible refine gst ?_); refine wT hA ?_; clear hF hA; intro w1 hA hF; (try simp only [uZ] at hA hF)) | ((with_reducible refine gbx ?_); refine wC hA ?_; clear hF hA; intro b1 w1 hA hb1 hF; (try simp only [uZ] at hA hF)))
   go_ret
   exact ⟨rfl, below_old hA sZ⟩
 have hl60 := hln'.out (by simp)
 clear hln'
 obtain ⟨a0, a1, a2, a3, a4, a5, a6, a7⟩ := cells8 (hA.get (A := Part.cells b6 [.int .i64 ka, .int .u64 na, .string fa, .int .u64 ra, .string pa, .int .i64 ma, .int .u64 nna, .int .i64 ta] 29) sZ)
 obtain ⟨e0, e1, e2, e3, e4, e5, e6, e7⟩ := cells8 (hA.get (A := Part.cells b7 [.int .i64 kb, .int .u64 nb, .string fb, .int .u64 rb, .string pb, .int .i64 mb, .int .u64 nnb, .int .i64 tb] 29) sZ)
 have hbs : ∀ w, (Instr.buildSlice 23 2 #[(0, .agg #[.int .i64 ka, .int .u64 na, .string fa, .int .u64 ra, .string pa, .int .i64 ma, .int .u64 nna, .int .i64 ta]), (1, .agg #[.int .i64 kb, .int .u64 nb, .string fb, .int .u64 rb, .string pb, .int .i64 mb, .int .u64 nnb, .int .i64 tb])]).run Tryz.prog w = .ok (.slice (some ⟨w.heap.size, 0, none⟩) 2 2) (w.alloc (.cells (([.int .i64 ka, .int .u64 na, .string fa, .int .u64 ra, .string pa, .int .i64 ma, .int .u64 nna, .int .i64 ta] ++ [.int .i64 kb, .int .u64 nb, .string fb, .int .u64 rb, .string pb, .int .i64 mb, .int .u64 nnb, .int .i64 tb] : List Value)).toArray 29)) := fun w => by kernel_rfl
 go_wp2_with (first | ((with_reducible refine gst ?_); refine wT hA ?_; clear hF hA; intro w1 hA hF; (try simp only [uZ] at hA hF)) | ((with_reducible refine gbx ?_); refine wC hA ?_; clear hF hA; intro b1 w1 hA hb1 hF; (try simp only [uZ] at hA hF)))
 have hB : At [Part.old w] w [rowCm (.slice (some ⟨w1.heap.size, 0, none⟩) 2 2) [⟨ka, na, fa, ra, pa, ma, nna, ta⟩, ⟨kb, nb, fb, rb, pb, mb, nnb, tb⟩], Part.old w, Part.cells b7 [.int .i64 kb, .int .u64 nb, .string fb, .int .u64 rb, .string pb, .int .i64 mb, .int .u64 nnb, .int .i64 tb] 29, Part.cells b6 [.int .i64 ka, .int .u64 na, .string fa, .int .u64 ra, .string pa, .int .i64 ma, .int .u64 nna, .int .i64 ta] 29] (w1.alloc (.cells #[.int .i64 ka, .int .u64 na, .string fa, .int .u64 ra, .string pa, .int .i64 ma, .int .u64 nna, .int .i64 ta, .int .i64 kb, .int .u64 nb, .string fb, .int .u64 rb, .string pb, .int .i64 mb, .int .u64 nnb, .int .i64 tb] 29)) :=
  (hA.alloc (([.int .i64 ka, .int .u64 na, .string fa, .int .u64 ra, .string pa, .int .i64 ma, .int .u64 nna, .int .i64 ta] : List Value) ++ [.int .i64 kb, .int .u64 nb, .string fb, .int .u64 rb, .string pb, .int .i64 mb, .int .u64 nnb, .int .i64 tb]) 29).row_shut (size := 8) (n := 2) (cap := 2) (xs := ([⟨ka, na, fa, ra, pa, ma, nna, ta⟩, ⟨kb, nb, fb, rb, pb, mb, nnb, tb⟩] : List Cm).flatMap Cm.cells) .here rfl (by omega) (by unfold maxLen; omega) rfl
 clear hF hA a0 a1 a2 a3 a4 a5 a6 a7 e0 e1 e2 e3 e4 e5 e6 e7 hbs
 generalize w1.alloc (.cells #[.int .i64 ka, .int .u64 na, .string fa, .int .u64 ra, .string pa, .int .i64 ma, .int .u64 nna, .int .i64 ta, .int .i64 kb, .int .u64 nb, .string fb, .int .u64 rb, .string pb, .int .i64 mb, .int .u64 nnb, .int .i64 tb] 29) = w2 at *
 generalize w1.heap.size = g at *
 have hA := hB
 clear hB
 refine (small_any (hA.sep1 (A := rowCm (.slice (some ⟨g, 0, none⟩) 2 2) [⟨ka, na, fa, ra, pa, ma, nna, ta⟩, ⟨kb, nb, fb, rb, pb, mb, nnb, tb⟩]) sZ) (reads_row (.slice (some ⟨g, 0, none⟩) 2 2) [⟨ka, na, fa, ra, pa, ma, nna, ta⟩, ⟨kb, nb, fb, rb, pb, mb, nnb, tb⟩]) (by simp) (fun c hc => by
  simp only [List.mem_cons, List.not_mem_nil, or_false] at hc
  rcases hc with rfl | rfl
  · exact ⟨hva'.out.path, hva'.out.foot⟩
  · exact ⟨hvb'.out.path, hvb'.out.foot⟩) 2).mono ?_
 have hF : True := trivial
 rintro e w1 ⟨rfl, hT⟩
 have hB := hA.call1 (A := rowCm (.slice (some ⟨g, 0, none⟩) 2 2) [⟨ka, na, fa, ra, pa, ma, nna, ta⟩, ⟨kb, nb, fb, rb, pb, mb, nnb, tb⟩]) sZ hT
 clear hT
 clear hF hA; have hA := hB; clear hB
 try simp only [uA] at hA
 have hF := hA.facts; (try simp only [uZ] at hA hF)
 have hin2 := fun (hs : smallB [⟨ka, na, fa, ra, pa, ma, nna, ta⟩, ⟨kb, nb, fb, rb, pb, mb, nnb, tb⟩] 2 = true) => (small_in (k := 2) hs (fun c hc => by
  simp only [List.mem_cons, List.not_mem_nil, or_false] at hc
  rcases hc with rfl | rfl
  · exact hva'.out
  · exact hvb'.out)).2
 obtain ⟨s2, hs2⟩ : ∃ z, smallB [⟨ka, na, fa, ra, pa, ma, nna, ta⟩, ⟨kb, nb, fb, rb, pb, mb, nnb, tb⟩] 2 = z := ⟨_, rfl⟩
 rw [hs2] at hin2
 rw [hs2]
 have hin2' := Lib.hid hin2
 clear hin2 hs2
 cases s2
 · go_wp2_with (first | ((with_reducible refine gst ?_); refine wT hA ?_; clear hF hA; intro w1 hA hF; (try simp only [uZ] at hA hF)) | ((with_reducible refine gbx ?_); refine wC hA ?_; clear hF hA; intro b1 w1 hA hb1 hF; (try simp only [uZ] at hA hF)))
   go_ret
   exact ⟨rfl, below_old hA sZ⟩
 have oka := hin2'.out rfl ⟨ka, na, fa, ra, pa, ma, nna, ta⟩ (by simp)
 have okb := hin2'.out rfl ⟨kb, nb, fb, rb, pb, mb, nnb, tb⟩ (by simp)
 have hcl := fun w => Cmd.clashC_any ⟨ka, na, fa, ra, pa, ma, nna, ta⟩ ⟨kb, nb, fb, rb, pb, mb, nnb, tb⟩ w (Nat.le_trans oka.ok.foot (by show (100 : Nat) ≤ 1000; omega)) (Nat.le_trans oka.ok.path (by show (100 : Nat) ≤ 1000; omega)) (Nat.le_trans okb.ok.foot (by show (100 : Nat) ≤ 1000; omega)) (Nat.le_trans okb.ok.path (by show (100 : Nat) ≤ 1000; omega))
 simp only [Cmd.Cm.val] at hcl
 rw [clash_same] at hcl
 obtain ⟨cl, hcb⟩ : ∃ z, clashK ⟨ka, na, fa, ra, pa, ma, nna, ta⟩ ⟨kb, nb, fb, rb, pb, mb, nnb, tb⟩ = z := ⟨_, rfl⟩
 simp only [hcb] at hcl
 have hcl' := Lib.hid hcl
 have hcb' := Lib.hid hcb
 have oka' := Lib.hid oka
 have okb' := Lib.hid okb
 clear hcl hcb oka okb hin2'
 obtain ⟨a0, a1, a2, a3, a4, a5, a6, a7⟩ := cells8 (hA.get (A := Part.cells b6 [.int .i64 ka, .int .u64 na, .string fa, .int .u64 ra, .string pa, .int .i64 ma, .int .u64 nna, .int .i64 ta] 29) sZ)
 obtain ⟨e0, e1, e2, e3, e4, e5, e6, e7⟩ := cells8 (hA.get (A := Part.cells b7 [.int .i64 kb, .int .u64 nb, .string fb, .int .u64 rb, .string pb, .int .i64 mb, .int .u64 nnb, .int .i64 tb] 29) sZ)
 go_wp2_with (first | ((with_reducible refine gst ?_); refine wT hA ?_; clear hF hA; intro w1 hA hF; (try simp only [uZ] at hA hF)) | ((with_reducible refine gbx ?_); refine wC hA ?_; clear hF hA; intro b1 w1 hA hb1 hF; (try simp only [uZ] at hA hF)))
 refine (hcl'.out _).mono ?_
 clear a0 a1 a2 a3 a4 a5 a6 a7 e0 e1 e2 e3 e4 e5 e6 e7
 rintro e w1 ⟨rfl, hx⟩
 have hB := hA.ext hx
 clear hx
 clear hF hA; have hA := hB; clear hB
 try simp only [uA] at hA
 have hF := hA.facts; (try simp only [uZ] at hA hF)
 cases cl
 case true =>
  go_wp2_with (first | ((with_reducible refine gst ?_); refine wT hA ?_; clear hF hA; intro w1 hA hF; (try simp only [uZ] at hA hF)) | ((with_reducible refine gbx ?_); refine wC hA ?_; clear hF hA; intro b1 w1 hA hb1 hF; (try simp only [uZ] at hA hF)))
  go_ret
  exact ⟨rfl, below_old hA sZ⟩
 go_wp2_with (first | ((with_reducible refine gst ?_); refine wT hA ?_; clear hF hA; intro w1 hA hF; (try simp only [uZ] at hA hF)) | ((with_reducible refine gbx ?_); refine wC hA ?_; clear hF hA; intro b1 w1 hA hb1 hF; (try simp only [uZ] at hA hF)))
 refine (hpl'.out (by simp) _ (hA.sep1 (A := Part.old w) sZ)).mono ?_
 rintro e w1 ⟨t, p, m, ss, b, av, rfl, hR, hT⟩
 have hB := hA.call1 (A := Part.old w) sZ hT
 clear hT
 clear hF hA; have hA := hB; clear hB
 try simp only [uA] at hA
 have hF := hA.facts; (try simp only [uZ] at hA hF)
 go_wp2_with (first | ((with_reducible refine gst ?_); refine wT hA ?_; clear hF hA; intro w1 hA hF; (try simp only [uZ] at hA hF)) | ((with_reducible refine gbx ?_); refine wC hA ?_; clear hF hA; intro b1 w1 hA hb1 hF; (try simp only [uZ] at hA hF)))
 refine (hpl'.out (by simp) _ (hA.sep1 (A := Part.old w) sZ)).mono ?_
 rintro e w1 ⟨t2, p2, m2, ss2, b2, av2, rfl, hR2, hT⟩
 have hB := hA.call1 (A := Part.old w) sZ hT
 clear hT
 clear hF hA; have hA := hB; clear hB
 try simp only [uA] at hA
 have hF := hA.facts; (try simp only [uZ] at hA hF)
 clear hpl'
 have hg := hgd'.out (by simp)
 have hs := hal'.out (by simp)
 clear hgd' hal'
 generalize playT ⟨[], ⟨first, [], []⟩⟩ l = T at *
 have hcm := comm_tab hg oka'.out.ok okb'.out.ok hcb'.out
 obtain ⟨T1, xe, xn, xg, q1⟩ : ∃ R u1 u2 u3, applyT T ⟨ka, na, fa, ra, pa, ma, nna, ta⟩ = (R, ⟨u1, u2, u3⟩) := ⟨_, _, _, _, rfl⟩
 rw [q1] at hcm
 obtain ⟨T12, ye, yn, yg, q2⟩ : ∃ R u1 u2 u3, applyT T1 ⟨kb, nb, fb, rb, pb, mb, nnb, tb⟩ = (R, ⟨u1, u2, u3⟩) := ⟨_, _, _, _, rfl⟩
 obtain ⟨T2, y2, q3⟩ : ∃ R u, applyT T ⟨kb, nb, fb, rb, pb, mb, nnb, tb⟩ = (R, u) := ⟨_, _, rfl⟩
 rw [q3] at hcm
 obtain ⟨T21, x2, q4⟩ : ∃ R u, applyT T2 ⟨ka, na, fa, ra, pa, ma, nna, ta⟩ = (R, u) := ⟨_, _, rfl⟩
 simp only [q2, q4] at hcm
 obtain ⟨rfl, rfl, hteq⟩ := hcm
 have g1 := hg.apply oka'.out.ok
 have g2 := hg.apply okb'.out.ok
 have i1 := apply_all hg.inv.lock hs ⟨ka, na, fa, ra, pa, ma, nna, ta⟩ ⟨oka'.out.r0, oka'.out.r1⟩
 rw [q1] at g1 i1
 rw [q3] at g2
 have g12 := g1.apply okb'.out.ok
 have g21 := g2.apply oka'.out.ok
 have i12 := apply_all g1.inv.lock i1 ⟨kb, nb, fb, rb, pb, mb, nnb, tb⟩ ⟨okb'.out.r0, okb'.out.r1⟩
 rw [q2] at g12 i12
 rw [q4] at g21
 obtain ⟨LL, hL12⟩ := rel_some g12.inv.s.keys i12
 have hL21 : Lease.Rel T21.S LL := Rel.perm hL12 hteq.S
 have hap1 := fun (w1 : World) (q : Sep [TabP t p m ss b] w1) => apply_any q ka na fa ra pa ma nna ta hR hg.inv (by omega) oka'.out.ok oka'.out.r0 oka'.out.r1 oka'.out.n0
 have hap2 := fun (s1 : List Ses) (d1 : Lock.Bk) (hR1 : TRel s1 d1 T1) (w1 : World) (q : Sep [TabP t p m s1 d1] w1) => apply_any q kb nb fb rb pb mb nnb tb hR1 g1.inv (by omega) okb'.out.ok okb'.out.r0 okb'.out.r1 okb'.out.n0
 have hap3 := fun (w1 : World) (q : Sep [TabP t2 p2 m2 ss2 b2] w1) => apply_any q kb nb fb rb pb mb nnb tb hR2 hg.inv (by omega) okb'.out.ok okb'.out.r0 okb'.out.r1 okb'.out.n0
 have hap4 := fun (s1 : List Ses) (d1 : Lock.Bk) (hR1 : TRel s1 d1 T2) (w1 : World) (q : Sep [TabP t2 p2 m2 s1 d1] w1) => apply_any q ka na fa ra pa ma nna ta hR1 g2.inv (by omega) oka'.out.ok oka'.out.r0 oka'.out.r1 oka'.out.n0
 simp only [q1] at hap1
 simp only [q2] at hap2
 simp only [q3] at hap3
 simp only [q4] at hap4
 have hby1 := fun (s1 : List Ses) (d1 : Lock.Bk) (hR1 : TRel s1 d1 T12) (w1 : World) (q : Sep [TabP t p m s1 d1] w1) => bytes_any q hR1 hL12 g12.inv (feet_ab g12.ab) (by omega)
 have hby2 := fun (s1 : List Ses) (d1 : Lock.Bk) (hR1 : TRel s1 d1 T21) (w1 : World) (q : Sep [TabP t2 p2 m2 s1 d1] w1) => bytes_any q hR1 hL21 g21.inv (feet_ab g21.ab) (by omega)
 have hap1' := Lib.hid fun w1 q => TPost.q (hap1 w1 q)
 have hap2' := Lib.hid fun s1 d1 hR1 w1 q => TPost.q (hap2 s1 d1 hR1 w1 q)
 have hap3' := Lib.hid fun w1 q => TPost.q (hap3 w1 q)
 have hap4' := Lib.hid fun s1 d1 hR1 w1 q => TPost.q (hap4 s1 d1 hR1 w1 q)
 have hby1' := Lib.hid hby1
 have hby2' := Lib.hid hby2
 have hteq' := Lib.hid hteq
 clear hap1 hap2 hap3 hap4 hby1 hby2 hteq hL12 hL21 i12 g12 g21 g1 g2 i1 hg hs hR hR2 oka' okb' hva' hvb' hcb' hcl' q1 q2 q3 q4
 go_upto_region 7 with (first | ((with_reducible refine gst ?_); refine wT hA ?_; clear hF hA; intro w1 hA hF; (try simp only [uZ] at hA hF)) | ((with_reducible refine gbx ?_); refine wC hA ?_; clear hF hA; intro b1 w1 hA hb1 hF; (try simp only [uZ] at hA hF)))
 try go_frame
 go_cut [13, 14] from 46 to 51 (CutX w t p m T12 (TabP t2 p2 m2 ss2 b2) b6 b7 [.int .i64 ka, .int .u64 na, .string fa, .int .u64 ra, .string pa, .int .i64 ma, .int .u64 nna, .int .i64 ta] [.int .i64 kb, .int .u64 nb, .string fb, .int .u64 rb, .string pb, .int .i64 mb, .int .u64 nnb, .int .i64 tb] [.int .i64 xe, .int .u64 xn, .bool xg] [.int .i64 ye, .int .u64 yn, .bool yg])
 case first =>
  have hB := hA.drew
  clear hF hA; have hA := hB; clear hB
  refine wp_region_held (S := fun w' => BlockIs w' b6 (k8 ka na fa ra pa ma nna ta) 29 ∧ BlockIs w' b7 (k8 kb nb fb rb pb mb nnb tb) 29) hm ?_
  change wpAnyH _ _ _ _ _ 10 _ _ (World.drew _)
  generalize World.drew _ = wd at *
  have hS0 := (⟨hA.get (A := Part.cells b6 (k8 ka na fa ra pa ma nna ta) 29) sZ, hA.get (A := Part.cells b7 (k8 kb nb fb rb pb mb nnb tb) 29) sZ⟩ : (fun w' => BlockIs w' b6 (k8 ka na fa ra pa ma nna ta) 29 ∧ BlockIs w' b7 (k8 kb nb fb rb pb mb nnb tb) 29) wd)
  refine tP 0 46 (.pointer (some ⟨t, 0, none⟩)) (s := hS0) (h := ?_)
  try go_frame
  refine tZ 1 47 (.agg #[.int .i64 ka, .int .u64 na, .string fa, .int .u64 ra, .string pa, .int .i64 ma, .int .u64 nna, .int .i64 ta]) (r := (fun w' hS => run_load_row (ty := 29) (n := 8) (b := b6) (j := 0) rfl (by exact rfl) hS.1 (by kernel_rfl) (by kernel_rfl) rfl rfl)) (s := hS0) (h := ?_)
  try go_frame
  refine tP 3 49 (.pointer (some ⟨t, 0, none⟩)) (s := hS0) (h := ?_)
  try go_frame
  refine tZ 4 50 (.agg #[.int .i64 kb, .int .u64 nb, .string fb, .int .u64 rb, .string pb, .int .i64 mb, .int .u64 nnb, .int .i64 tb]) (r := (fun w' hS => run_load_row (ty := 29) (n := 8) (b := b7) (j := 0) rfl (by exact rfl) hS.2 (by kernel_rfl) (by kernel_rfl) rfl rfl)) (s := hS0) (h := ?_)
  try go_frame
  refine wpAnyH_three (i := 2) (j := 6) (k := 7) (by kernel_rfl) ?_ ?_ ?_
  · skip
    refine cZ 2 48 (hap1'.out _ (hA.sep1 (A := TabP t p m ss b) sZ)) ?_
    rintro u w3 ⟨s1, d1, rfl, hR1, hT⟩
    have hR1' := Lib.hid hR1
    have hB := hA.call1 (A := TabP t p m ss b) sZ hT
    clear hT hR1
    simp only [uA] at hB
    refine andH ⟨hB.ci, hB.ci⟩ fun hS0 => ?_
    clear hA; have hA := hB; clear hB
    try go_frame
    refine wpAnyH_three (i := 5) (j := 6) (k := 7) (by kernel_rfl) ?_ ?_ ?_
    · skip
      refine cZ 5 51 (hap2'.out s1 d1 hR1'.out _ (hA.sep1 (A := TabP t p m s1 d1) sZ)) ?_
      rintro u w3 ⟨s2, d2, rfl, hR2, hT⟩
      have hR2' := Lib.hid hR2
      have hB := hA.call1 (A := TabP t p m s1 d1) sZ hT
      clear hT hR2
      simp only [uA] at hB
      refine andH ⟨hB.ci, hB.ci⟩ fun hS0 => ?_
      clear hA; have hA := hB; clear hB
      try go_frame
      refine wpAnyH_two (i := 6) (j := 7) (by kernel_rfl) ?_ ?_
      · skip
        refine aZ 6 13 48 [.int .i64 0, .int .u64 0, .bool false] hA ?_
        intro b13 w3 hB
        refine andH ⟨hB.ci, hB.ci⟩ fun hS0 => ?_
        clear hA; have hA := hB; clear hB
        try go_frame
        refine wpAnyH_one (i := 7) (by kernel_rfl) ?_
        refine aZ 7 14 48 [.int .i64 0, .int .u64 0, .bool false] hA ?_
        intro b14 w3 hB
        refine andH ⟨hB.ci, hB.ci⟩ fun hS0 => ?_
        clear hA; have hA := hB; clear hB
        try go_frame
        refine wpAnyH_one (i := 8) (by kernel_rfl) ?_
        refine stZ 8 b13 0 [.int .i64 xe, .int .u64 xn, .bool xg] hA ?_
        intro w3 hB
        simp only [uA] at hB
        refine andH ⟨hB.ci, hB.ci⟩ fun hS0 => ?_
        clear hA; have hA := hB; clear hB
        try go_frame
        refine wpAnyH_one (i := 9) (by kernel_rfl) ?_
        refine stZ 9 b14 0 [.int .i64 ye, .int .u64 yn, .bool yg] hA ?_
        intro w3 hB
        simp only [uA] at hB
        refine andH ⟨hB.ci, hB.ci⟩ fun hS0 => ?_
        clear hA; have hA := hB; clear hB
        try go_frame
        refine wpAnyH_done (by kernel_rfl) ?_ _
        try go_frame
        clear hS0
        have hF := hA.facts; (try simp only [uZ] at hA hF)
        go_wp2_with fail
        go_meet
        case rel => exact ⟨b13, b14, s2, d2, rfl, rfl, hR2'.out, hA.pick pZ⟩
      · skip
        refine aZ 7 14 48 [.int .i64 0, .int .u64 0, .bool false] hA ?_
        intro b14 w3 hB
        refine andH ⟨hB.ci, hB.ci⟩ fun hS0 => ?_
        clear hA; have hA := hB; clear hB
        try go_frame
        refine wpAnyH_one (i := 6) (by kernel_rfl) ?_
        refine aZ 6 13 48 [.int .i64 0, .int .u64 0, .bool false] hA ?_
        intro b13 w3 hB
        refine andH ⟨hB.ci, hB.ci⟩ fun hS0 => ?_
        clear hA; have hA := hB; clear hB
        try go_frame
        refine wpAnyH_one (i := 8) (by kernel_rfl) ?_
        refine stZ 8 b13 0 [.int .i64 xe, .int .u64 xn, .bool xg] hA ?_
        intro w3 hB
        simp only [uA] at hB
        refine andH ⟨hB.ci, hB.ci⟩ fun hS0 => ?_
        clear hA; have hA := hB; clear hB
        try go_frame
        refine wpAnyH_one (i := 9) (by kernel_rfl) ?_
        refine stZ 9 b14 0 [.int .i64 ye, .int .u64 yn, .bool yg] hA ?_
        intro w3 hB
        simp only [uA] at hB
        refine andH ⟨hB.ci, hB.ci⟩ fun hS0 => ?_
        clear hA; have hA := hB; clear hB
        try go_frame
        refine wpAnyH_done (by kernel_rfl) ?_ _
        try go_frame
        clear hS0
        have hF := hA.facts; (try simp only [uZ] at hA hF)
        go_wp2_with fail
        go_meet
        case rel => exact ⟨b13, b14, s2, d2, rfl, rfl, hR2'.out, hA.pick pZ⟩
    · skip
      refine aZ 6 13 48 [.int .i64 0, .int .u64 0, .bool false] hA ?_
      intro b13 w3 hB
      refine andH ⟨hB.ci, hB.ci⟩ fun hS0 => ?_
      clear hA; have hA := hB; clear hB
      try go_frame
      refine wpAnyH_two (i := 5) (j := 7) (by kernel_rfl) ?_ ?_
      · skip
        refine cZ 5 51 (hap2'.out s1 d1 hR1'.out _ (hA.sep1 (A := TabP t p m s1 d1) sZ)) ?_
        rintro u w3 ⟨s2, d2, rfl, hR2, hT⟩
        have hR2' := Lib.hid hR2
        have hB := hA.call1 (A := TabP t p m s1 d1) sZ hT
        clear hT hR2
        simp only [uA] at hB
        refine andH ⟨hB.ci, hB.ci⟩ fun hS0 => ?_
        clear hA; have hA := hB; clear hB
        try go_frame
        refine wpAnyH_one (i := 7) (by kernel_rfl) ?_
        refine aZ 7 14 48 [.int .i64 0, .int .u64 0, .bool false] hA ?_
        intro b14 w3 hB
        refine andH ⟨hB.ci, hB.ci⟩ fun hS0 => ?_
        clear hA; have hA := hB; clear hB
        try go_frame
        refine wpAnyH_one (i := 8) (by kernel_rfl) ?_
        refine stZ 8 b13 0 [.int .i64 xe, .int .u64 xn, .bool xg] hA ?_
        intro w3 hB
        simp only [uA] at hB
        refine andH ⟨hB.ci, hB.ci⟩ fun hS0 => ?_
        clear hA; have hA := hB; clear hB
        try go_frame
        refine wpAnyH_one (i := 9) (by kernel_rfl) ?_
        refine stZ 9 b14 0 [.int .i64 ye, .int .u64 yn, .bool yg] hA ?_
        intro w3 hB
        simp only [uA] at hB
        refine andH ⟨hB.ci, hB.ci⟩ fun hS0 => ?_
        clear hA; have hA := hB; clear hB
        try go_frame
        refine wpAnyH_done (by kernel_rfl) ?_ _
        try go_frame
        clear hS0
        have hF := hA.facts; (try simp only [uZ] at hA hF)
        go_wp2_with fail
        go_meet
        case rel => exact ⟨b13, b14, s2, d2, rfl, rfl, hR2'.out, hA.pick pZ⟩
      · skip
        refine aZ 7 14 48 [.int .i64 0, .int .u64 0, .bool false] hA ?_
        intro b14 w3 hB
        refine andH ⟨hB.ci, hB.ci⟩ fun hS0 => ?_
        clear hA; have hA := hB; clear hB
        try go_frame
        refine wpAnyH_one (i := 5) (by kernel_rfl) ?_
        refine cZ 5 51 (hap2'.out s1 d1 hR1'.out _ (hA.sep1 (A := TabP t p m s1 d1) sZ)) ?_
        rintro u w3 ⟨s2, d2, rfl, hR2, hT⟩
        have hR2' := Lib.hid hR2
        have hB := hA.call1 (A := TabP t p m s1 d1) sZ hT
        clear hT hR2
        simp only [uA] at hB
        refine andH ⟨hB.ci, hB.ci⟩ fun hS0 => ?_
        clear hA; have hA := hB; clear hB
        try go_frame
        refine wpAnyH_one (i := 8) (by kernel_rfl) ?_
        refine stZ 8 b13 0 [.int .i64 xe, .int .u64 xn, .bool xg] hA ?_
        intro w3 hB
        simp only [uA] at hB
        refine andH ⟨hB.ci, hB.ci⟩ fun hS0 => ?_
        clear hA; have hA := hB; clear hB
        try go_frame
        refine wpAnyH_one (i := 9) (by kernel_rfl) ?_
        refine stZ 9 b14 0 [.int .i64 ye, .int .u64 yn, .bool yg] hA ?_
        intro w3 hB
        simp only [uA] at hB
        refine andH ⟨hB.ci, hB.ci⟩ fun hS0 => ?_
        clear hA; have hA := hB; clear hB
        try go_frame
        refine wpAnyH_done (by kernel_rfl) ?_ _
        try go_frame
        clear hS0
        have hF := hA.facts; (try simp only [uZ] at hA hF)
        go_wp2_with fail
        go_meet
        case rel => exact ⟨b13, b14, s2, d2, rfl, rfl, hR2'.out, hA.pick pZ⟩
    · skip
      refine aZ 7 14 48 [.int .i64 0, .int .u64 0, .bool false] hA ?_
      intro b14 w3 hB
      refine andH ⟨hB.ci, hB.ci⟩ fun hS0 => ?_
      clear hA; have hA := hB; clear hB
      try go_frame
      refine wpAnyH_two (i := 5) (j := 6) (by kernel_rfl) ?_ ?_
      · skip
        refine cZ 5 51 (hap2'.out s1 d1 hR1'.out _ (hA.sep1 (A := TabP t p m s1 d1) sZ)) ?_
        rintro u w3 ⟨s2, d2, rfl, hR2, hT⟩
        have hR2' := Lib.hid hR2
        have hB := hA.call1 (A := TabP t p m s1 d1) sZ hT
        clear hT hR2
        simp only [uA] at hB
        refine andH ⟨hB.ci, hB.ci⟩ fun hS0 => ?_
        clear hA; have hA := hB; clear hB
        try go_frame
        refine wpAnyH_one (i := 6) (by kernel_rfl) ?_
        refine aZ 6 13 48 [.int .i64 0, .int .u64 0, .bool false] hA ?_
        intro b13 w3 hB
        refine andH ⟨hB.ci, hB.ci⟩ fun hS0 => ?_
        clear hA; have hA := hB; clear hB
        try go_frame
        refine wpAnyH_one (i := 8) (by kernel_rfl) ?_
        refine stZ 8 b13 0 [.int .i64 xe, .int .u64 xn, .bool xg] hA ?_
        intro w3 hB
        simp only [uA] at hB
        refine andH ⟨hB.ci, hB.ci⟩ fun hS0 => ?_
        clear hA; have hA := hB; clear hB
        try go_frame
        refine wpAnyH_one (i := 9) (by kernel_rfl) ?_
        refine stZ 9 b14 0 [.int .i64 ye, .int .u64 yn, .bool yg] hA ?_
        intro w3 hB
        simp only [uA] at hB
        refine andH ⟨hB.ci, hB.ci⟩ fun hS0 => ?_
        clear hA; have hA := hB; clear hB
        try go_frame
        refine wpAnyH_done (by kernel_rfl) ?_ _
        try go_frame
        clear hS0
        have hF := hA.facts; (try simp only [uZ] at hA hF)
        go_wp2_with fail
        go_meet
        case rel => exact ⟨b13, b14, s2, d2, rfl, rfl, hR2'.out, hA.pick pZ⟩
      · skip
        refine aZ 6 13 48 [.int .i64 0, .int .u64 0, .bool false] hA ?_
        intro b13 w3 hB
        refine andH ⟨hB.ci, hB.ci⟩ fun hS0 => ?_
        clear hA; have hA := hB; clear hB
        try go_frame
        refine wpAnyH_one (i := 5) (by kernel_rfl) ?_
        refine cZ 5 51 (hap2'.out s1 d1 hR1'.out _ (hA.sep1 (A := TabP t p m s1 d1) sZ)) ?_
        rintro u w3 ⟨s2, d2, rfl, hR2, hT⟩
        have hR2' := Lib.hid hR2
        have hB := hA.call1 (A := TabP t p m s1 d1) sZ hT
        clear hT hR2
        simp only [uA] at hB
        refine andH ⟨hB.ci, hB.ci⟩ fun hS0 => ?_
        clear hA; have hA := hB; clear hB
        try go_frame
        refine wpAnyH_one (i := 8) (by kernel_rfl) ?_
        refine stZ 8 b13 0 [.int .i64 xe, .int .u64 xn, .bool xg] hA ?_
        intro w3 hB
        simp only [uA] at hB
        refine andH ⟨hB.ci, hB.ci⟩ fun hS0 => ?_
        clear hA; have hA := hB; clear hB
        try go_frame
        refine wpAnyH_one (i := 9) (by kernel_rfl) ?_
        refine stZ 9 b14 0 [.int .i64 ye, .int .u64 yn, .bool yg] hA ?_
        intro w3 hB
        simp only [uA] at hB
        refine andH ⟨hB.ci, hB.ci⟩ fun hS0 => ?_
        clear hA; have hA := hB; clear hB
        try go_frame
        refine wpAnyH_done (by kernel_rfl) ?_ _
        try go_frame
        clear hS0
        have hF := hA.facts; (try simp only [uZ] at hA hF)
        go_wp2_with fail
        go_meet
        case rel => exact ⟨b13, b14, s2, d2, rfl, rfl, hR2'.out, hA.pick pZ⟩
  · skip
    refine aZ 6 13 48 [.int .i64 0, .int .u64 0, .bool false] hA ?_
    intro b13 w3 hB
    refine andH ⟨hB.ci, hB.ci⟩ fun hS0 => ?_
    clear hA; have hA := hB; clear hB
    try go_frame
    refine wpAnyH_two (i := 2) (j := 7) (by kernel_rfl) ?_ ?_
    · skip
      refine cZ 2 48 (hap1'.out _ (hA.sep1 (A := TabP t p m ss b) sZ)) ?_
      rintro u w3 ⟨s1, d1, rfl, hR1, hT⟩
      have hR1' := Lib.hid hR1
      have hB := hA.call1 (A := TabP t p m ss b) sZ hT
      clear hT hR1
      simp only [uA] at hB
      refine andH ⟨hB.ci, hB.ci⟩ fun hS0 => ?_
      clear hA; have hA := hB; clear hB
      try go_frame
      refine wpAnyH_two (i := 5) (j := 7) (by kernel_rfl) ?_ ?_
      · skip
        refine cZ 5 51 (hap2'.out s1 d1 hR1'.out _ (hA.sep1 (A := TabP t p m s1 d1) sZ)) ?_
        rintro u w3 ⟨s2, d2, rfl, hR2, hT⟩
        have hR2' := Lib.hid hR2
        have hB := hA.call1 (A := TabP t p m s1 d1) sZ hT
        clear hT hR2
        simp only [uA] at hB
        refine andH ⟨hB.ci, hB.ci⟩ fun hS0 => ?_
        clear hA; have hA := hB; clear hB
        try go_frame
        refine wpAnyH_one (i := 7) (by kernel_rfl) ?_
        refine aZ 7 14 48 [.int .i64 0, .int .u64 0, .bool false] hA ?_
        intro b14 w3 hB
        refine andH ⟨hB.ci, hB.ci⟩ fun hS0 => ?_
        clear hA; have hA := hB; clear hB
        try go_frame
        refine wpAnyH_one (i := 8) (by kernel_rfl) ?_
        refine stZ 8 b13 0 [.int .i64 xe, .int .u64 xn, .bool xg] hA ?_
        intro w3 hB
        simp only [uA] at hB
        refine andH ⟨hB.ci, hB.ci⟩ fun hS0 => ?_
        clear hA; have hA := hB; clear hB
        try go_frame
        refine wpAnyH_one (i := 9) (by kernel_rfl) ?_
        refine stZ 9 b14 0 [.int .i64 ye, .int .u64 yn, .bool yg] hA ?_
        intro w3 hB
        simp only [uA] at hB
        refine andH ⟨hB.ci, hB.ci⟩ fun hS0 => ?_
        clear hA; have hA := hB; clear hB
        try go_frame
        refine wpAnyH_done (by kernel_rfl) ?_ _
        try go_frame
        clear hS0
        have hF := hA.facts; (try simp only [uZ] at hA hF)
        go_wp2_with fail
        go_meet
        case rel => exact ⟨b13, b14, s2, d2, rfl, rfl, hR2'.out, hA.pick pZ⟩
      · skip
        refine aZ 7 14 48 [.int .i64 0, .int .u64 0, .bool false] hA ?_
        intro b14 w3 hB
        refine andH ⟨hB.ci, hB.ci⟩ fun hS0 => ?_
        clear hA; have hA := hB; clear hB
        try go_frame
        refine wpAnyH_one (i := 5) (by kernel_rfl) ?_
        refine cZ 5 51 (hap2'.out s1 d1 hR1'.out _ (hA.sep1 (A := TabP t p m s1 d1) sZ)) ?_
        rintro u w3 ⟨s2, d2, rfl, hR2, hT⟩
        have hR2' := Lib.hid hR2
        have hB := hA.call1 (A := TabP t p m s1 d1) sZ hT
        clear hT hR2
        simp only [uA] at hB
        refine andH ⟨hB.ci, hB.ci⟩ fun hS0 => ?_
        clear hA; have hA := hB; clear hB
        try go_frame
        refine wpAnyH_one (i := 8) (by kernel_rfl) ?_
        refine stZ 8 b13 0 [.int .i64 xe, .int .u64 xn, .bool xg] hA ?_
        intro w3 hB
        simp only [uA] at hB
        refine andH ⟨hB.ci, hB.ci⟩ fun hS0 => ?_
        clear hA; have hA := hB; clear hB
        try go_frame
        refine wpAnyH_one (i := 9) (by kernel_rfl) ?_
        refine stZ 9 b14 0 [.int .i64 ye, .int .u64 yn, .bool yg] hA ?_
        intro w3 hB
        simp only [uA] at hB
        refine andH ⟨hB.ci, hB.ci⟩ fun hS0 => ?_
        clear hA; have hA := hB; clear hB
        try go_frame
        refine wpAnyH_done (by kernel_rfl) ?_ _
        try go_frame
        clear hS0
        have hF := hA.facts; (try simp only [uZ] at hA hF)
        go_wp2_with fail
        go_meet
        case rel => exact ⟨b13, b14, s2, d2, rfl, rfl, hR2'.out, hA.pick pZ⟩
    · skip
      refine aZ 7 14 48 [.int .i64 0, .int .u64 0, .bool false] hA ?_
      intro b14 w3 hB
      refine andH ⟨hB.ci, hB.ci⟩ fun hS0 => ?_
      clear hA; have hA := hB; clear hB
      try go_frame
      refine wpAnyH_one (i := 2) (by kernel_rfl) ?_
      refine cZ 2 48 (hap1'.out _ (hA.sep1 (A := TabP t p m ss b) sZ)) ?_
      rintro u w3 ⟨s1, d1, rfl, hR1, hT⟩
      have hR1' := Lib.hid hR1
      have hB := hA.call1 (A := TabP t p m ss b) sZ hT
      clear hT hR1
      simp only [uA] at hB
      refine andH ⟨hB.ci, hB.ci⟩ fun hS0 => ?_
      clear hA; have hA := hB; clear hB
      try go_frame
      refine wpAnyH_one (i := 5) (by kernel_rfl) ?_
      refine cZ 5 51 (hap2'.out s1 d1 hR1'.out _ (hA.sep1 (A := TabP t p m s1 d1) sZ)) ?_
      rintro u w3 ⟨s2, d2, rfl, hR2, hT⟩
      have hR2' := Lib.hid hR2
      have hB := hA.call1 (A := TabP t p m s1 d1) sZ hT
      clear hT hR2
      simp only [uA] at hB
      refine andH ⟨hB.ci, hB.ci⟩ fun hS0 => ?_
      clear hA; have hA := hB; clear hB
      try go_frame
      refine wpAnyH_one (i := 8) (by kernel_rfl) ?_
      refine stZ 8 b13 0 [.int .i64 xe, .int .u64 xn, .bool xg] hA ?_
      intro w3 hB
      simp only [uA] at hB
      refine andH ⟨hB.ci, hB.ci⟩ fun hS0 => ?_
      clear hA; have hA := hB; clear hB
      try go_frame
      refine wpAnyH_one (i := 9) (by kernel_rfl) ?_
      refine stZ 9 b14 0 [.int .i64 ye, .int .u64 yn, .bool yg] hA ?_
      intro w3 hB
      simp only [uA] at hB
      refine andH ⟨hB.ci, hB.ci⟩ fun hS0 => ?_
      clear hA; have hA := hB; clear hB
      try go_frame
      refine wpAnyH_done (by kernel_rfl) ?_ _
      try go_frame
      clear hS0
      have hF := hA.facts; (try simp only [uZ] at hA hF)
      go_wp2_with fail
      go_meet
      case rel => exact ⟨b13, b14, s2, d2, rfl, rfl, hR2'.out, hA.pick pZ⟩
  · skip
    refine aZ 7 14 48 [.int .i64 0, .int .u64 0, .bool false] hA ?_
    intro b14 w3 hB
    refine andH ⟨hB.ci, hB.ci⟩ fun hS0 => ?_
    clear hA; have hA := hB; clear hB
    try go_frame
    refine wpAnyH_two (i := 2) (j := 6) (by kernel_rfl) ?_ ?_
    · skip
      refine cZ 2 48 (hap1'.out _ (hA.sep1 (A := TabP t p m ss b) sZ)) ?_
      rintro u w3 ⟨s1, d1, rfl, hR1, hT⟩
      have hR1' := Lib.hid hR1
      have hB := hA.call1 (A := TabP t p m ss b) sZ hT
      clear hT hR1
      simp only [uA] at hB
      refine andH ⟨hB.ci, hB.ci⟩ fun hS0 => ?_
      clear hA; have hA := hB; clear hB
      try go_frame
      refine wpAnyH_two (i := 5) (j := 6) (by kernel_rfl) ?_ ?_
      · skip
        refine cZ 5 51 (hap2'.out s1 d1 hR1'.out _ (hA.sep1 (A := TabP t p m s1 d1) sZ)) ?_
        rintro u w3 ⟨s2, d2, rfl, hR2, hT⟩
        have hR2' := Lib.hid hR2
        have hB := hA.call1 (A := TabP t p m s1 d1) sZ hT
        clear hT hR2
        simp only [uA] at hB
        refine andH ⟨hB.ci, hB.ci⟩ fun hS0 => ?_
        clear hA; have hA := hB; clear hB
        try go_frame
        refine wpAnyH_one (i := 6) (by kernel_rfl) ?_
        refine aZ 6 13 48 [.int .i64 0, .int .u64 0, .bool false] hA ?_
        intro b13 w3 hB
        refine andH ⟨hB.ci, hB.ci⟩ fun hS0 => ?_
        clear hA; have hA := hB; clear hB
        try go_frame
        refine wpAnyH_one (i := 8) (by kernel_rfl) ?_
        refine stZ 8 b13 0 [.int .i64 xe, .int .u64 xn, .bool xg] hA ?_
        intro w3 hB
        simp only [uA] at hB
        refine andH ⟨hB.ci, hB.ci⟩ fun hS0 => ?_
        clear hA; have hA := hB; clear hB
        try go_frame
        refine wpAnyH_one (i := 9) (by kernel_rfl) ?_
        refine stZ 9 b14 0 [.int .i64 ye, .int .u64 yn, .bool yg] hA ?_
        intro w3 hB
        simp only [uA] at hB
        refine andH ⟨hB.ci, hB.ci⟩ fun hS0 => ?_
        clear hA; have hA := hB; clear hB
        try go_frame
        refine wpAnyH_done (by kernel_rfl) ?_ _
        try go_frame
        clear hS0
        have hF := hA.facts; (try simp only [uZ] at hA hF)
        go_wp2_with fail
        go_meet
        case rel => exact ⟨b13, b14, s2, d2, rfl, rfl, hR2'.out, hA.pick pZ⟩
      · skip
        refine aZ 6 13 48 [.int .i64 0, .int .u64 0, .bool false] hA ?_
        intro b13 w3 hB
        refine andH ⟨hB.ci, hB.ci⟩ fun hS0 => ?_
        clear hA; have hA := hB; clear hB
        try go_frame
        refine wpAnyH_one (i := 5) (by kernel_rfl) ?_
        refine cZ 5 51 (hap2'.out s1 d1 hR1'.out _ (hA.sep1 (A := TabP t p m s1 d1) sZ)) ?_
        rintro u w3 ⟨s2, d2, rfl, hR2, hT⟩
        have hR2' := Lib.hid hR2
        have hB := hA.call1 (A := TabP t p m s1 d1) sZ hT
        clear hT hR2
        simp only [uA] at hB
        refine andH ⟨hB.ci, hB.ci⟩ fun hS0 => ?_
        clear hA; have hA := hB; clear hB
        try go_frame
        refine wpAnyH_one (i := 8) (by kernel_rfl) ?_
        refine stZ 8 b13 0 [.int .i64 xe, .int .u64 xn, .bool xg] hA ?_
        intro w3 hB
        simp only [uA] at hB
        refine andH ⟨hB.ci, hB.ci⟩ fun hS0 => ?_
        clear hA; have hA := hB; clear hB
        try go_frame
        refine wpAnyH_one (i := 9) (by kernel_rfl) ?_
        refine stZ 9 b14 0 [.int .i64 ye, .int .u64 yn, .bool yg] hA ?_
        intro w3 hB
        simp only [uA] at hB
        refine andH ⟨hB.ci, hB.ci⟩ fun hS0 => ?_
        clear hA; have hA := hB; clear hB
        try go_frame
        refine wpAnyH_done (by kernel_rfl) ?_ _
        try go_frame
        clear hS0
        have hF := hA.facts; (try simp only [uZ] at hA hF)
        go_wp2_with fail
        go_meet
        case rel => exact ⟨b13, b14, s2, d2, rfl, rfl, hR2'.out, hA.pick pZ⟩
    · skip
      refine aZ 6 13 48 [.int .i64 0, .int .u64 0, .bool false] hA ?_
      intro b13 w3 hB
      refine andH ⟨hB.ci, hB.ci⟩ fun hS0 => ?_
      clear hA; have hA := hB; clear hB
      try go_frame
      refine wpAnyH_one (i := 2) (by kernel_rfl) ?_
      refine cZ 2 48 (hap1'.out _ (hA.sep1 (A := TabP t p m ss b) sZ)) ?_
      rintro u w3 ⟨s1, d1, rfl, hR1, hT⟩
      have hR1' := Lib.hid hR1
      have hB := hA.call1 (A := TabP t p m ss b) sZ hT
      clear hT hR1
      simp only [uA] at hB
      refine andH ⟨hB.ci, hB.ci⟩ fun hS0 => ?_
      clear hA; have hA := hB; clear hB
      try go_frame
      refine wpAnyH_one (i := 5) (by kernel_rfl) ?_
      refine cZ 5 51 (hap2'.out s1 d1 hR1'.out _ (hA.sep1 (A := TabP t p m s1 d1) sZ)) ?_
      rintro u w3 ⟨s2, d2, rfl, hR2, hT⟩
      have hR2' := Lib.hid hR2
      have hB := hA.call1 (A := TabP t p m s1 d1) sZ hT
      clear hT hR2
      simp only [uA] at hB
      refine andH ⟨hB.ci, hB.ci⟩ fun hS0 => ?_
      clear hA; have hA := hB; clear hB
      try go_frame
      refine wpAnyH_one (i := 8) (by kernel_rfl) ?_
      refine stZ 8 b13 0 [.int .i64 xe, .int .u64 xn, .bool xg] hA ?_
      intro w3 hB
      simp only [uA] at hB
      refine andH ⟨hB.ci, hB.ci⟩ fun hS0 => ?_
      clear hA; have hA := hB; clear hB
      try go_frame
      refine wpAnyH_one (i := 9) (by kernel_rfl) ?_
      refine stZ 9 b14 0 [.int .i64 ye, .int .u64 yn, .bool yg] hA ?_
      intro w3 hB
      simp only [uA] at hB
      refine andH ⟨hB.ci, hB.ci⟩ fun hS0 => ?_
      clear hA; have hA := hB; clear hB
      try go_frame
      refine wpAnyH_done (by kernel_rfl) ?_ _
      try go_frame
      clear hS0
      have hF := hA.facts; (try simp only [uZ] at hA hF)
      go_wp2_with fail
      go_meet
      case rel => exact ⟨b13, b14, s2, d2, rfl, rfl, hR2'.out, hA.pick pZ⟩
 case rest =>
  obtain ⟨b13, b14, s3, d3, rfl, rfl, hR3, hB⟩ := hcut
  clear hF hA; have hA := hB; clear hB
  have hR3' := Lib.hid hR3
  clear hR3
  have hF := hA.facts; (try simp only [uZ] at hA hF)
  go_upto_region 8 with (first | ((with_reducible refine gst ?_); refine wT hA ?_; clear hF hA; intro w1 hA hF; (try simp only [uZ] at hA hF)) | ((with_reducible refine gbx ?_); refine wC hA ?_; clear hF hA; intro b1 w1 hA hb1 hF; (try simp only [uZ] at hA hF)))
  try go_frame
  go_cut [15, 16] from 52 to 57 (CutY w t2 p2 m2 T21 (TabP t p m s3 d3) b13 b14 b6 b7 [.int .i64 ka, .int .u64 na, .string fa, .int .u64 ra, .string pa, .int .i64 ma, .int .u64 nna, .int .i64 ta] [.int .i64 kb, .int .u64 nb, .string fb, .int .u64 rb, .string pb, .int .i64 mb, .int .u64 nnb, .int .i64 tb] [.int .i64 xe, .int .u64 xn, .bool xg] [.int .i64 ye, .int .u64 yn, .bool yg])
  case first =>
   have hB := hA.drew
   clear hF hA; have hA := hB; clear hB
   refine wp_region_held (S := fun w' => BlockIs w' b6 (k8 ka na fa ra pa ma nna ta) 29 ∧ BlockIs w' b7 (k8 kb nb fb rb pb mb nnb tb) 29) hm ?_
   change wpAnyH _ _ _ _ _ 10 _ _ (World.drew _)
   generalize World.drew _ = wd at *
   have hS0 := (⟨hA.get (A := Part.cells b6 (k8 ka na fa ra pa ma nna ta) 29) sZ, hA.get (A := Part.cells b7 (k8 kb nb fb rb pb mb nnb tb) 29) sZ⟩ : (fun w' => BlockIs w' b6 (k8 ka na fa ra pa ma nna ta) 29 ∧ BlockIs w' b7 (k8 kb nb fb rb pb mb nnb tb) 29) wd)
   refine tP 0 52 (.pointer (some ⟨t2, 0, none⟩)) (s := hS0) (h := ?_)
   try go_frame
   refine tZ 1 53 (.agg #[.int .i64 kb, .int .u64 nb, .string fb, .int .u64 rb, .string pb, .int .i64 mb, .int .u64 nnb, .int .i64 tb]) (r := (fun w' hS => run_load_row (ty := 29) (n := 8) (b := b7) (j := 0) rfl (by exact rfl) hS.2 (by kernel_rfl) (by kernel_rfl) rfl rfl)) (s := hS0) (h := ?_)
   try go_frame
   refine tP 3 55 (.pointer (some ⟨t2, 0, none⟩)) (s := hS0) (h := ?_)
   try go_frame
   refine tZ 4 56 (.agg #[.int .i64 ka, .int .u64 na, .string fa, .int .u64 ra, .string pa, .int .i64 ma, .int .u64 nna, .int .i64 ta]) (r := (fun w' hS => run_load_row (ty := 29) (n := 8) (b := b6) (j := 0) rfl (by exact rfl) hS.1 (by kernel_rfl) (by kernel_rfl) rfl rfl)) (s := hS0) (h := ?_)
   try go_frame
   refine wpAnyH_three (i := 2) (j := 6) (k := 7) (by kernel_rfl) ?_ ?_ ?_
   · skip
     refine cZ 2 54 (hap3'.out _ (hA.sep1 (A := TabP t2 p2 m2 ss2 b2) sZ)) ?_
     rintro u w3 ⟨s1, d1, rfl, hR1, hT⟩
     have hR1' := Lib.hid hR1
     have hB := hA.call1 (A := TabP t2 p2 m2 ss2 b2) sZ hT
     clear hT hR1
     simp only [uA] at hB
     refine andH ⟨hB.ci, hB.ci⟩ fun hS0 => ?_
     clear hA; have hA := hB; clear hB
     try go_frame
     refine wpAnyH_three (i := 5) (j := 6) (k := 7) (by kernel_rfl) ?_ ?_ ?_
     · skip
       refine cZ 5 57 (hap4'.out s1 d1 hR1'.out _ (hA.sep1 (A := TabP t2 p2 m2 s1 d1) sZ)) ?_
       rintro u w3 ⟨s2, d2, rfl, hR2, hT⟩
       have hR2' := Lib.hid hR2
       have hB := hA.call1 (A := TabP t2 p2 m2 s1 d1) sZ hT
       clear hT hR2
       simp only [uA] at hB
       refine andH ⟨hB.ci, hB.ci⟩ fun hS0 => ?_
       clear hA; have hA := hB; clear hB
       try go_frame
       refine wpAnyH_two (i := 6) (j := 7) (by kernel_rfl) ?_ ?_
       · skip
         refine aZ 6 15 48 [.int .i64 0, .int .u64 0, .bool false] hA ?_
         intro b15 w3 hB
         refine andH ⟨hB.ci, hB.ci⟩ fun hS0 => ?_
         clear hA; have hA := hB; clear hB
         try go_frame
         refine wpAnyH_one (i := 7) (by kernel_rfl) ?_
         refine aZ 7 16 48 [.int .i64 0, .int .u64 0, .bool false] hA ?_
         intro b16 w3 hB
         refine andH ⟨hB.ci, hB.ci⟩ fun hS0 => ?_
         clear hA; have hA := hB; clear hB
         try go_frame
         refine wpAnyH_one (i := 8) (by kernel_rfl) ?_
         refine stZ 8 b15 0 [.int .i64 ye, .int .u64 yn, .bool yg] hA ?_
         intro w3 hB
         simp only [uA] at hB
         refine andH ⟨hB.ci, hB.ci⟩ fun hS0 => ?_
         clear hA; have hA := hB; clear hB
         try go_frame
         refine wpAnyH_one (i := 9) (by kernel_rfl) ?_
         refine stZ 9 b16 0 [.int .i64 xe, .int .u64 xn, .bool xg] hA ?_
         intro w3 hB
         simp only [uA] at hB
         refine andH ⟨hB.ci, hB.ci⟩ fun hS0 => ?_
         clear hA; have hA := hB; clear hB
         try go_frame
         refine wpAnyH_done (by kernel_rfl) ?_ _
         try go_frame
         clear hS0
         have hF := hA.facts; (try simp only [uZ] at hA hF)
         go_wp2_with fail
         go_meet
         case rel => exact ⟨b15, b16, s2, d2, rfl, rfl, hR2'.out, hA.pick pZ⟩
       · skip
         refine aZ 7 16 48 [.int .i64 0, .int .u64 0, .bool false] hA ?_
         intro b16 w3 hB
         refine andH ⟨hB.ci, hB.ci⟩ fun hS0 => ?_
         clear hA; have hA := hB; clear hB
         try go_frame
         refine wpAnyH_one (i := 6) (by kernel_rfl) ?_
         refine aZ 6 15 48 [.int .i64 0, .int .u64 0, .bool false] hA ?_
         intro b15 w3 hB
         refine andH ⟨hB.ci, hB.ci⟩ fun hS0 => ?_
         clear hA; have hA := hB; clear hB
         try go_frame
         refine wpAnyH_one (i := 8) (by kernel_rfl) ?_
         refine stZ 8 b15 0 [.int .i64 ye, .int .u64 yn, .bool yg] hA ?_
         intro w3 hB
         simp only [uA] at hB
         refine andH ⟨hB.ci, hB.ci⟩ fun hS0 => ?_
         clear hA; have hA := hB; clear hB
         try go_frame
         refine wpAnyH_one (i := 9) (by kernel_rfl) ?_
         refine stZ 9 b16 0 [.int .i64 xe, .int .u64 xn, .bool xg] hA ?_
         intro w3 hB
         simp only [uA] at hB
         refine andH ⟨hB.ci, hB.ci⟩ fun hS0 => ?_
         clear hA; have hA := hB; clear hB
         try go_frame
         refine wpAnyH_done (by kernel_rfl) ?_ _
         try go_frame
         clear hS0
         have hF := hA.facts; (try simp only [uZ] at hA hF)
         go_wp2_with fail
         go_meet
         case rel => exact ⟨b15, b16, s2, d2, rfl, rfl, hR2'.out, hA.pick pZ⟩
     · skip
       refine aZ 6 15 48 [.int .i64 0, .int .u64 0, .bool false] hA ?_
       intro b15 w3 hB
       refine andH ⟨hB.ci, hB.ci⟩ fun hS0 => ?_
       clear hA; have hA := hB; clear hB
       try go_frame
       refine wpAnyH_two (i := 5) (j := 7) (by kernel_rfl) ?_ ?_
       · skip
         refine cZ 5 57 (hap4'.out s1 d1 hR1'.out _ (hA.sep1 (A := TabP t2 p2 m2 s1 d1) sZ)) ?_
         rintro u w3 ⟨s2, d2, rfl, hR2, hT⟩
         have hR2' := Lib.hid hR2
         have hB := hA.call1 (A := TabP t2 p2 m2 s1 d1) sZ hT
         clear hT hR2
         simp only [uA] at hB
         refine andH ⟨hB.ci, hB.ci⟩ fun hS0 => ?_
         clear hA; have hA := hB; clear hB
         try go_frame
         refine wpAnyH_one (i := 7) (by kernel_rfl) ?_
         refine aZ 7 16 48 [.int .i64 0, .int .u64 0, .bool false] hA ?_
         intro b16 w3 hB
         refine andH ⟨hB.ci, hB.ci⟩ fun hS0 => ?_
         clear hA; have hA := hB; clear hB
         try go_frame
         refine wpAnyH_one (i := 8) (by kernel_rfl) ?_
         refine stZ 8 b15 0 [.int .i64 ye, .int .u64 yn, .bool yg] hA ?_
         intro w3 hB
         simp only [uA] at hB
         refine andH ⟨hB.ci, hB.ci⟩ fun hS0 => ?_
         clear hA; have hA := hB; clear hB
         try go_frame
         refine wpAnyH_one (i := 9) (by kernel_rfl) ?_
         refine stZ 9 b16 0 [.int .i64 xe, .int .u64 xn, .bool xg] hA ?_
         intro w3 hB
         simp only [uA] at hB
         refine andH ⟨hB.ci, hB.ci⟩ fun hS0 => ?_
         clear hA; have hA := hB; clear hB
         try go_frame
         refine wpAnyH_done (by kernel_rfl) ?_ _
         try go_frame
         clear hS0
         have hF := hA.facts; (try simp only [uZ] at hA hF)
         go_wp2_with fail
         go_meet
         case rel => exact ⟨b15, b16, s2, d2, rfl, rfl, hR2'.out, hA.pick pZ⟩
       · skip
         refine aZ 7 16 48 [.int .i64 0, .int .u64 0, .bool false] hA ?_
         intro b16 w3 hB
         refine andH ⟨hB.ci, hB.ci⟩ fun hS0 => ?_
         clear hA; have hA := hB; clear hB
         try go_frame
         refine wpAnyH_one (i := 5) (by kernel_rfl) ?_
         refine cZ 5 57 (hap4'.out s1 d1 hR1'.out _ (hA.sep1 (A := TabP t2 p2 m2 s1 d1) sZ)) ?_
         rintro u w3 ⟨s2, d2, rfl, hR2, hT⟩
         have hR2' := Lib.hid hR2
         have hB := hA.call1 (A := TabP t2 p2 m2 s1 d1) sZ hT
         clear hT hR2
         simp only [uA] at hB
         refine andH ⟨hB.ci, hB.ci⟩ fun hS0 => ?_
         clear hA; have hA := hB; clear hB
         try go_frame
         refine wpAnyH_one (i := 8) (by kernel_rfl) ?_
         refine stZ 8 b15 0 [.int .i64 ye, .int .u64 yn, .bool yg] hA ?_
         intro w3 hB
         simp only [uA] at hB
         refine andH ⟨hB.ci, hB.ci⟩ fun hS0 => ?_
         clear hA; have hA := hB; clear hB
         try go_frame
         refine wpAnyH_one (i := 9) (by kernel_rfl) ?_
         refine stZ 9 b16 0 [.int .i64 xe, .int .u64 xn, .bool xg] hA ?_
         intro w3 hB
         simp only [uA] at hB
         refine andH ⟨hB.ci, hB.ci⟩ fun hS0 => ?_
         clear hA; have hA := hB; clear hB
         try go_frame
         refine wpAnyH_done (by kernel_rfl) ?_ _
         try go_frame
         clear hS0
         have hF := hA.facts; (try simp only [uZ] at hA hF)
         go_wp2_with fail
         go_meet
         case rel => exact ⟨b15, b16, s2, d2, rfl, rfl, hR2'.out, hA.pick pZ⟩
     · skip
       refine aZ 7 16 48 [.int .i64 0, .int .u64 0, .bool false] hA ?_
       intro b16 w3 hB
       refine andH ⟨hB.ci, hB.ci⟩ fun hS0 => ?_
       clear hA; have hA := hB; clear hB
       try go_frame
       refine wpAnyH_two (i := 5) (j := 6) (by kernel_rfl) ?_ ?_
       · skip
         refine cZ 5 57 (hap4'.out s1 d1 hR1'.out _ (hA.sep1 (A := TabP t2 p2 m2 s1 d1) sZ)) ?_
         rintro u w3 ⟨s2, d2, rfl, hR2, hT⟩
         have hR2' := Lib.hid hR2
         have hB := hA.call1 (A := TabP t2 p2 m2 s1 d1) sZ hT
         clear hT hR2
         simp only [uA] at hB
         refine andH ⟨hB.ci, hB.ci⟩ fun hS0 => ?_
         clear hA; have hA := hB; clear hB
         try go_frame
         refine wpAnyH_one (i := 6) (by kernel_rfl) ?_
         refine aZ 6 15 48 [.int .i64 0, .int .u64 0, .bool false] hA ?_
         intro b15 w3 hB
         refine andH ⟨hB.ci, hB.ci⟩ fun hS0 => ?_
         clear hA; have hA := hB; clear hB
         try go_frame
         refine wpAnyH_one (i := 8) (by kernel_rfl) ?_
         refine stZ 8 b15 0 [.int .i64 ye, .int .u64 yn, .bool yg] hA ?_
         intro w3 hB
         simp only [uA] at hB
         refine andH ⟨hB.ci, hB.ci⟩ fun hS0 => ?_
         clear hA; have hA := hB; clear hB
         try go_frame
         refine wpAnyH_one (i := 9) (by kernel_rfl) ?_
         refine stZ 9 b16 0 [.int .i64 xe, .int .u64 xn, .bool xg] hA ?_
         intro w3 hB
         simp only [uA] at hB
         refine andH ⟨hB.ci, hB.ci⟩ fun hS0 => ?_
         clear hA; have hA := hB; clear hB
         try go_frame
         refine wpAnyH_done (by kernel_rfl) ?_ _
         try go_frame
         clear hS0
         have hF := hA.facts; (try simp only [uZ] at hA hF)
         go_wp2_with fail
         go_meet
         case rel => exact ⟨b15, b16, s2, d2, rfl, rfl, hR2'.out, hA.pick pZ⟩
       · skip
         refine aZ 6 15 48 [.int .i64 0, .int .u64 0, .bool false] hA ?_
         intro b15 w3 hB
         refine andH ⟨hB.ci, hB.ci⟩ fun hS0 => ?_
         clear hA; have hA := hB; clear hB
         try go_frame
         refine wpAnyH_one (i := 5) (by kernel_rfl) ?_
         refine cZ 5 57 (hap4'.out s1 d1 hR1'.out _ (hA.sep1 (A := TabP t2 p2 m2 s1 d1) sZ)) ?_
         rintro u w3 ⟨s2, d2, rfl, hR2, hT⟩
         have hR2' := Lib.hid hR2
         have hB := hA.call1 (A := TabP t2 p2 m2 s1 d1) sZ hT
         clear hT hR2
         simp only [uA] at hB
         refine andH ⟨hB.ci, hB.ci⟩ fun hS0 => ?_
         clear hA; have hA := hB; clear hB
         try go_frame
         refine wpAnyH_one (i := 8) (by kernel_rfl) ?_
         refine stZ 8 b15 0 [.int .i64 ye, .int .u64 yn, .bool yg] hA ?_
         intro w3 hB
         simp only [uA] at hB
         refine andH ⟨hB.ci, hB.ci⟩ fun hS0 => ?_
         clear hA; have hA := hB; clear hB
         try go_frame
         refine wpAnyH_one (i := 9) (by kernel_rfl) ?_
         refine stZ 9 b16 0 [.int .i64 xe, .int .u64 xn, .bool xg] hA ?_
         intro w3 hB
         simp only [uA] at hB
         refine andH ⟨hB.ci, hB.ci⟩ fun hS0 => ?_
         clear hA; have hA := hB; clear hB
         try go_frame
         refine wpAnyH_done (by kernel_rfl) ?_ _
         try go_frame
         clear hS0
         have hF := hA.facts; (try simp only [uZ] at hA hF)
         go_wp2_with fail
         go_meet
         case rel => exact ⟨b15, b16, s2, d2, rfl, rfl, hR2'.out, hA.pick pZ⟩
   · skip
     refine aZ 6 15 48 [.int .i64 0, .int .u64 0, .bool false] hA ?_
     intro b15 w3 hB
     refine andH ⟨hB.ci, hB.ci⟩ fun hS0 => ?_
     clear hA; have hA := hB; clear hB
     try go_frame
     refine wpAnyH_two (i := 2) (j := 7) (by kernel_rfl) ?_ ?_
     · skip
       refine cZ 2 54 (hap3'.out _ (hA.sep1 (A := TabP t2 p2 m2 ss2 b2) sZ)) ?_
       rintro u w3 ⟨s1, d1, rfl, hR1, hT⟩
       have hR1' := Lib.hid hR1
       have hB := hA.call1 (A := TabP t2 p2 m2 ss2 b2) sZ hT
       clear hT hR1
       simp only [uA] at hB
       refine andH ⟨hB.ci, hB.ci⟩ fun hS0 => ?_
       clear hA; have hA := hB; clear hB
       try go_frame
       refine wpAnyH_two (i := 5) (j := 7) (by kernel_rfl) ?_ ?_
       · skip
         refine cZ 5 57 (hap4'.out s1 d1 hR1'.out _ (hA.sep1 (A := TabP t2 p2 m2 s1 d1) sZ)) ?_
         rintro u w3 ⟨s2, d2, rfl, hR2, hT⟩
         have hR2' := Lib.hid hR2
         have hB := hA.call1 (A := TabP t2 p2 m2 s1 d1) sZ hT
         clear hT hR2
         simp only [uA] at hB
         refine andH ⟨hB.ci, hB.ci⟩ fun hS0 => ?_
         clear hA; have hA := hB; clear hB
         try go_frame
         refine wpAnyH_one (i := 7) (by kernel_rfl) ?_
         refine aZ 7 16 48 [.int .i64 0, .int .u64 0, .bool false] hA ?_
         intro b16 w3 hB
         refine andH ⟨hB.ci, hB.ci⟩ fun hS0 => ?_
         clear hA; have hA := hB; clear hB
         try go_frame
         refine wpAnyH_one (i := 8) (by kernel_rfl) ?_
         refine stZ 8 b15 0 [.int .i64 ye, .int .u64 yn, .bool yg] hA ?_
         intro w3 hB
         simp only [uA] at hB
         refine andH ⟨hB.ci, hB.ci⟩ fun hS0 => ?_
         clear hA; have hA := hB; clear hB
         try go_frame
         refine wpAnyH_one (i := 9) (by kernel_rfl) ?_
         refine stZ 9 b16 0 [.int .i64 xe, .int .u64 xn, .bool xg] hA ?_
         intro w3 hB
         simp only [uA] at hB
         refine andH ⟨hB.ci, hB.ci⟩ fun hS0 => ?_
         clear hA; have hA := hB; clear hB
         try go_frame
         refine wpAnyH_done (by kernel_rfl) ?_ _
         try go_frame
         clear hS0
         have hF := hA.facts; (try simp only [uZ] at hA hF)
         go_wp2_with fail
         go_meet
         case rel => exact ⟨b15, b16, s2, d2, rfl, rfl, hR2'.out, hA.pick pZ⟩
       · skip
         refine aZ 7 16 48 [.int .i64 0, .int .u64 0, .bool false] hA ?_
         intro b16 w3 hB
         refine andH ⟨hB.ci, hB.ci⟩ fun hS0 => ?_
         clear hA; have hA := hB; clear hB
         try go_frame
         refine wpAnyH_one (i := 5) (by kernel_rfl) ?_
         refine cZ 5 57 (hap4'.out s1 d1 hR1'.out _ (hA.sep1 (A := TabP t2 p2 m2 s1 d1) sZ)) ?_
         rintro u w3 ⟨s2, d2, rfl, hR2, hT⟩
         have hR2' := Lib.hid hR2
         have hB := hA.call1 (A := TabP t2 p2 m2 s1 d1) sZ hT
         clear hT hR2
         simp only [uA] at hB
         refine andH ⟨hB.ci, hB.ci⟩ fun hS0 => ?_
         clear hA; have hA := hB; clear hB
         try go_frame
         refine wpAnyH_one (i := 8) (by kernel_rfl) ?_
         refine stZ 8 b15 0 [.int .i64 ye, .int .u64 yn, .bool yg] hA ?_
         intro w3 hB
         simp only [uA] at hB
         refine andH ⟨hB.ci, hB.ci⟩ fun hS0 => ?_
         clear hA; have hA := hB; clear hB
         try go_frame
         refine wpAnyH_one (i := 9) (by kernel_rfl) ?_
         refine stZ 9 b16 0 [.int .i64 xe, .int .u64 xn, .bool xg] hA ?_
         intro w3 hB
         simp only [uA] at hB
         refine andH ⟨hB.ci, hB.ci⟩ fun hS0 => ?_
         clear hA; have hA := hB; clear hB
         try go_frame
         refine wpAnyH_done (by kernel_rfl) ?_ _
         try go_frame
         clear hS0
         have hF := hA.facts; (try simp only [uZ] at hA hF)
         go_wp2_with fail
         go_meet
         case rel => exact ⟨b15, b16, s2, d2, rfl, rfl, hR2'.out, hA.pick pZ⟩
     · skip
       refine aZ 7 16 48 [.int .i64 0, .int .u64 0, .bool false] hA ?_
       intro b16 w3 hB
       refine andH ⟨hB.ci, hB.ci⟩ fun hS0 => ?_
       clear hA; have hA := hB; clear hB
       try go_frame
       refine wpAnyH_one (i := 2) (by kernel_rfl) ?_
       refine cZ 2 54 (hap3'.out _ (hA.sep1 (A := TabP t2 p2 m2 ss2 b2) sZ)) ?_
       rintro u w3 ⟨s1, d1, rfl, hR1, hT⟩
       have hR1' := Lib.hid hR1
       have hB := hA.call1 (A := TabP t2 p2 m2 ss2 b2) sZ hT
       clear hT hR1
       simp only [uA] at hB
       refine andH ⟨hB.ci, hB.ci⟩ fun hS0 => ?_
       clear hA; have hA := hB; clear hB
       try go_frame
       refine wpAnyH_one (i := 5) (by kernel_rfl) ?_
       refine cZ 5 57 (hap4'.out s1 d1 hR1'.out _ (hA.sep1 (A := TabP t2 p2 m2 s1 d1) sZ)) ?_
       rintro u w3 ⟨s2, d2, rfl, hR2, hT⟩
       have hR2' := Lib.hid hR2
       have hB := hA.call1 (A := TabP t2 p2 m2 s1 d1) sZ hT
       clear hT hR2
       simp only [uA] at hB
       refine andH ⟨hB.ci, hB.ci⟩ fun hS0 => ?_
       clear hA; have hA := hB; clear hB
       try go_frame
       refine wpAnyH_one (i := 8) (by kernel_rfl) ?_
       refine stZ 8 b15 0 [.int .i64 ye, .int .u64 yn, .bool yg] hA ?_
       intro w3 hB
       simp only [uA] at hB
       refine andH ⟨hB.ci, hB.ci⟩ fun hS0 => ?_
       clear hA; have hA := hB; clear hB
       try go_frame
       refine wpAnyH_one (i := 9) (by kernel_rfl) ?_
       refine stZ 9 b16 0 [.int .i64 xe, .int .u64 xn, .bool xg] hA ?_
       intro w3 hB
       simp only [uA] at hB
       refine andH ⟨hB.ci, hB.ci⟩ fun hS0 => ?_
       clear hA; have hA := hB; clear hB
       try go_frame
       refine wpAnyH_done (by kernel_rfl) ?_ _
       try go_frame
       clear hS0
       have hF := hA.facts; (try simp only [uZ] at hA hF)
       go_wp2_with fail
       go_meet
       case rel => exact ⟨b15, b16, s2, d2, rfl, rfl, hR2'.out, hA.pick pZ⟩
   · skip
     refine aZ 7 16 48 [.int .i64 0, .int .u64 0, .bool false] hA ?_
     intro b16 w3 hB
     refine andH ⟨hB.ci, hB.ci⟩ fun hS0 => ?_
     clear hA; have hA := hB; clear hB
     try go_frame
     refine wpAnyH_two (i := 2) (j := 6) (by kernel_rfl) ?_ ?_
     · skip
       refine cZ 2 54 (hap3'.out _ (hA.sep1 (A := TabP t2 p2 m2 ss2 b2) sZ)) ?_
       rintro u w3 ⟨s1, d1, rfl, hR1, hT⟩
       have hR1' := Lib.hid hR1
       have hB := hA.call1 (A := TabP t2 p2 m2 ss2 b2) sZ hT
       clear hT hR1
       simp only [uA] at hB
       refine andH ⟨hB.ci, hB.ci⟩ fun hS0 => ?_
       clear hA; have hA := hB; clear hB
       try go_frame
       refine wpAnyH_two (i := 5) (j := 6) (by kernel_rfl) ?_ ?_
       · skip
         refine cZ 5 57 (hap4'.out s1 d1 hR1'.out _ (hA.sep1 (A := TabP t2 p2 m2 s1 d1) sZ)) ?_
         rintro u w3 ⟨s2, d2, rfl, hR2, hT⟩
         have hR2' := Lib.hid hR2
         have hB := hA.call1 (A := TabP t2 p2 m2 s1 d1) sZ hT
         clear hT hR2
         simp only [uA] at hB
         refine andH ⟨hB.ci, hB.ci⟩ fun hS0 => ?_
         clear hA; have hA := hB; clear hB
         try go_frame
         refine wpAnyH_one (i := 6) (by kernel_rfl) ?_
         refine aZ 6 15 48 [.int .i64 0, .int .u64 0, .bool false] hA ?_
         intro b15 w3 hB
         refine andH ⟨hB.ci, hB.ci⟩ fun hS0 => ?_
         clear hA; have hA := hB; clear hB
         try go_frame
         refine wpAnyH_one (i := 8) (by kernel_rfl) ?_
         refine stZ 8 b15 0 [.int .i64 ye, .int .u64 yn, .bool yg] hA ?_
         intro w3 hB
         simp only [uA] at hB
         refine andH ⟨hB.ci, hB.ci⟩ fun hS0 => ?_
         clear hA; have hA := hB; clear hB
         try go_frame
         refine wpAnyH_one (i := 9) (by kernel_rfl) ?_
         refine stZ 9 b16 0 [.int .i64 xe, .int .u64 xn, .bool xg] hA ?_
         intro w3 hB
         simp only [uA] at hB
         refine andH ⟨hB.ci, hB.ci⟩ fun hS0 => ?_
         clear hA; have hA := hB; clear hB
         try go_frame
         refine wpAnyH_done (by kernel_rfl) ?_ _
         try go_frame
         clear hS0
         have hF := hA.facts; (try simp only [uZ] at hA hF)
         go_wp2_with fail
         go_meet
         case rel => exact ⟨b15, b16, s2, d2, rfl, rfl, hR2'.out, hA.pick pZ⟩
       · skip
         refine aZ 6 15 48 [.int .i64 0, .int .u64 0, .bool false] hA ?_
         intro b15 w3 hB
         refine andH ⟨hB.ci, hB.ci⟩ fun hS0 => ?_
         clear hA; have hA := hB; clear hB
         try go_frame
         refine wpAnyH_one (i := 5) (by kernel_rfl) ?_
         refine cZ 5 57 (hap4'.out s1 d1 hR1'.out _ (hA.sep1 (A := TabP t2 p2 m2 s1 d1) sZ)) ?_
         rintro u w3 ⟨s2, d2, rfl, hR2, hT⟩
         have hR2' := Lib.hid hR2
         have hB := hA.call1 (A := TabP t2 p2 m2 s1 d1) sZ hT
         clear hT hR2
         simp only [uA] at hB
         refine andH ⟨hB.ci, hB.ci⟩ fun hS0 => ?_
         clear hA; have hA := hB; clear hB
         try go_frame
         refine wpAnyH_one (i := 8) (by kernel_rfl) ?_
         refine stZ 8 b15 0 [.int .i64 ye, .int .u64 yn, .bool yg] hA ?_
         intro w3 hB
         simp only [uA] at hB
         refine andH ⟨hB.ci, hB.ci⟩ fun hS0 => ?_
         clear hA; have hA := hB; clear hB
         try go_frame
         refine wpAnyH_one (i := 9) (by kernel_rfl) ?_
         refine stZ 9 b16 0 [.int .i64 xe, .int .u64 xn, .bool xg] hA ?_
         intro w3 hB
         simp only [uA] at hB
         refine andH ⟨hB.ci, hB.ci⟩ fun hS0 => ?_
         clear hA; have hA := hB; clear hB
         try go_frame
         refine wpAnyH_done (by kernel_rfl) ?_ _
         try go_frame
         clear hS0
         have hF := hA.facts; (try simp only [uZ] at hA hF)
         go_wp2_with fail
         go_meet
         case rel => exact ⟨b15, b16, s2, d2, rfl, rfl, hR2'.out, hA.pick pZ⟩
     · skip
       refine aZ 6 15 48 [.int .i64 0, .int .u64 0, .bool false] hA ?_
       intro b15 w3 hB
       refine andH ⟨hB.ci, hB.ci⟩ fun hS0 => ?_
       clear hA; have hA := hB; clear hB
       try go_frame
       refine wpAnyH_one (i := 2) (by kernel_rfl) ?_
       refine cZ 2 54 (hap3'.out _ (hA.sep1 (A := TabP t2 p2 m2 ss2 b2) sZ)) ?_
       rintro u w3 ⟨s1, d1, rfl, hR1, hT⟩
       have hR1' := Lib.hid hR1
       have hB := hA.call1 (A := TabP t2 p2 m2 ss2 b2) sZ hT
       clear hT hR1
       simp only [uA] at hB
       refine andH ⟨hB.ci, hB.ci⟩ fun hS0 => ?_
       clear hA; have hA := hB; clear hB
       try go_frame
       refine wpAnyH_one (i := 5) (by kernel_rfl) ?_
       refine cZ 5 57 (hap4'.out s1 d1 hR1'.out _ (hA.sep1 (A := TabP t2 p2 m2 s1 d1) sZ)) ?_
       rintro u w3 ⟨s2, d2, rfl, hR2, hT⟩
       have hR2' := Lib.hid hR2
       have hB := hA.call1 (A := TabP t2 p2 m2 s1 d1) sZ hT
       clear hT hR2
       simp only [uA] at hB
       refine andH ⟨hB.ci, hB.ci⟩ fun hS0 => ?_
       clear hA; have hA := hB; clear hB
       try go_frame
       refine wpAnyH_one (i := 8) (by kernel_rfl) ?_
       refine stZ 8 b15 0 [.int .i64 ye, .int .u64 yn, .bool yg] hA ?_
       intro w3 hB
       simp only [uA] at hB
       refine andH ⟨hB.ci, hB.ci⟩ fun hS0 => ?_
       clear hA; have hA := hB; clear hB
       try go_frame
       refine wpAnyH_one (i := 9) (by kernel_rfl) ?_
       refine stZ 9 b16 0 [.int .i64 xe, .int .u64 xn, .bool xg] hA ?_
       intro w3 hB
       simp only [uA] at hB
       refine andH ⟨hB.ci, hB.ci⟩ fun hS0 => ?_
       clear hA; have hA := hB; clear hB
       try go_frame
       refine wpAnyH_done (by kernel_rfl) ?_ _
       try go_frame
       clear hS0
       have hF := hA.facts; (try simp only [uZ] at hA hF)
       go_wp2_with fail
       go_meet
       case rel => exact ⟨b15, b16, s2, d2, rfl, rfl, hR2'.out, hA.pick pZ⟩
  case rest =>
   obtain ⟨b15, b16, s4, d4, rfl, rfl, hR4, hB⟩ := hcut
   clear hF hA; have hA := hB; clear hB
   have hR4' := Lib.hid hR4
   clear hR4
   have hF := hA.facts; (try simp only [uZ] at hA hF)
   obtain ⟨a0, a1, a2⟩ := cells3 (hA.get (A := Part.cells b13 [.int .i64 xe, .int .u64 xn, .bool xg] 48) sZ)
   obtain ⟨c0, c1, c2⟩ := cells3 (hA.get (A := Part.cells b16 [.int .i64 xe, .int .u64 xn, .bool xg] 48) sZ)
   obtain ⟨d0, d1, d2⟩ := cells3 (hA.get (A := Part.cells b14 [.int .i64 ye, .int .u64 yn, .bool yg] 48) sZ)
   obtain ⟨e0, e1, e2⟩ := cells3 (hA.get (A := Part.cells b15 [.int .i64 ye, .int .u64 yn, .bool yg] 48) sZ)
   go_wp2_with (first | ((with_reducible show wpList _ _ _ ({ dst := some 58, op := Op.load 48 _, type := _, pos := _, after := _, guard := _ } :: _) _ _); refine wpList_loadRow_at (vs := [.int .i64 xe, .int .u64 xn, .bool xg]) rfl rfl (by (try simp only [Act.eval, eV]) <;> exact rfl) (fun k u hk => by rw [Nat.zero_add]; exact ((hA.get (A := Part.cells b13 [.int .i64 xe, .int .u64 xn, .bool xg] 48) sZ : BlockIs _ _ _ _).cell k).trans hk) (by kernel_rfl) (by kernel_rfl) ?_) | ((with_reducible show wpList _ _ _ ({ dst := some 59, op := Op.load 48 _, type := _, pos := _, after := _, guard := _ } :: _) _ _); refine wpList_loadRow_at (vs := [.int .i64 xe, .int .u64 xn, .bool xg]) rfl rfl (by (try simp only [Act.eval, eV]) <;> exact rfl) (fun k u hk => by rw [Nat.zero_add]; exact ((hA.get (A := Part.cells b16 [.int .i64 xe, .int .u64 xn, .bool xg] 48) sZ : BlockIs _ _ _ _).cell k).trans hk) (by kernel_rfl) (by kernel_rfl) ?_) | ((with_reducible refine gst ?_); refine wT hA ?_; clear hF hA; intro w1 hA hF; (try simp only [uZ] at hA hF)) | ((with_reducible refine gbx ?_); refine wC hA ?_; clear hF hA; intro b1 w1 hA hb1 hF; (try simp only [uZ] at hA hF)))
   refine (hby1'.out s3 d3 hR3'.out _ (hA.sep1 (A := TabP t p m s3 d3) sZ)).mono ?_
   clear a0 a1 a2 c0 c1 c2 d0 d1 d2 e0 e1 e2
   rintro e w1 ⟨v1, l1, rfl, hb1, hl1, hT⟩
   have hB := hA.call1 (A := TabP t p m s3 d3) sZ hT
   clear hT
   clear hF hA; have hA := hB; clear hB
   try simp only [uA] at hA
   have hF := hA.facts; (try simp only [uZ] at hA hF)
   go_wp2_with (first | ((with_reducible refine gst ?_); refine wT hA ?_; clear hF hA; intro w1 hA hF; (try simp only [uZ] at hA hF)) | ((with_reducible refine gbx ?_); refine wC hA ?_; clear hF hA; intro b1 w1 hA hb1 hF; (try simp only [uZ] at hA hF)))
   refine (hby2'.out s4 d4 hR4'.out _ (hA.sep1 (A := TabP t2 p2 m2 s4 d4) sZ)).mono ?_
   rintro e w1 ⟨v2, l2, rfl, hb2, hl2, hT⟩
   have hB := hA.call1 (A := TabP t2 p2 m2 s4 d4) sZ hT
   clear hT
   clear hF hA; have hA := hB; clear hB
   try simp only [uA] at hA
   have hF := hA.facts; (try simp only [uZ] at hA hF)
   have hll := bytes_same hteq'.out.L hb1 hb2
   subst hll
   clear hb1 hb2 hl2
   go_wp2_with (first | ((with_reducible refine gst ?_); refine wT hA ?_; clear hF hA; intro w1 hA hF; (try simp only [uZ] at hA hF)) | ((with_reducible refine gbx ?_); refine wC hA ?_; clear hF hA; intro b1 w1 hA hb1 hF; (try simp only [uZ] at hA hF)))
   refine (Wire.same_any (hA.sep2 (A := Wire.rowY v1 l1) (B := Wire.rowY v2 l1) sZ sZ) (by omega)).mono ?_
   rw [decide_eq_true (rfl : l1 = l1)]
   rintro e w1 ⟨rfl, hT⟩
   have hB := hA.call2 (A := Wire.rowY v1 l1) (B := Wire.rowY v2 l1) sZ sZ hT
   clear hT
   clear hF hA; have hA := hB; clear hB
   try simp only [uA] at hA
   have hF := hA.facts; (try simp only [uZ] at hA hF)
   go_wp2_with (first | ((with_reducible refine gst ?_); refine wT hA ?_; clear hF hA; intro w1 hA hF; (try simp only [uZ] at hA hF)) | ((with_reducible refine gbx ?_); refine wC hA ?_; clear hF hA; intro b1 w1 hA hb1 hF; (try simp only [uZ] at hA hF)))
   go_ret
   exact ⟨rfl, below_old hA sZ⟩
end Go.Proofs.YtpebabaigakagaaGreatDoor.Tab
end
