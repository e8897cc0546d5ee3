/- IpC, RegJ, joined. -/
import Derived.Test.YtgbpfgdjnhbcgaaGreatDoorQ17
set_option linter.unusedSimpArgs false
set_option linter.unusedVariables false
set_option maxRecDepth 100000
set_option maxHeartbeats 16000000
section
namespace Go.Proofs.YtgbpfgdjnhbcgaaGreatDoor.Ix
open Go.RowKit
open Path (bl rightB overB)
open Attr (A8 rightI)
open Cmd (Cm through0 idR_any footR_is keyC footC fD)
attribute [-go_sem] run_eql_struct run_neq_struct run_eqGuard_agg
theorem n_flat (l : List En) : ∀ (i : Nat) (hi : i < l.length) (j : Nat), j < 10 → (l.flatMap En.cells)[i * 10 + j]? = l[i].cells[j]? := by
 induction l with
 | nil => intro i hi; exact absurd hi (by simp)
 | cons e l ih =>
  intro i hi j hj
  rw [List.flatMap_cons]
  cases i with
  | zero => rw [List.getElem?_append_left (by rw [enL_len]; omega)]; simp
  | succ i =>
   rw [List.getElem?_append_right (by rw [enL_len]; omega), enL_len, show (i + 1) * 10 + j - 10 = i * 10 + j by omega, ih i (by simpa using hi) j hj]
   rfl
theorem n_cells {c : List Value} {l : List En} (ht : c.take (l.length * 10) = l.flatMap En.cells) {i : Nat} (hi : i < l.length) : ∀ j, j < 10 → c[i * 10 + j]? = l[i].cells[j]? := fun j hj => by
 rw [← n_flat l i hi j hj, ← ht, List.getElem?_take_of_lt (by omega)]
theorem ask_step (g : Bool) (k : ByteArray × Int) {l : List En} {i : Nat} (hi : i < l.length) : askF g k (l.take (i + 1)) = askStep g k (askF g k (l.take i)) l[i] := by
 rw [List.take_succ_eq_append_getElem hi, askF_snoc]
theorem cut_past {s : Int} (h0 : 0 ≤ s) (h1 : s ≤ 1073741824) : max s (min s 1073741823 + 1) = cutI (s + 1) := by rw [cut_min]; omega
theorem step_no {g : Bool} {k : ByteArray × Int} {o : A8} {e : En} (h : g = false ∨ clashK k (e.foot, e.num) = false) : askStep g k o e = o := by
 unfold askStep
 rcases h with h | h <;> simp [h]
theorem step_yes {k : ByteArray × Int} {o0 o1 o2 o3 o4 o5 o6 o7 : Int} {f : ByteArray} {n e0 e1 e2 e3 e4 e5 e6 e7 : Int} (h : clashK k (f, n) = true) (h0 : 0 ≤ e0) (h1 : e0 ≤ 1073741824) :
 askStep true k ⟨o0, o1, o2, o3, o4, o5, o6, o7⟩ ⟨f, n, ⟨e0, e1, e2, e3, e4, e5, e6, e7⟩⟩ = A8.merge ⟨o0, o1, o2, o3, o4, o5, o6, o7⟩ ⟨cutI (e0 + 1), e1, e2, e3, e4, e5, e6, e7⟩ := by
 unfold askStep A8.past
 simp only [h, Bool.and_self, if_true, if_pos h0, cut_past h0 h1]
theorem fD_size {c : Cm} (hf : c.foot.size ≤ 1000) (hp : c.path.size ≤ 1000) : (fD c).size ≤ 1000 := by
 unfold fD
 split
 · unfold footC
   split
   · split
     · split <;> assumption
     · show (0 : Nat) ≤ 1000; omega
   · show (0 : Nat) ≤ 1000; omega
 · show (0 : Nat) ≤ 1000; omega
def AsRel (w : World) (v : Value) (l : List En) (g : Bool) (ff : ByteArray) (num : Int) (r t : Int) (bC bI b6 b7 : Nat) (cC : List Value) (k : Nat) (u : Value) (wr : World) : Prop :=
 ∃ i : Nat, u = .int .i64 i ∧ i + k = l.length ∧ At [rowN v l] w [Part.cells b7 (askF g (ff, num) (l.take i)).cells 51, Part.cells b6 A8.zero.cells 51, Part.cells bI [.int .i64 r, .int .i64 t] 59, Part.cells bC cC 57, rowN v l] wr
theorem ask_res (c : Cm) (r t : Int) (l : List En) : askE l (keyC c) r t = (askF ((footC c).2 && rightI r t) (fD c, c.num) l).own r t := by
 unfold askE keyC fD
 by_cases hq : (footC c).2 = true
 · simp [hq]
 · have : (footC c).2 = false := by simpa using hq
   simp [this, askF_false]
theorem askR_any {w : World} {v : Value} {l : List En} (h : Sep [rowN v l] w) (c : Cm) (hf : c.foot.size ≤ 1000) (hp : c.path.size ≤ 1000) (r t : Int) (hl : l.length ≤ 1000000) (hfl0 : FineL l) :
 Calls Tryz.prog 14 #[v, c.val, .agg #[.int .i64 r, .int .i64 t]] w fun e w' => e = .returned (askE l (keyC c) r t).val ∧ At [rowN v l] w [rowN v l] w' := by
 have hA := At.start h
 clear h
 have hfl := Lib.hid hfl0
 clear hfl0
 obtain ⟨lx, lc, rfl, _, _, _⟩ := hA.row_form (v := v) (xs := l.flatMap En.cells) sZ
 have hF := hA.facts
 have hfo := fun w => footR_is c hf hp w
 have hri := fun w => idR_any r t w
 have hff := fD_size hf hp
 have hov := fun (f1 : ByteArray) (q : f1.size ≤ 1000) w => Path.overlapR_any (fD c) f1 w (by omega) (by omega)
 rw [ask_res]
 obtain ⟨ri, hrid⟩ : ∃ ri, rightI r t = ri := ⟨_, rfl⟩
 have hown : ∀ x : A8, x.own r t = if ri = true then x.set r.toNat t else x := fun x => by unfold A8.own; rw [hrid]
 rw [hown]
 have hq7 := Lib.hid (fun (z : ri = true) => show r = 0 ∨ r = 1 ∨ r = 2 ∨ r = 3 ∨ r = 4 ∨ r = 5 ∨ r = 6 by have := Attr.rightI_iff.1 (hrid.trans z); omega)
 rw [hrid] at hri ⊢
 clear hown hrid
 generalize fD c = ff at *
 generalize (footC c).2 = fb at *
 obtain ⟨kind, num, foot, req, path, mode, n, time⟩ := c
 simp only [Cm.val] at *
 cases fb <;> cases ri
 · skip
   simp only [Bool.and_self, Bool.and_false, Bool.false_and, if_true, if_false, Bool.false_eq_true]
   have hF := hA.facts; (try simp only [uZ] at hA hF)
   go_enter Tryz.func14, Tryz.ntmps14
   go_wp2_with (first | (((with_reducible show wpList _ _ _ ({ dst := some 4, op := Op.box _ _, type := _, pos := _, after := _, guard := _ } :: _) _ _)); ((with_reducible refine gbx ?_); refine wH 57 [.int .i64 kind, .int .u64 num, .string foot, .int .u64 req, .string path, .int .i64 mode, .int .u64 n, .int .i64 time] hA ?_; clear hF hA; intro bC w1 hA hbC hF; (try simp only [uZ] at hA hF))) | (((with_reducible show wpList _ _ _ ({ dst := some 5, op := Op.box _ _, type := _, pos := _, after := _, guard := _ } :: _) _ _)); ((with_reducible refine gbx ?_); refine wH 59 [.int .i64 r, .int .i64 t] hA ?_; clear hF hA; intro bI w1 hA hbI hF; (try simp only [uZ] at hA hF))) | (((with_reducible show wpList _ _ _ ({ dst := some 6, op := Op.alloc _, type := _, pos := _, after := _, guard := _ } :: _) _ _)); ((with_reducible refine gal ?_); refine wG 51 [.int .i64 0, .int .i64 0, .int .i64 0, .int .i64 0, .int .i64 0, .int .i64 0, .int .i64 0, .int .i64 0] hA ?_; clear hF hA; intro b6 w1 hA hb6 hF; (try simp only [uZ] at hA hF))) | (((with_reducible show wpList _ _ _ ({ dst := some 7, op := Op.alloc _, type := _, pos := _, after := _, guard := _ } :: _) _ _)); ((with_reducible refine gal ?_); refine wG 51 [.int .i64 0, .int .i64 0, .int .i64 0, .int .i64 0, .int .i64 0, .int .i64 0, .int .i64 0, .int .i64 0] hA ?_; clear hF hA; intro b7 w1 hA hb7 hF; (try simp only [uZ] at hA hF))) | ((with_reducible refine gst ?_); refine wT hA ?_; clear hF hA; intro w1 hA hF; (try simp only [uZ] at hA hF)) | ((with_reducible refine gbx ?_); refine wC hA ?_; clear hF hA; intro b1 w1 hA hb1 hF; (try simp only [uZ] at hA hF)))
   refine (hfo _).mono ?_
   clear hfo
   rintro e w1 ⟨rfl, hx⟩
   have hB := hA.ext hx
   clear hF hA hx; have hA := hB; clear hB
   have hF := hA.facts; (try simp only [uZ] at hA hF)
   go_wp2_with (first | ((with_reducible refine gst ?_); refine wT hA ?_; clear hF hA; intro w1 hA hF; (try simp only [uZ] at hA hF)) | ((with_reducible refine gbx ?_); refine wC hA ?_; clear hF hA; intro b1 w1 hA hb1 hF; (try simp only [uZ] at hA hF)))
   try go_frame
   go_loopg [10] l.length (AsRel w (.slice lx l.length lc) l false ff num r t bC bI b6 b7 [.int .i64 kind, .int .u64 num, .string foot, .int .u64 req, .string path, .int .i64 mode, .int .u64 n, .int .i64 time])
   case atStart => exact ⟨0, rfl, by omega, hA.pick pZ⟩
   case round =>
    obtain ⟨i, rfl, hik, hB⟩ := hrel
    clear hF hA; have hA := hB; clear hB
    by_cases hi : i < l.length
    · obtain ⟨g, c, hax, hcap, hcm, hcl, hct, hB⟩ := hA.row_open (ax := lx) (cap := lc) (n := l.length) (xs := l.flatMap En.cells) sZ (by omega)
      clear hA; have hA := hB; clear hB
      subst hax
      have hd := n_cells hct hi
      have hst := ask_step false (ff, num) hi
      have hfe := hfl.out l[i] (List.getElem_mem hi)
      generalize askF false (ff, num) (l.take i) = o at *
      generalize l[i] = x at *
      obtain ⟨o0, o1, o2, o3, o4, o5, o6, o7⟩ := o
      obtain ⟨f1, n1, ⟨e0, e1, e2, e3, e4, e5, e6, e7⟩⟩ := x
      simp only [A8.cells, A8.zero, En.cells] at hA hd
      have hst' := Lib.hid hst
      have hcap' := Lib.hid hcap
      clear hst
      rw [step_no (.inl rfl)] at hst'
      clear hd
      have hF := hA.facts; (try simp only [uZ] at hA hF)
      go_wp2_with (first | ((with_reducible refine gst ?_); refine wT hA ?_; clear hF hA; intro w1 hA hF; (try simp only [uZ] at hA hF)) | ((with_reducible refine gbx ?_); refine wC hA ?_; clear hF hA; intro b1 w1 hA hb1 hF; (try simp only [uZ] at hA hF)))
      try go_frame
      refine cl5 hA ?_; clear hF hA; intro w1 hA hF; (try simp only [uZ] at hA hF)
      go_wp2_with (first | ((with_reducible refine gst ?_); refine wT hA ?_; clear hF hA; intro w1 hA hF; (try simp only [uZ] at hA hF)) | ((with_reducible refine gbx ?_); refine wC hA ?_; clear hF hA; intro b1 w1 hA hb1 hF; (try simp only [uZ] at hA hF)))
      go_roundg (gk - 1)
      case measure => omega
      case rel =>
       refine ⟨i + 1, by simp, by omega, ?_⟩
       rw [hst'.out]
       exact (hA.row_shut (xs := l.flatMap En.cells) (n := l.length) (size := 10) sZ hcl hcap hcm hct).pick pZ
    · have hli : l.take i = l := List.take_of_length_le (by omega)
      rw [hli] at hA
      obtain ⟨o, ho⟩ : ∃ o, askF false (ff, num) l = o := ⟨_, rfl⟩
      rw [ho] at hA
      have ho' := Lib.hid ho
      clear ho
      obtain ⟨o0, o1, o2, o3, o4, o5, o6, o7⟩ := o
      simp only [A8.cells, A8.zero] at hA
      clear hli
      have hF := hA.facts; (try simp only [uZ] at hA hF)
      go_wp2_with (first | ((with_reducible refine gst ?_); refine wT hA ?_; clear hF hA; intro w1 hA hF; (try simp only [uZ] at hA hF)) | ((with_reducible refine gbx ?_); refine wC hA ?_; clear hF hA; intro b1 w1 hA hb1 hF; (try simp only [uZ] at hA hF)))
      refine (hri _).mono ?_
      clear hri
      rintro e w1 ⟨rfl, hx⟩
      have hB := hA.ext hx
      clear hF hA hx; have hA := hB; clear hB
      have hF := hA.facts; (try simp only [uZ] at hA hF)
      go_wp2_with (first | ((with_reducible refine gst ?_); refine wT hA ?_; clear hF hA; intro w1 hA hF; (try simp only [uZ] at hA hF)) | ((with_reducible refine gbx ?_); refine wC hA ?_; clear hF hA; intro b1 w1 hA hb1 hF; (try simp only [uZ] at hA hF)))
      refine bodyPost_ret (v := .agg #[.int .i64 o0, .int .i64 o1, .int .i64 o2, .int .i64 o3, .int .i64 o4, .int .i64 o5, .int .i64 o6, .int .i64 o7]) (by simp [results, Tryz.results14, go_sem, hF]) rfl ⟨by rw [ho'.out]; rfl, hA.pick pZ⟩
 · skip
   simp only [Bool.and_self, Bool.and_false, Bool.false_and, if_true, if_false, Bool.false_eq_true]
   have hq := hq7.out rfl
   clear hq7
   have hq7 := Lib.hid hq
   clear hq
   have hF := hA.facts; (try simp only [uZ] at hA hF)
   go_enter Tryz.func14, Tryz.ntmps14
   go_wp2_with (first | (((with_reducible show wpList _ _ _ ({ dst := some 4, op := Op.box _ _, type := _, pos := _, after := _, guard := _ } :: _) _ _)); ((with_reducible refine gbx ?_); refine wH 57 [.int .i64 kind, .int .u64 num, .string foot, .int .u64 req, .string path, .int .i64 mode, .int .u64 n, .int .i64 time] hA ?_; clear hF hA; intro bC w1 hA hbC hF; (try simp only [uZ] at hA hF))) | (((with_reducible show wpList _ _ _ ({ dst := some 5, op := Op.box _ _, type := _, pos := _, after := _, guard := _ } :: _) _ _)); ((with_reducible refine gbx ?_); refine wH 59 [.int .i64 r, .int .i64 t] hA ?_; clear hF hA; intro bI w1 hA hbI hF; (try simp only [uZ] at hA hF))) | (((with_reducible show wpList _ _ _ ({ dst := some 6, op := Op.alloc _, type := _, pos := _, after := _, guard := _ } :: _) _ _)); ((with_reducible refine gal ?_); refine wG 51 [.int .i64 0, .int .i64 0, .int .i64 0, .int .i64 0, .int .i64 0, .int .i64 0, .int .i64 0, .int .i64 0] hA ?_; clear hF hA; intro b6 w1 hA hb6 hF; (try simp only [uZ] at hA hF))) | (((with_reducible show wpList _ _ _ ({ dst := some 7, op := Op.alloc _, type := _, pos := _, after := _, guard := _ } :: _) _ _)); ((with_reducible refine gal ?_); refine wG 51 [.int .i64 0, .int .i64 0, .int .i64 0, .int .i64 0, .int .i64 0, .int .i64 0, .int .i64 0, .int .i64 0] hA ?_; clear hF hA; intro b7 w1 hA hb7 hF; (try simp only [uZ] at hA hF))) | ((with_reducible refine gst ?_); refine wT hA ?_; clear hF hA; intro w1 hA hF; (try simp only [uZ] at hA hF)) | ((with_reducible refine gbx ?_); refine wC hA ?_; clear hF hA; intro b1 w1 hA hb1 hF; (try simp only [uZ] at hA hF)))
   refine (hfo _).mono ?_
   clear hfo
   rintro e w1 ⟨rfl, hx⟩
   have hB := hA.ext hx
   clear hF hA hx; have hA := hB; clear hB
   have hF := hA.facts; (try simp only [uZ] at hA hF)
   go_wp2_with (first | ((with_reducible refine gst ?_); refine wT hA ?_; clear hF hA; intro w1 hA hF; (try simp only [uZ] at hA hF)) | ((with_reducible refine gbx ?_); refine wC hA ?_; clear hF hA; intro b1 w1 hA hb1 hF; (try simp only [uZ] at hA hF)))
   try go_frame
   go_loopg [10] l.length (AsRel w (.slice lx l.length lc) l false ff num r t bC bI b6 b7 [.int .i64 kind, .int .u64 num, .string foot, .int .u64 req, .string path, .int .i64 mode, .int .u64 n, .int .i64 time])
   case atStart => exact ⟨0, rfl, by omega, hA.pick pZ⟩
   case round =>
    obtain ⟨i, rfl, hik, hB⟩ := hrel
    clear hF hA; have hA := hB; clear hB
    by_cases hi : i < l.length
    · obtain ⟨g, c, hax, hcap, hcm, hcl, hct, hB⟩ := hA.row_open (ax := lx) (cap := lc) (n := l.length) (xs := l.flatMap En.cells) sZ (by omega)
      clear hA; have hA := hB; clear hB
      subst hax
      have hd := n_cells hct hi
      have hst := ask_step false (ff, num) hi
      have hfe := hfl.out l[i] (List.getElem_mem hi)
      generalize askF false (ff, num) (l.take i) = o at *
      generalize l[i] = x at *
      obtain ⟨o0, o1, o2, o3, o4, o5, o6, o7⟩ := o
      obtain ⟨f1, n1, ⟨e0, e1, e2, e3, e4, e5, e6, e7⟩⟩ := x
      simp only [A8.cells, A8.zero, En.cells] at hA hd
      have hst' := Lib.hid hst
      have hcap' := Lib.hid hcap
      clear hst
      rw [step_no (.inl rfl)] at hst'
      clear hd
      have hF := hA.facts; (try simp only [uZ] at hA hF)
      go_wp2_with (first | ((with_reducible refine gst ?_); refine wT hA ?_; clear hF hA; intro w1 hA hF; (try simp only [uZ] at hA hF)) | ((with_reducible refine gbx ?_); refine wC hA ?_; clear hF hA; intro b1 w1 hA hb1 hF; (try simp only [uZ] at hA hF)))
      try go_frame
      refine cl5 hA ?_; clear hF hA; intro w1 hA hF; (try simp only [uZ] at hA hF)
      go_wp2_with (first | ((with_reducible refine gst ?_); refine wT hA ?_; clear hF hA; intro w1 hA hF; (try simp only [uZ] at hA hF)) | ((with_reducible refine gbx ?_); refine wC hA ?_; clear hF hA; intro b1 w1 hA hb1 hF; (try simp only [uZ] at hA hF)))
      go_roundg (gk - 1)
      case measure => omega
      case rel =>
       refine ⟨i + 1, by simp, by omega, ?_⟩
       rw [hst'.out]
       exact (hA.row_shut (xs := l.flatMap En.cells) (n := l.length) (size := 10) sZ hcl hcap hcm hct).pick pZ
    · have hli : l.take i = l := List.take_of_length_le (by omega)
      rw [hli] at hA
      obtain ⟨o, ho⟩ : ∃ o, askF false (ff, num) l = o := ⟨_, rfl⟩
      rw [ho] at hA
      have ho' := Lib.hid ho
      clear ho
      obtain ⟨o0, o1, o2, o3, o4, o5, o6, o7⟩ := o
      simp only [A8.cells, A8.zero] at hA
      clear hli
      have hF := hA.facts; (try simp only [uZ] at hA hF)
      go_wp2_with (first | ((with_reducible refine gst ?_); refine wT hA ?_; clear hF hA; intro w1 hA hF; (try simp only [uZ] at hA hF)) | ((with_reducible refine gbx ?_); refine wC hA ?_; clear hF hA; intro b1 w1 hA hb1 hF; (try simp only [uZ] at hA hF)))
      refine (hri _).mono ?_
      clear hri
      rintro e w1 ⟨rfl, hx⟩
      have hB := hA.ext hx
      clear hF hA hx; have hA := hB; clear hB
      have hF := hA.facts; (try simp only [uZ] at hA hF)
      rcases hq7.out with rfl | rfl | rfl | rfl | rfl | rfl | rfl
      · go_wp2_with (first | ((with_reducible refine gst ?_); refine wT hA ?_; clear hF hA; intro w1 hA hF; (try simp only [uZ] at hA hF)) | ((with_reducible refine gbx ?_); refine wC hA ?_; clear hF hA; intro b1 w1 hA hb1 hF; (try simp only [uZ] at hA hF)))
        refine bodyPost_ret (v := .agg #[.int .i64 o0, .int .i64 t, .int .i64 o2, .int .i64 o3, .int .i64 o4, .int .i64 o5, .int .i64 o6, .int .i64 o7]) (by simp [results, Tryz.results14, go_sem, hF]) rfl ⟨by rw [ho'.out]; rfl, hA.pick pZ⟩
      · go_wp2_with (first | ((with_reducible refine gst ?_); refine wT hA ?_; clear hF hA; intro w1 hA hF; (try simp only [uZ] at hA hF)) | ((with_reducible refine gbx ?_); refine wC hA ?_; clear hF hA; intro b1 w1 hA hb1 hF; (try simp only [uZ] at hA hF)))
        refine bodyPost_ret (v := .agg #[.int .i64 o0, .int .i64 o1, .int .i64 t, .int .i64 o3, .int .i64 o4, .int .i64 o5, .int .i64 o6, .int .i64 o7]) (by simp [results, Tryz.results14, go_sem, hF]) rfl ⟨by rw [ho'.out]; rfl, hA.pick pZ⟩
      · go_wp2_with (first | ((with_reducible refine gst ?_); refine wT hA ?_; clear hF hA; intro w1 hA hF; (try simp only [uZ] at hA hF)) | ((with_reducible refine gbx ?_); refine wC hA ?_; clear hF hA; intro b1 w1 hA hb1 hF; (try simp only [uZ] at hA hF)))
        refine bodyPost_ret (v := .agg #[.int .i64 o0, .int .i64 o1, .int .i64 o2, .int .i64 t, .int .i64 o4, .int .i64 o5, .int .i64 o6, .int .i64 o7]) (by simp [results, Tryz.results14, go_sem, hF]) rfl ⟨by rw [ho'.out]; rfl, hA.pick pZ⟩
      · go_wp2_with (first | ((with_reducible refine gst ?_); refine wT hA ?_; clear hF hA; intro w1 hA hF; (try simp only [uZ] at hA hF)) | ((with_reducible refine gbx ?_); refine wC hA ?_; clear hF hA; intro b1 w1 hA hb1 hF; (try simp only [uZ] at hA hF)))
        refine bodyPost_ret (v := .agg #[.int .i64 o0, .int .i64 o1, .int .i64 o2, .int .i64 o3, .int .i64 t, .int .i64 o5, .int .i64 o6, .int .i64 o7]) (by simp [results, Tryz.results14, go_sem, hF]) rfl ⟨by rw [ho'.out]; rfl, hA.pick pZ⟩
      · go_wp2_with (first | ((with_reducible refine gst ?_); refine wT hA ?_; clear hF hA; intro w1 hA hF; (try simp only [uZ] at hA hF)) | ((with_reducible refine gbx ?_); refine wC hA ?_; clear hF hA; intro b1 w1 hA hb1 hF; (try simp only [uZ] at hA hF)))
        refine bodyPost_ret (v := .agg #[.int .i64 o0, .int .i64 o1, .int .i64 o2, .int .i64 o3, .int .i64 o4, .int .i64 t, .int .i64 o6, .int .i64 o7]) (by simp [results, Tryz.results14, go_sem, hF]) rfl ⟨by rw [ho'.out]; rfl, hA.pick pZ⟩
      · go_wp2_with (first | ((with_reducible refine gst ?_); refine wT hA ?_; clear hF hA; intro w1 hA hF; (try simp only [uZ] at hA hF)) | ((with_reducible refine gbx ?_); refine wC hA ?_; clear hF hA; intro b1 w1 hA hb1 hF; (try simp only [uZ] at hA hF)))
        refine bodyPost_ret (v := .agg #[.int .i64 o0, .int .i64 o1, .int .i64 o2, .int .i64 o3, .int .i64 o4, .int .i64 o5, .int .i64 t, .int .i64 o7]) (by simp [results, Tryz.results14, go_sem, hF]) rfl ⟨by rw [ho'.out]; rfl, hA.pick pZ⟩
      · go_wp2_with (first | ((with_reducible refine gst ?_); refine wT hA ?_; clear hF hA; intro w1 hA hF; (try simp only [uZ] at hA hF)) | ((with_reducible refine gbx ?_); refine wC hA ?_; clear hF hA; intro b1 w1 hA hb1 hF; (try simp only [uZ] at hA hF)))
        refine bodyPost_ret (v := .agg #[.int .i64 o0, .int .i64 o1, .int .i64 o2, .int .i64 o3, .int .i64 o4, .int .i64 o5, .int .i64 o6, .int .i64 t]) (by simp [results, Tryz.results14, go_sem, hF]) rfl ⟨by rw [ho'.out]; rfl, hA.pick pZ⟩
 · skip
   simp only [Bool.and_self, Bool.and_false, Bool.false_and, if_true, if_false, Bool.false_eq_true]
   have hF := hA.facts; (try simp only [uZ] at hA hF)
   go_enter Tryz.func14, Tryz.ntmps14
   go_wp2_with (first | (((with_reducible show wpList _ _ _ ({ dst := some 4, op := Op.box _ _, type := _, pos := _, after := _, guard := _ } :: _) _ _)); ((with_reducible refine gbx ?_); refine wH 57 [.int .i64 kind, .int .u64 num, .string foot, .int .u64 req, .string path, .int .i64 mode, .int .u64 n, .int .i64 time] hA ?_; clear hF hA; intro bC w1 hA hbC hF; (try simp only [uZ] at hA hF))) | (((with_reducible show wpList _ _ _ ({ dst := some 5, op := Op.box _ _, type := _, pos := _, after := _, guard := _ } :: _) _ _)); ((with_reducible refine gbx ?_); refine wH 59 [.int .i64 r, .int .i64 t] hA ?_; clear hF hA; intro bI w1 hA hbI hF; (try simp only [uZ] at hA hF))) | (((with_reducible show wpList _ _ _ ({ dst := some 6, op := Op.alloc _, type := _, pos := _, after := _, guard := _ } :: _) _ _)); ((with_reducible refine gal ?_); refine wG 51 [.int .i64 0, .int .i64 0, .int .i64 0, .int .i64 0, .int .i64 0, .int .i64 0, .int .i64 0, .int .i64 0] hA ?_; clear hF hA; intro b6 w1 hA hb6 hF; (try simp only [uZ] at hA hF))) | (((with_reducible show wpList _ _ _ ({ dst := some 7, op := Op.alloc _, type := _, pos := _, after := _, guard := _ } :: _) _ _)); ((with_reducible refine gal ?_); refine wG 51 [.int .i64 0, .int .i64 0, .int .i64 0, .int .i64 0, .int .i64 0, .int .i64 0, .int .i64 0, .int .i64 0] hA ?_; clear hF hA; intro b7 w1 hA hb7 hF; (try simp only [uZ] at hA hF))) | ((with_reducible refine gst ?_); refine wT hA ?_; clear hF hA; intro w1 hA hF; (try simp only [uZ] at hA hF)) | ((with_reducible refine gbx ?_); refine wC hA ?_; clear hF hA; intro b1 w1 hA hb1 hF; (try simp only [uZ] at hA hF)))
   refine (hfo _).mono ?_
   clear hfo
   rintro e w1 ⟨rfl, hx⟩
   have hB := hA.ext hx
   clear hF hA hx; have hA := hB; clear hB
   have hF := hA.facts; (try simp only [uZ] at hA hF)
   go_wp2_with (first | ((with_reducible refine gst ?_); refine wT hA ?_; clear hF hA; intro w1 hA hF; (try simp only [uZ] at hA hF)) | ((with_reducible refine gbx ?_); refine wC hA ?_; clear hF hA; intro b1 w1 hA hb1 hF; (try simp only [uZ] at hA hF)))
   try go_frame
   go_loopg [10] l.length (AsRel w (.slice lx l.length lc) l false ff num r t bC bI b6 b7 [.int .i64 kind, .int .u64 num, .string foot, .int .u64 req, .string path, .int .i64 mode, .int .u64 n, .int .i64 time])
   case atStart => exact ⟨0, rfl, by omega, hA.pick pZ⟩
   case round =>
    obtain ⟨i, rfl, hik, hB⟩ := hrel
    clear hF hA; have hA := hB; clear hB
    by_cases hi : i < l.length
    · obtain ⟨g, c, hax, hcap, hcm, hcl, hct, hB⟩ := hA.row_open (ax := lx) (cap := lc) (n := l.length) (xs := l.flatMap En.cells) sZ (by omega)
      clear hA; have hA := hB; clear hB
      subst hax
      have hd := n_cells hct hi
      have hst := ask_step false (ff, num) hi
      have hfe := hfl.out l[i] (List.getElem_mem hi)
      generalize askF false (ff, num) (l.take i) = o at *
      generalize l[i] = x at *
      obtain ⟨o0, o1, o2, o3, o4, o5, o6, o7⟩ := o
      obtain ⟨f1, n1, ⟨e0, e1, e2, e3, e4, e5, e6, e7⟩⟩ := x
      simp only [A8.cells, A8.zero, En.cells] at hA hd
      have hst' := Lib.hid hst
      have hcap' := Lib.hid hcap
      clear hst
      rw [step_no (.inl rfl)] at hst'
      clear hd
      have hF := hA.facts; (try simp only [uZ] at hA hF)
      go_wp2_with (first | ((with_reducible refine gst ?_); refine wT hA ?_; clear hF hA; intro w1 hA hF; (try simp only [uZ] at hA hF)) | ((with_reducible refine gbx ?_); refine wC hA ?_; clear hF hA; intro b1 w1 hA hb1 hF; (try simp only [uZ] at hA hF)))
      try go_frame
      refine cl5 hA ?_; clear hF hA; intro w1 hA hF; (try simp only [uZ] at hA hF)
      go_wp2_with (first | ((with_reducible refine gst ?_); refine wT hA ?_; clear hF hA; intro w1 hA hF; (try simp only [uZ] at hA hF)) | ((with_reducible refine gbx ?_); refine wC hA ?_; clear hF hA; intro b1 w1 hA hb1 hF; (try simp only [uZ] at hA hF)))
      go_roundg (gk - 1)
      case measure => omega
      case rel =>
       refine ⟨i + 1, by simp, by omega, ?_⟩
       rw [hst'.out]
       exact (hA.row_shut (xs := l.flatMap En.cells) (n := l.length) (size := 10) sZ hcl hcap hcm hct).pick pZ
    · have hli : l.take i = l := List.take_of_length_le (by omega)
      rw [hli] at hA
      obtain ⟨o, ho⟩ : ∃ o, askF false (ff, num) l = o := ⟨_, rfl⟩
      rw [ho] at hA
      have ho' := Lib.hid ho
      clear ho
      obtain ⟨o0, o1, o2, o3, o4, o5, o6, o7⟩ := o
      simp only [A8.cells, A8.zero] at hA
      clear hli
      have hF := hA.facts; (try simp only [uZ] at hA hF)
      go_wp2_with (first | ((with_reducible refine gst ?_); refine wT hA ?_; clear hF hA; intro w1 hA hF; (try simp only [uZ] at hA hF)) | ((with_reducible refine gbx ?_); refine wC hA ?_; clear hF hA; intro b1 w1 hA hb1 hF; (try simp only [uZ] at hA hF)))
      refine (hri _).mono ?_
      clear hri
      rintro e w1 ⟨rfl, hx⟩
      have hB := hA.ext hx
      clear hF hA hx; have hA := hB; clear hB
      have hF := hA.facts; (try simp only [uZ] at hA hF)
      go_wp2_with (first | ((with_reducible refine gst ?_); refine wT hA ?_; clear hF hA; intro w1 hA hF; (try simp only [uZ] at hA hF)) | ((with_reducible refine gbx ?_); refine wC hA ?_; clear hF hA; intro b1 w1 hA hb1 hF; (try simp only [uZ] at hA hF)))
      refine bodyPost_ret (v := .agg #[.int .i64 o0, .int .i64 o1, .int .i64 o2, .int .i64 o3, .int .i64 o4, .int .i64 o5, .int .i64 o6, .int .i64 o7]) (by simp [results, Tryz.results14, go_sem, hF]) rfl ⟨by rw [ho'.out]; rfl, hA.pick pZ⟩
 · skip
   simp only [Bool.and_self, Bool.and_false, Bool.false_and, if_true, if_false, Bool.false_eq_true]
   have hq := hq7.out rfl
   clear hq7
   have hq7 := Lib.hid hq
   clear hq
   have hF := hA.facts; (try simp only [uZ] at hA hF)
   go_enter Tryz.func14, Tryz.ntmps14
   go_wp2_with (first | (((with_reducible show wpList _ _ _ ({ dst := some 4, op := Op.box _ _, type := _, pos := _, after := _, guard := _ } :: _) _ _)); ((with_reducible refine gbx ?_); refine wH 57 [.int .i64 kind, .int .u64 num, .string foot, .int .u64 req, .string path, .int .i64 mode, .int .u64 n, .int .i64 time] hA ?_; clear hF hA; intro bC w1 hA hbC hF; (try simp only [uZ] at hA hF))) | (((with_reducible show wpList _ _ _ ({ dst := some 5, op := Op.box _ _, type := _, pos := _, after := _, guard := _ } :: _) _ _)); ((with_reducible refine gbx ?_); refine wH 59 [.int .i64 r, .int .i64 t] hA ?_; clear hF hA; intro bI w1 hA hbI hF; (try simp only [uZ] at hA hF))) | (((with_reducible show wpList _ _ _ ({ dst := some 6, op := Op.alloc _, type := _, pos := _, after := _, guard := _ } :: _) _ _)); ((with_reducible refine gal ?_); refine wG 51 [.int .i64 0, .int .i64 0, .int .i64 0, .int .i64 0, .int .i64 0, .int .i64 0, .int .i64 0, .int .i64 0] hA ?_; clear hF hA; intro b6 w1 hA hb6 hF; (try simp only [uZ] at hA hF))) | (((with_reducible show wpList _ _ _ ({ dst := some 7, op := Op.alloc _, type := _, pos := _, after := _, guard := _ } :: _) _ _)); ((with_reducible refine gal ?_); refine wG 51 [.int .i64 0, .int .i64 0, .int .i64 0, .int .i64 0, .int .i64 0, .int .i64 0, .int .i64 0, .int .i64 0] hA ?_; clear hF hA; intro b7 w1 hA hb7 hF; (try simp only [uZ] at hA hF))) | ((with_reducible refine gst ?_); refine wT hA ?_; clear hF hA; intro w1 hA hF; (try simp only [uZ] at hA hF)) | ((with_reducible refine gbx ?_); refine wC hA ?_; clear hF hA; intro b1 w1 hA hb1 hF; (try simp only [uZ] at hA hF)))
   refine (hfo _).mono ?_
   clear hfo
   rintro e w1 ⟨rfl, hx⟩
   have hB := hA.ext hx
   clear hF hA hx; have hA := hB; clear hB
   have hF := hA.facts; (try simp only [uZ] at hA hF)
   go_wp2_with (first | ((with_reducible refine gst ?_); refine wT hA ?_; clear hF hA; intro w1 hA hF; (try simp only [uZ] at hA hF)) | ((with_reducible refine gbx ?_); refine wC hA ?_; clear hF hA; intro b1 w1 hA hb1 hF; (try simp only [uZ] at hA hF)))
   try go_frame
   go_loopg [10] l.length (AsRel w (.slice lx l.length lc) l true ff num r t bC bI b6 b7 [.int .i64 kind, .int .u64 num, .string foot, .int .u64 req, .string path, .int .i64 mode, .int .u64 n, .int .i64 time])
   case atStart => exact ⟨0, rfl, by omega, hA.pick pZ⟩
   case round =>
    obtain ⟨i, rfl, hik, hB⟩ := hrel
    clear hF hA; have hA := hB; clear hB
    by_cases hi : i < l.length
    · obtain ⟨g, c, hax, hcap, hcm, hcl, hct, hB⟩ := hA.row_open (ax := lx) (cap := lc) (n := l.length) (xs := l.flatMap En.cells) sZ (by omega)
      clear hA; have hA := hB; clear hB
      subst hax
      have hd := n_cells hct hi
      have hst := ask_step true (ff, num) hi
      have hfe := hfl.out l[i] (List.getElem_mem hi)
      generalize askF true (ff, num) (l.take i) = o at *
      generalize l[i] = x at *
      obtain ⟨o0, o1, o2, o3, o4, o5, o6, o7⟩ := o
      obtain ⟨f1, n1, ⟨e0, e1, e2, e3, e4, e5, e6, e7⟩⟩ := x
      simp only [A8.cells, A8.zero, En.cells] at hA hd
      have hst' := Lib.hid hst
      have hcap' := Lib.hid hcap
      clear hst
      have q0 : c[i * 10]? = some (.string f1) := hd 0 (by omega)
      have q1 : c[i * 10 + 1]? = some (.int .u64 n1) := hd 1 (by omega)
      have hd8 : ∀ (k : Nat) u, ([.int .i64 e0, .int .i64 e1, .int .i64 e2, .int .i64 e3, .int .i64 e4, .int .i64 e5, .int .i64 e6, .int .i64 e7] : List Value)[k]? = some u → c[i * 10 + 2 + k]? = some u := fun k u hk => by
       have h8 : k < 8 := (List.getElem?_eq_some_iff.1 hk).1
       rw [Nat.add_assoc, hd (2 + k) (by omega), show 2 + k = k + 1 + 1 by omega]
       exact hk
      have hwr : IntKind.i64.wrap (e0 + 1) = e0 + 1 := by have h1 := hfe.1.s0; have h2 := hfe.1.s1; simp only at h1 h2; rw [IntKind.wrap_i64] <;> omega
      have hcu := fun w => cut_any (e0 + 1) w
      have hmg := fun w => mergeR_any ⟨o0, o1, o2, o3, o4, o5, o6, o7⟩ ⟨cutI (e0 + 1), e1, e2, e3, e4, e5, e6, e7⟩ w
      have hov1 := fun w => hov f1 hfe.2 w
      have h00 := hfe.1.s0
      have h01 := hfe.1.s1
      simp only at h00 h01
      have hyes := Lib.hid (fun (z : clashK (ff, num) (f1, n1) = true) => step_yes (o0 := o0) (o1 := o1) (o2 := o2) (o3 := o3) (o4 := o4) (o5 := o5) (o6 := o6) (o7 := o7) (e1 := e1) (e2 := e2) (e3 := e3) (e4 := e4) (e5 := e5) (e6 := e6) (e7 := e7) z h00 h01)
      have hno := Lib.hid (fun (z : clashK (ff, num) (f1, n1) = false) => step_no (g := true) (k := (ff, num)) (o := ⟨o0, o1, o2, o3, o4, o5, o6, o7⟩) (e := ⟨f1, n1, ⟨e0, e1, e2, e3, e4, e5, e6, e7⟩⟩) (.inr z))
      clear hfe h00 h01 hd
      generalize cutI (e0 + 1) = e9 at *
      simp only [A8.val, A8.merge] at hmg
      obtain ⟨ob, hob⟩ : ∃ z, overB (bl ff) (bl f1) = z := ⟨_, rfl⟩
      simp only [hob] at hov1
      by_cases hn : num = n1
      · have hcl0 : clashK (ff, num) (f1, n1) = true := by simp [clashK, hn]
        have hst2 := Lib.hid (hst'.out.trans (hyes.out hcl0))
        clear hst' hyes hno hcl0 hov1 hob
        have hst' := hst2
        clear hst2
        subst hn
        have hF := hA.facts; (try simp only [uZ] at hA hF)
        go_wp2_with (first | ((with_reducible refine gst ?_); refine wT hA ?_; clear hF hA; intro w1 hA hF; (try simp only [uZ] at hA hF)) | ((with_reducible refine gbx ?_); refine wC hA ?_; clear hF hA; intro b1 w1 hA hb1 hF; (try simp only [uZ] at hA hF)))
        try go_frame
        refine cl5 hA ?_; clear hF hA; intro w1 hA hF; (try simp only [uZ] at hA hF)
        go_wp2_with (first | (((with_reducible show wpList _ _ _ ({ dst := some 11, op := Op.alloc _, type := _, pos := _, after := _, guard := _ } :: _) _ _)); ((with_reducible refine gal ?_); refine wG 51 [.int .i64 0, .int .i64 0, .int .i64 0, .int .i64 0, .int .i64 0, .int .i64 0, .int .i64 0, .int .i64 0] hA ?_; clear hF hA; intro b11 w1 hA hb11 hF; (try simp only [uZ] at hA hF))) | ((with_reducible show wpList _ _ _ ({ dst := some 55, op := Op.load _ _, type := _, pos := _, after := _, guard := _ } :: _) _ _); refine wpList_loadRow_at (vs := [.int .i64 e0, .int .i64 e1, .int .i64 e2, .int .i64 e3, .int .i64 e4, .int .i64 e5, .int .i64 e6, .int .i64 e7]) rfl rfl (by (try simp only [Act.eval, eV]) <;> exact rfl) (fun k u hk => ((hA.get (A := Part.cells g c 53) sZ : BlockIs _ _ _ _).cell _).trans (hd8 k u hk)) (by kernel_rfl) (by kernel_rfl) ?_) | ((with_reducible refine gst ?_); refine wT hA ?_; clear hF hA; intro w1 hA hF; (try simp only [uZ] at hA hF)) | ((with_reducible refine gbx ?_); refine wC hA ?_; clear hF hA; intro b1 w1 hA hb1 hF; (try simp only [uZ] at hA hF)))
        refine (hcu _).mono ?_
        clear hcu
        rintro e w1 ⟨rfl, hx⟩
        have hB := hA.ext hx
        clear hF hA hx; have hA := hB; clear hB
        have hF := hA.facts; (try simp only [uZ] at hA hF)
        go_wp2_with (first | ((with_reducible refine gst ?_); refine wT hA ?_; clear hF hA; intro w1 hA hF; (try simp only [uZ] at hA hF)) | ((with_reducible refine gbx ?_); refine wC hA ?_; clear hF hA; intro b1 w1 hA hb1 hF; (try simp only [uZ] at hA hF)))
        refine (hmg _).mono ?_
        clear hmg
        rintro e w1 ⟨rfl, hx⟩
        have hB := hA.ext hx
        clear hF hA hx; have hA := hB; clear hB
        have hF := hA.facts; (try simp only [uZ] at hA hF)
        go_wp2_with (first | ((with_reducible refine gst ?_); refine wT hA ?_; clear hF hA; intro w1 hA hF; (try simp only [uZ] at hA hF)) | ((with_reducible refine gbx ?_); refine wC hA ?_; clear hF hA; intro b1 w1 hA hb1 hF; (try simp only [uZ] at hA hF)))
        go_roundg (gk - 1)
        case measure => omega
        case rel =>
         refine ⟨i + 1, by simp, by omega, ?_⟩
         rw [hst'.out]
         exact (hA.row_shut (xs := l.flatMap En.cells) (n := l.length) (size := 10) sZ hcl hcap hcm hct).pick pZ
      · have hn1 : (num != n1) = true := by simpa using hn
        have hn2 : (num == n1) = false := by simpa using hn
        cases ob
        · have hcl0 : clashK (ff, num) (f1, n1) = false := by simp [clashK, hn, hob]
          have hst2 := Lib.hid (hst'.out.trans (hno.out hcl0))
          clear hst' hyes hno hcl0 hob
          have hst' := hst2
          clear hst2 hcu hmg hd8 hwr
          have hF := hA.facts; (try simp only [uZ] at hA hF)
          go_wp2_with (first | ((with_reducible refine gst ?_); refine wT hA ?_; clear hF hA; intro w1 hA hF; (try simp only [uZ] at hA hF)) | ((with_reducible refine gbx ?_); refine wC hA ?_; clear hF hA; intro b1 w1 hA hb1 hF; (try simp only [uZ] at hA hF)))
          try go_frame
          refine cl7 hA ?_; clear hF hA; intro w1 hA hF; (try simp only [uZ] at hA hF)
          clear hov1
          go_wp2_with (first | ((with_reducible refine gst ?_); refine wT hA ?_; clear hF hA; intro w1 hA hF; (try simp only [uZ] at hA hF)) | ((with_reducible refine gbx ?_); refine wC hA ?_; clear hF hA; intro b1 w1 hA hb1 hF; (try simp only [uZ] at hA hF)))
          go_roundg (gk - 1)
          case measure => omega
          case rel =>
           refine ⟨i + 1, by simp, by omega, ?_⟩
           rw [hst'.out]
           exact (hA.row_shut (xs := l.flatMap En.cells) (n := l.length) (size := 10) sZ hcl hcap hcm hct).pick pZ
        · have hcl0 : clashK (ff, num) (f1, n1) = true := by simp [clashK, hob]
          have hst2 := Lib.hid (hst'.out.trans (hyes.out hcl0))
          clear hst' hyes hno hcl0 hob
          have hst' := hst2
          clear hst2
          have hF := hA.facts; (try simp only [uZ] at hA hF)
          go_wp2_with (first | ((with_reducible refine gst ?_); refine wT hA ?_; clear hF hA; intro w1 hA hF; (try simp only [uZ] at hA hF)) | ((with_reducible refine gbx ?_); refine wC hA ?_; clear hF hA; intro b1 w1 hA hb1 hF; (try simp only [uZ] at hA hF)))
          try go_frame
          refine cl7 hA ?_; clear hF hA; intro w1 hA hF; (try simp only [uZ] at hA hF)
          clear hov1
          go_wp2_with (first | (((with_reducible show wpList _ _ _ ({ dst := some 11, op := Op.alloc _, type := _, pos := _, after := _, guard := _ } :: _) _ _)); ((with_reducible refine gal ?_); refine wG 51 [.int .i64 0, .int .i64 0, .int .i64 0, .int .i64 0, .int .i64 0, .int .i64 0, .int .i64 0, .int .i64 0] hA ?_; clear hF hA; intro b11 w1 hA hb11 hF; (try simp only [uZ] at hA hF))) | ((with_reducible show wpList _ _ _ ({ dst := some 55, op := Op.load _ _, type := _, pos := _, after := _, guard := _ } :: _) _ _); refine wpList_loadRow_at (vs := [.int .i64 e0, .int .i64 e1, .int .i64 e2, .int .i64 e3, .int .i64 e4, .int .i64 e5, .int .i64 e6, .int .i64 e7]) rfl rfl (by (try simp only [Act.eval, eV]) <;> exact rfl) (fun k u hk => ((hA.get (A := Part.cells g c 53) sZ : BlockIs _ _ _ _).cell _).trans (hd8 k u hk)) (by kernel_rfl) (by kernel_rfl) ?_) | ((with_reducible refine gst ?_); refine wT hA ?_; clear hF hA; intro w1 hA hF; (try simp only [uZ] at hA hF)) | ((with_reducible refine gbx ?_); refine wC hA ?_; clear hF hA; intro b1 w1 hA hb1 hF; (try simp only [uZ] at hA hF)))
          refine (hcu _).mono ?_
          clear hcu
          rintro e w1 ⟨rfl, hx⟩
          have hB := hA.ext hx
          clear hF hA hx; have hA := hB; clear hB
          have hF := hA.facts; (try simp only [uZ] at hA hF)
          go_wp2_with (first | ((with_reducible refine gst ?_); refine wT hA ?_; clear hF hA; intro w1 hA hF; (try simp only [uZ] at hA hF)) | ((with_reducible refine gbx ?_); refine wC hA ?_; clear hF hA; intro b1 w1 hA hb1 hF; (try simp only [uZ] at hA hF)))
          refine (hmg _).mono ?_
          clear hmg
          rintro e w1 ⟨rfl, hx⟩
          have hB := hA.ext hx
          clear hF hA hx; have hA := hB; clear hB
          have hF := hA.facts; (try simp only [uZ] at hA hF)
          go_wp2_with (first | ((with_reducible refine gst ?_); refine wT hA ?_; clear hF hA; intro w1 hA hF; (try simp only [uZ] at hA hF)) | ((with_reducible refine gbx ?_); refine wC hA ?_; clear hF hA; intro b1 w1 hA hb1 hF; (try simp only [uZ] at hA hF)))
          go_roundg (gk - 1)
          case measure => omega
          case rel =>
           refine ⟨i + 1, by simp, by omega, ?_⟩
           rw [hst'.out]
           exact (hA.row_shut (xs := l.flatMap En.cells) (n := l.length) (size := 10) sZ hcl hcap hcm hct).pick pZ
    · have hli : l.take i = l := List.take_of_length_le (by omega)
      rw [hli] at hA
      obtain ⟨o, ho⟩ : ∃ o, askF true (ff, num) l = o := ⟨_, rfl⟩
      rw [ho] at hA
      have ho' := Lib.hid ho
      clear ho
      obtain ⟨o0, o1, o2, o3, o4, o5, o6, o7⟩ := o
      simp only [A8.cells, A8.zero] at hA
      clear hli
      have hF := hA.facts; (try simp only [uZ] at hA hF)
      go_wp2_with (first | ((with_reducible refine gst ?_); refine wT hA ?_; clear hF hA; intro w1 hA hF; (try simp only [uZ] at hA hF)) | ((with_reducible refine gbx ?_); refine wC hA ?_; clear hF hA; intro b1 w1 hA hb1 hF; (try simp only [uZ] at hA hF)))
      refine (hri _).mono ?_
      clear hri
      rintro e w1 ⟨rfl, hx⟩
      have hB := hA.ext hx
      clear hF hA hx; have hA := hB; clear hB
      have hF := hA.facts; (try simp only [uZ] at hA hF)
      rcases hq7.out with rfl | rfl | rfl | rfl | rfl | rfl | rfl
      · go_wp2_with (first | ((with_reducible refine gst ?_); refine wT hA ?_; clear hF hA; intro w1 hA hF; (try simp only [uZ] at hA hF)) | ((with_reducible refine gbx ?_); refine wC hA ?_; clear hF hA; intro b1 w1 hA hb1 hF; (try simp only [uZ] at hA hF)))
        refine bodyPost_ret (v := .agg #[.int .i64 o0, .int .i64 t, .int .i64 o2, .int .i64 o3, .int .i64 o4, .int .i64 o5, .int .i64 o6, .int .i64 o7]) (by simp [results, Tryz.results14, go_sem, hF]) rfl ⟨by rw [ho'.out]; rfl, hA.pick pZ⟩
      · go_wp2_with (first | ((with_reducible refine gst ?_); refine wT hA ?_; clear hF hA; intro w1 hA hF; (try simp only [uZ] at hA hF)) | ((with_reducible refine gbx ?_); refine wC hA ?_; clear hF hA; intro b1 w1 hA hb1 hF; (try simp only [uZ] at hA hF)))
        refine bodyPost_ret (v := .agg #[.int .i64 o0, .int .i64 o1, .int .i64 t, .int .i64 o3, .int .i64 o4, .int .i64 o5, .int .i64 o6, .int .i64 o7]) (by simp [results, Tryz.results14, go_sem, hF]) rfl ⟨by rw [ho'.out]; rfl, hA.pick pZ⟩
      · go_wp2_with (first | ((with_reducible refine gst ?_); refine wT hA ?_; clear hF hA; intro w1 hA hF; (try simp only [uZ] at hA hF)) | ((with_reducible refine gbx ?_); refine wC hA ?_; clear hF hA; intro b1 w1 hA hb1 hF; (try simp only [uZ] at hA hF)))
        refine bodyPost_ret (v := .agg #[.int .i64 o0, .int .i64 o1, .int .i64 o2, .int .i64 t, .int .i64 o4, .int .i64 o5, .int .i64 o6, .int .i64 o7]) (by simp [results, Tryz.results14, go_sem, hF]) rfl ⟨by rw [ho'.out]; rfl, hA.pick pZ⟩
      · go_wp2_with (first | ((with_reducible refine gst ?_); refine wT hA ?_; clear hF hA; intro w1 hA hF; (try simp only [uZ] at hA hF)) | ((with_reducible refine gbx ?_); refine wC hA ?_; clear hF hA; intro b1 w1 hA hb1 hF; (try simp only [uZ] at hA hF)))
        refine bodyPost_ret (v := .agg #[.int .i64 o0, .int .i64 o1, .int .i64 o2, .int .i64 o3, .int .i64 t, .int .i64 o5, .int .i64 o6, .int .i64 o7]) (by simp [results, Tryz.results14, go_sem, hF]) rfl ⟨by rw [ho'.out]; rfl, hA.pick pZ⟩
      · go_wp2_with (first | ((with_reducible refine gst ?_); refine wT hA ?_; clear hF hA; intro w1 hA hF; (try simp only [uZ] at hA hF)) | ((with_reducible refine gbx ?_); refine wC hA ?_; clear hF hA; intro b1 w1 hA hb1 hF; (try simp only [uZ] at hA hF)))
        refine bodyPost_ret (v := .agg #[.int .i64 o0, .int .i64 o1, .int .i64 o2, .int .i64 o3, .int .i64 o4, .int .i64 t, .int .i64 o6, .int .i64 o7]) (by simp [results, Tryz.results14, go_sem, hF]) rfl ⟨by rw [ho'.out]; rfl, hA.pick pZ⟩
      · go_wp2_with (first | ((with_reducible refine gst ?_); refine wT hA ?_; clear hF hA; intro w1 hA hF; (try simp only [uZ] at hA hF)) | ((with_reducible refine gbx ?_); refine wC hA ?_; clear hF hA; intro b1 w1 hA hb1 hF; (try simp only [uZ] at hA hF)))
        refine bodyPost_ret (v := .agg #[.int .i64 o0, .int .i64 o1, .int .i64 o2, .int .i64 o3, .int .i64 o4, .int .i64 o5, .int .i64 t, .int .i64 o7]) (by simp [results, Tryz.results14, go_sem, hF]) rfl ⟨by rw [ho'.out]; rfl, hA.pick pZ⟩
      · go_wp2_with (first | ((with_reducible refine gst ?_); refine wT hA ?_; clear hF hA; intro w1 hA hF; (try simp only [uZ] at hA hF)) | ((with_reducible refine gbx ?_); refine wC hA ?_; clear hF hA; intro b1 w1 hA hb1 hF; (try simp only [uZ] at hA hF)))
        refine bodyPost_ret (v := .agg #[.int .i64 o0, .int .i64 o1, .int .i64 o2, .int .i64 o3, .int .i64 o4, .int .i64 o5, .int .i64 o6, .int .i64 t]) (by simp [results, Tryz.results14, go_sem, hF]) rfl ⟨by rw [ho'.out]; rfl, hA.pick pZ⟩
end Go.Proofs.YtgbpfgdjnhbcgaaGreatDoor.Ix
end
section
namespace Go
open _root_.Go.Proofs.YtgbpfgdjnhbcgaaGreatDoor
open Go.RowKit
section
variable {P : Program} {ops : Array Oper} {rest : List Oper} {o : Oper} {a : Act} {Q : Exit → Act → World → Prop} {L0 L F : List Part} {w0 w : World}
end
end Go
namespace Go.Proofs.YtgbpfgdjnhbcgaaGreatDoor
open Go.RowKit
theorem thr1 {L0 L F : List Part} {w0 w w' : World} {A : Part} (s : Sel A L F) (h : At L0 w0 L w) (hT : At [A] w [A] w') : At L0 w0 L w' :=
 ((h.to (Eqv.perm s.perm)).frame (K := [A]) hT).to (Eqv.perm s.perm).symm
end Go.Proofs.YtgbpfgdjnhbcgaaGreatDoor
end
