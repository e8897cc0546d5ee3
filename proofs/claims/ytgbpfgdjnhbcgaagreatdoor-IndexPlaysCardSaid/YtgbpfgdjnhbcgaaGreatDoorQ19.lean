/- IpD, joined. -/
import Derived.Test.YtgbpfgdjnhbcgaaGreatDoorQ18
set_option linter.unusedSimpArgs false
set_option linter.unusedVariables false
set_option maxRecDepth 100000
set_option maxHeartbeats 16000000
section
namespace Go.Proofs.YtgbpfgdjnhbcgaaGreatDoor.Ix
open Go.RowKit
open Path (bl)
open Attr (A8)
open Cmd (through0)
open Go.Lib (compareBytes)
section
variable {P : Program} {ops : Array Oper} {rest : List Oper} {o : Oper} {a : Act} {Q : Exit → Act → World → Prop} {L0 L F : List Part} {w0 w : World}
theorem wpList_loadCut_at {ty : TypeId} {x : Operand} (hg : o.guard = none) (hop : o.op = .load ty x) {b j : Nat} (hx : a.eval x = .pointer (some ⟨b, j, none⟩)) {vs c : List Value} {T : TypeId} (h : At L0 w0 L w) (s : Sel (Part.cells b c T) L F)
 (hv : (c.drop j).take vs.length = vs) (hu : (P.underlying ty).map (·.isRow) = some true) (hi : (P.info? ty).map (·.size) = some vs.length)
 (hK : wpList P ops Q rest (a.put o.dst (.agg vs.toArray)) w) : wpList P ops Q (o :: rest) a w :=
 wpList_loadRow_at hg hop hx (fun k u hk => by
  have hb : BlockIs w b c T := h.get s
  have hl := (List.getElem?_eq_some_iff.1 hk).1
  rw [hb.cell, ← List.getElem?_drop, ← hk, ← hv, List.getElem?_take, if_pos hl]) hu hi hK
end
theorem cut_cells {α : Type} {enc : α → List Value} {size : Nat} (hs : ∀ x, (enc x).length = size) {c : List Value} {l : List α} (ht : c.take (l.length * size) = l.flatMap enc) {k : Nat} {x : α} (hx : l[k]? = some x) : (c.drop (k * size)).take size = enc x := by
 apply List.ext_getElem?
 intro j
 by_cases hj : j < size
 · rw [List.getElem?_take, if_pos hj, List.getElem?_drop, cells_at hs ht hx j hj]
 · rw [List.getElem?_eq_none (by simp; omega), List.getElem?_eq_none (by rw [hs]; omega)]
theorem sub_cells {c : List Value} {j : Nat} {u v : Value} {l : List Value} (h : (c.drop j).take (l.length + 2) = u :: v :: l) : (c.drop (j + 2)).take l.length = l := by
 have := congrArg (List.drop 2) h
 rw [List.drop_take] at this
 simpa [List.drop_drop] using this
abbrev flatX (l : List En) : List Value := l.flatMap En.cells
theorem rowN_app (v : Value) (l1 l2 : List En) : Part.row 53 10 v (l1.length + l2.length) (flatX l1 ++ flatX l2) = rowN v (l1 ++ l2) := by simp [flatX, rowN]
def placeK (out : List En) (k : ByteArray × Int) : Nat := (out.takeWhile fun y => decide (ltK y.k k)).length
theorem placeK_is : ∀ {out : List En} {x : ByteArray × Int} {k : Nat}, k ≤ out.length → (∀ y ∈ out.take k, ltK y.k x) → (∀ y, out[k]? = some y → ¬ ltK y.k x) → placeK out x = k
 | [], x, k, hk, _, _ => by simp at hk; subst hk; rfl
 | y :: out, x, 0, _, _, hn => by
  have h := hn y rfl
  unfold placeK
  rw [List.takeWhile_cons, if_neg (by simpa using h)]
  rfl
 | y :: out, x, k + 1, hk, ha, hn => by
  have h := ha y (by simp)
  have ih := placeK_is (out := out) (x := x) (k := k) (by simpa using hk) (fun z hz => ha z (by simp [hz])) (fun z hz => hn z (by simpa using hz))
  unfold placeK at ih ⊢
  rw [List.takeWhile_cons, if_pos (by simpa using h), List.length_cons, ih]
theorem insK_new {e : En} : ∀ {out : List En} {k : Nat}, placeK out e.k = k → (∀ y, out[k]? = some y → y.is e.foot e.num = false) → insK out e = out.take k ++ [e] ++ out.drop k
 | [], k, hk, _ => by simp [insK]
 | y :: out, k, hk, hn => by
  unfold placeK at hk
  rw [List.takeWhile_cons] at hk
  unfold insK
  by_cases h : ltK y.k e.k
  · rw [if_pos (by simpa using h), List.length_cons] at hk
    subst hk
    rw [if_pos h, insK_new (out := out) (k := placeK out e.k) rfl (fun z hz => hn z (by rw [List.getElem?_cons_succ]; exact hz))]
    rfl
  · rw [if_neg (by simpa using h)] at hk
    subst hk
    rw [if_neg h, if_neg (by rw [hn y rfl]; decide)]
    rfl
theorem insK_same {e : En} : ∀ {out : List En} {k : Nat} {y : En}, placeK out e.k = k → out[k]? = some y → y.k = e.k → insK out e = out.set k ⟨y.foot, y.num, y.a.merge e.a⟩
 | [], k, y, _, hy, _ => by simp at hy
 | z :: out, k, y, hk, hy, he => by
  unfold placeK at hk
  rw [List.takeWhile_cons] at hk
  unfold insK
  by_cases h : ltK z.k e.k
  · rw [if_pos (by simpa using h), List.length_cons] at hk
    subst hk
    rw [if_pos h, insK_same (out := out) (k := placeK out e.k) rfl (by rw [List.getElem?_cons_succ] at hy; exact hy) he]
    rfl
  · rw [if_neg (by simpa using h)] at hk
    subst hk
    have e1 : z = y := by simpa using hy
    subst e1
    rw [if_neg h, if_pos (show z.is e.foot e.num = true from is_iff.2 ⟨congrArg Prod.fst he, congrArg Prod.snd he⟩)]
    rfl
theorem insK_len (e : En) : ∀ out : List En, (insK out e).length ≤ out.length + 1
 | [] => by simp [insK]
 | x :: out => by
  unfold insK
  split
  · have := insK_len e out
    simp only [List.length_cons]
    omega
  · split <;> simp
theorem entsK_snoc (l : List En) (e : En) : entsK (l ++ [e]) = insK (entsK l) e := by unfold entsK; rw [List.foldl_append]; rfl
theorem entsK_len (l : List En) : (entsK l).length ≤ l.length := by
 suffices H : ∀ (l out : List En), (l.foldl insK out).length ≤ out.length + l.length by simpa [entsK] using H l []
 intro l
 induction l with
 | nil => intro out; exact Nat.le_refl _
 | cons e l ih =>
  intro out
  have := ih (insK out e)
  have := insK_len e out
  rw [List.foldl_cons, List.length_cons]
  omega
theorem set_self {c : List Value} {o : Nat} {u : Value} (h : c[o]? = some u) : c.set o u = c := by
 apply List.ext_getElem?
 intro j
 rw [List.getElem?_set]
 split
 · rename_i e
   subst e
   obtain ⟨h1, h2⟩ := List.getElem?_eq_some_iff.1 h
   rw [if_pos h1, h]
 · rfl
theorem setL_two {c : List Value} {o : Nat} {u v : Value} (h0 : c[o]? = some u) (h1 : c[o + 1]? = some v) (vs : List Value) : setL c (o + 2) vs = setL c o (u :: v :: vs) := by
 rw [setL, setL, set_self h0, set_self h1]
theorem same_bx (f g : ByteArray) : (f.toList == g.toList) = decide (f = g) := by
 rw [Lib.toList_data, Lib.toList_data, Bool.eq_iff_iff]
 simp only [beq_iff_eq, decide_eq_true_eq]
 exact ⟨fun h => bl_same h, fun h => by rw [h]⟩
def EnRel (w : World) (v : Value) (l : List En) (k : Nat) (u4 u3 : Value) (wr : World) : Prop :=
 ∃ i : Nat, u4 = .int .i64 i ∧ i + k = l.length ∧ At [rowN v l] w [rowN u3 (entsK (l.take i)), rowN v l] wr
def EkRel (w : World) (vo : Value) (v : Value) (l out : List En) (gl : Nat) (cl : List Value) (x : ByteArray × Int) (k : Nat) (u : Value) (wr : World) : Prop :=
 ∃ q : Nat, u = .int .i64 q ∧ q + k = out.length ∧ (∀ y ∈ out.take q, ltK y.k x) ∧ At [rowN v l] w [Part.cells gl cl 53, rowN vo out] wr
def EnP (w : World) (v : Value) (l : List En) (e : Ending) (w' : World) : Prop := ∃ u, e = .returned u ∧ At [rowN v l] w [rowN u (entsK l), rowN v l] w'
theorem entries_any {w : World} {v : Value} {l : List En} (h : Sep [rowN v l] w) (hmax : l.length ≤ 1000000) :
 Calls Tryz.prog 10 #[v] w (EnP w v l) := by
 have hm : Tryz.prog.follows .mixedOrders = true := by kernel_rfl
 obtain ⟨i0, hi0, hz0, hz1, hz2⟩ := info_parts infoN
 have hA := At.start h
 clear h
 obtain ⟨ax, cap, rfl, hax, hcap, _⟩ := hA.row_form (v := v) (xs := l.flatMap En.cells) sZ
 clear hax
 have hF := hA.facts; (try simp only [uZ] at hA hF)
 go_enter Tryz.func10, Tryz.ntmps10
 go_wp2_with (first | ((with_reducible refine gst ?_); refine wT hA ?_; clear hF hA; intro w1 hA hF; (try simp only [uZ] at hA hF)) | ((with_reducible refine gbx ?_); refine wC hA ?_; clear hF hA; intro b1 w1 hA hb1 hF; (try simp only [uZ] at hA hF)))
 try go_frame
 have hB := rowN_nil hA
 clear hF hA; have hA := hB; clear hB
 go_loopg [4, 3] l.length (EnRel w (.slice ax l.length cap) l)
 case atStart => exact ⟨0, rfl, by omega, hA.pick pZ⟩
 case round =>
  obtain ⟨i, rfl, hik, hB⟩ := hrel
  clear hA; have hA := hB; clear hB
  by_cases hi : i < l.length
  · skip
    obtain ⟨e, hx⟩ : ∃ e, l[i]? = some e := ⟨_, List.getElem?_eq_getElem hi⟩
    have hns := Lib.hid (show entsK (l.take (i + 1)) = insK (entsK (l.take i)) e from by rw [List.take_add_one, hx]; exact entsK_snoc _ _)
    have hol := entsK_len (l.take i)
    rw [List.length_take] at hol
    generalize entsK (l.take i) = out at *
    have hol1 : out.length ≤ 1000000 := by omega
    clear hol
    obtain ⟨axo, capo, hvo, _, hcpo, _⟩ := hA.row_form (e := 53) (size := 10) (n := out.length) (v := u3) (xs := out.flatMap En.cells) .here
    subst hvo
    obtain ⟨gl, cl, rfl, _, hlm, hll, hlt, hB⟩ := hA.row_open (e := 53) (size := 10) (ax := ax) (cap := cap) (n := l.length) (xs := l.flatMap En.cells) sZ (by omega)
    have he10 := cut_cells enL_len hlt hx
    have hdp := cells_at enL_len hlt hx
    obtain ⟨f1, n1, ⟨e0, e1, e2, e3, e4, e5, e6, e7⟩⟩ := e
    have he10' := Lib.hid (show (cl.drop (i * 10)).take (List.length (α := Value) [.string f1, .int .u64 n1, .int .i64 e0, .int .i64 e1, .int .i64 e2, .int .i64 e3, .int .i64 e4, .int .i64 e5, .int .i64 e6, .int .i64 e7]) = [.string f1, .int .u64 n1, .int .i64 e0, .int .i64 e1, .int .i64 e2, .int .i64 e3, .int .i64 e4, .int .i64 e5, .int .i64 e6, .int .i64 e7] from he10)
    have p0 : cl[i * 10]? = some (.string f1) := hdp 0 (by omega)
    have p1 : cl[i * 10 + 1]? = some (.int .u64 n1) := hdp 1 (by omega)
    have hlt' := Lib.hid hlt
    clear hA hx he10 hlt hdp; have hA := hB; clear hB
    have hiI : (i : Int) < l.length := by omega
    have hF := hA.facts; (try simp only [uZ] at hA hF)
    go_wp2_with (first | ((with_reducible refine gst ?_); refine wT hA ?_; clear hF hA; intro w1 hA hF; (try simp only [uZ] at hA hF)) | ((with_reducible refine gbx ?_); refine wC hA ?_; clear hF hA; intro b1 w1 hA hb1 hF; (try simp only [uZ] at hA hF)))
    try go_frame
    have hikG : i + 1 + (gk - 1) = l.length := by omega
    obtain ⟨G, hG⟩ : ∃ G, gk - 1 = G := ⟨_, rfl⟩
    rw [hG] at hikG
    have hGk := Lib.hid (show G < gk by omega)
    clear hG hik hF
    go_loopg [5] out.length (EkRel w (.slice axo out.length capo) (.slice (some ⟨gl, 0, none⟩) l.length cap) l out gl cl (f1, n1))
    case atStart => exact ⟨0, rfl, by omega, by simp, hA.pick pZ⟩
    case round =>
     obtain ⟨k, rfl, hkk, hah, hB⟩ := hrel
     have hah' := Lib.hid hah
     clear hA hah; have hA := hB; clear hB
     by_cases hk : k < out.length
     · skip
       obtain ⟨y, hy⟩ : ∃ y, out[k]? = some y := ⟨_, List.getElem?_eq_getElem hk⟩
       have hkI : (k : Int) < out.length := by omega
       obtain ⟨go, co, hgo, _, hom, hoL, hot, hB⟩ := hA.row_open (e := 53) (size := 10) (ax := axo) (cap := capo) (n := out.length) (xs := out.flatMap En.cells) sZ (by omega)
       subst hgo
       have hdq := cells_at enL_len hot hy
       obtain ⟨f2, n2, ⟨y0, y1, y2, y3, y4, y5, y6, y7⟩⟩ := y
       have hq0 : co[k * 10]? = some (.string f2) := hdq 0 (by omega)
       have hq1 : co[k * 10 + 1]? = some (.int .u64 n2) := hdq 1 (by omega)
       have hot' := Lib.hid hot
       have htk := Lib.hid (show out.take (k + 1) = out.take k ++ [⟨f2, n2, ⟨y0, y1, y2, y3, y4, y5, y6, y7⟩⟩] from by rw [List.take_add_one, hy]; rfl)
       have hy' := Lib.hid hy
       clear hA hot hy hdq; have hA := hB; clear hB
       have h3 := Cb.cb_three (bl f2) (bl f1)
       have hless := Cb.cb_less (bl f2) (bl f1)
       obtain ⟨cb, hcb⟩ : ∃ z, compareBytes (bl f2) (bl f1) = z := ⟨_, rfl⟩
       rw [hcb] at h3 hless
       by_cases hc : cb < 0
       · have hlt1 := Lib.hid (show ltK (f2, n2) (f1, n1) from .inl (by rw [hcb]; exact hc))
         have hb : Op.bytesLess f2.toList f1.toList = true := by rw [Lib.toList_data, Lib.toList_data]; exact hless.trans (decide_eq_true hc)
         clear hless h3 hcb hc
         have hF := hA.facts; (try simp only [uZ] at hA hF)
         go_wp2_with (first | ((with_reducible refine gst ?_); refine wT hA ?_; clear hF hA; intro w1 hA hF; (try simp only [uZ] at hA hF)) | ((with_reducible refine gbx ?_); refine wC hA ?_; clear hF hA; intro b1 w1 hA hb1 hF; (try simp only [uZ] at hA hF)))
         try go_frame
         refine cl0 hA ?_; clear hF hA; intro w1 hA hF; (try simp only [uZ] at hA hF)
         go_wp2_with (first | ((with_reducible refine gst ?_); refine wT hA ?_; clear hF hA; intro w1 hA hF; (try simp only [uZ] at hA hF)) | ((with_reducible refine gbx ?_); refine wC hA ?_; clear hF hA; intro b1 w1 hA hb1 hF; (try simp only [uZ] at hA hF)))
         go_roundg (gk - 1)
         case measure => omega
         case rel =>
          have hB := hA.row_shut (e := 53) (size := 10) (g := go) (n := out.length) (cap := capo) (xs := out.flatMap En.cells) sZ hoL hcpo hom hot'.out
          refine ⟨k + 1, by simp, by omega, fun z hz => ?_, hB.pick pZ⟩
          rw [htk.out] at hz
          rcases List.mem_append.1 hz with hz | hz
          · exact hah'.out z hz
          · rw [List.mem_singleton.1 hz]; exact hlt1.out
       · have hb : Op.bytesLess f2.toList f1.toList = false := by rw [Lib.toList_data, Lib.toList_data]; exact hless.trans (decide_eq_false hc)
         by_cases hf : f2 = f1
         · obtain rfl : f1 = f2 := hf.symm
           clear hf
           have hcb0 : compareBytes (bl f1) (bl f1) = 0 := Cb.cb_self _
           clear hless h3 hcb hc cb
           by_cases hn : n2 < n1
           · have hlt1 := Lib.hid (show ltK (f1, n2) (f1, n1) from .inr ⟨hcb0, hn⟩)
             clear hcb0
             have hF := hA.facts; (try simp only [uZ] at hA hF)
             go_wp2_with (first | ((with_reducible refine gst ?_); refine wT hA ?_; clear hF hA; intro w1 hA hF; (try simp only [uZ] at hA hF)) | ((with_reducible refine gbx ?_); refine wC hA ?_; clear hF hA; intro b1 w1 hA hb1 hF; (try simp only [uZ] at hA hF)))
             try go_frame
             refine cl0 hA ?_; clear hF hA; intro w1 hA hF; (try simp only [uZ] at hA hF)
             go_wp2_with (first | ((with_reducible refine gst ?_); refine wT hA ?_; clear hF hA; intro w1 hA hF; (try simp only [uZ] at hA hF)) | ((with_reducible refine gbx ?_); refine wC hA ?_; clear hF hA; intro b1 w1 hA hb1 hF; (try simp only [uZ] at hA hF)))
             go_roundg (gk - 1)
             case measure => omega
             case rel =>
              have hB := hA.row_shut (e := 53) (size := 10) (g := go) (n := out.length) (cap := capo) (xs := out.flatMap En.cells) sZ hoL hcpo hom hot'.out
              refine ⟨k + 1, by simp, by omega, fun z hz => ?_, hB.pick pZ⟩
              rw [htk.out] at hz
              rcases List.mem_append.1 hz with hz | hz
              · exact hah'.out z hz
              · rw [List.mem_singleton.1 hz]; exact hlt1.out
           · by_cases hn2 : n2 = n1
             · obtain rfl : n1 = n2 := hn2.symm
               clear hcb0 hn hn2
               have hF := hA.facts; (try simp only [uZ] at hA hF)
               have hnlt := Lib.hid (ltK_irr (f1, n1))
               have hpl := Lib.hid (show placeK out (f1, n1) = k from placeK_is (by omega) hah'.out fun z hz => by
                rw [hy'.out] at hz
                cases hz
                exact hnlt.out)
               have hmg := fun w => mergeR_any ⟨y0, y1, y2, y3, y4, y5, y6, y7⟩ ⟨e0, e1, e2, e3, e4, e5, e6, e7⟩ w
               have hsm0 := insK_same (e := (⟨f1, n1, ⟨e0, e1, e2, e3, e4, e5, e6, e7⟩⟩ : En)) hpl.out hy'.out rfl
               simp only [A8.val, A8.merge] at hmg hsm0
               generalize max y0 e0 = m0 at *
               generalize max y1 e1 = m1 at *
               generalize max y2 e2 = m2 at *
               generalize max y3 e3 = m3 at *
               generalize max y4 e4 = m4 at *
               generalize max y5 e5 = m5 at *
               generalize max y6 e6 = m6 at *
               generalize max y7 e7 = m7 at *
               have hsm := Lib.hid hsm0
               clear hsm0
               go_wp2_with (first | ((with_reducible refine gst ?_); refine wT hA ?_; clear hF hA; intro w1 hA hF; (try simp only [uZ] at hA hF)) | ((with_reducible refine gbx ?_); refine wC hA ?_; clear hF hA; intro b1 w1 hA hb1 hF; (try simp only [uZ] at hA hF)))
               try go_frame
               refine cl0 hA ?_; clear hF hA; intro w1 hA hF; (try simp only [uZ] at hA hF)
               go_wp2_with (first | ((with_reducible refine gst ?_); refine wT hA ?_; clear hF hA; intro w1 hA hF; (try simp only [uZ] at hA hF)) | ((with_reducible refine gbx ?_); refine wC hA ?_; clear hF hA; intro b1 w1 hA hb1 hF; (try simp only [uZ] at hA hF)))
               try go_frame
               refine cl0 hA ?_; clear hF hA; intro w1 hA hF; (try simp only [uZ] at hA hF)
               have hcoL : k * 10 + 10 ≤ co.length := by have h1 := List.length_take (i := out.length * 10) (l := co); rw [hot'.out, flatN_len] at h1; omega
               have hde : (cl.drop (i * 10 + 2)).take 8 = [.int .i64 e0, .int .i64 e1, .int .i64 e2, .int .i64 e3, .int .i64 e4, .int .i64 e5, .int .i64 e6, .int .i64 e7] := sub_cells (u := .string f1) (v := .int .u64 n1) (l := [.int .i64 e0, .int .i64 e1, .int .i64 e2, .int .i64 e3, .int .i64 e4, .int .i64 e5, .int .i64 e6, .int .i64 e7]) he10'.out
               have hdy : (co.drop (k * 10 + 2)).take 8 = [.int .i64 y0, .int .i64 y1, .int .i64 y2, .int .i64 y3, .int .i64 y4, .int .i64 y5, .int .i64 y6, .int .i64 y7] := sub_cells (u := .string f1) (v := .int .u64 n1) (l := [.int .i64 y0, .int .i64 y1, .int .i64 y2, .int .i64 y3, .int .i64 y4, .int .i64 y5, .int .i64 y6, .int .i64 y7]) (show (co.drop (k * 10)).take 10 = [.string f1, .int .u64 n1, .int .i64 y0, .int .i64 y1, .int .i64 y2, .int .i64 y3, .int .i64 y4, .int .i64 y5, .int .i64 y6, .int .i64 y7] from cut_cells enL_len hot'.out hy'.out)
               go_wp2_with (first | ((with_reducible refine gst ?_); refine wT hA ?_; clear hF hA; intro w1 hA hF; (try simp only [uZ] at hA hF)) | ((with_reducible refine gbx ?_); refine wC hA ?_; clear hF hA; intro b1 w1 hA hb1 hF; (try simp only [uZ] at hA hF)))
               try go_frame
               (refine wp_region_head 15 (Cl _ _ _) (by kernel_rfl) (by kernel_rfl) (Cl.drew hA) ?_); (simp only [List.take_succ_cons, List.take_zero, List.drop_succ_cons, List.drop_zero]); (have hn1 := Cl.none hA); (have hn2 := Cl.none2 hA); (repeat (first | go_big_quiet_skip | (go_big_quiet_want; (first | (refine qM 51 8 ?_; go_frame; go_big_quiet_on) | (refine qL ?_; go_frame; go_big_quiet_on) | (go_big_quiet_op; (first | go_big_quiet_on | ((apply Exists.intro); (refine ⟨fun w1 hw => ?_, ?_⟩); (focus ((have hw := Cl.out hw); (exact through0 hw (hmg _)))); (go_big_quiet_on))))))))
               (refine wpQuiet_nil ?_); (intro w1 hB); (clear hF hA hn1 hn2); (have hA := Cl.out hB); (clear hB); have hF := hA.facts; (try simp only [uZ] at hA hF)
               go_wp2_with (first | ((with_reducible refine wS hA ?_); clear hF hA; intro w1 hA; have hF := hA.facts; skip) | ((with_reducible refine gst ?_); refine wT hA ?_; clear hF hA; intro w1 hA hF; (try simp only [uZ] at hA hF)) | ((with_reducible refine gbx ?_); refine wC hA ?_; clear hF hA; intro b1 w1 hA hb1 hF; (try simp only [uZ] at hA hF)))
               have hco2 := setL_two hq0 hq1 [.int .i64 m0, .int .i64 m1, .int .i64 m2, .int .i64 m3, .int .i64 m4, .int .i64 m5, .int .i64 m6, .int .i64 m7]
               have hB : At [rowN (.slice (some ⟨gl, 0, none⟩) l.length cap) l] w [Part.cells go (setL co (k * 10 + 2) [.int .i64 m0, .int .i64 m1, .int .i64 m2, .int .i64 m3, .int .i64 m4, .int .i64 m5, .int .i64 m6, .int .i64 m7]) 53, Part.cells gl cl 53] w1 := hA
               clear hF hA
               rw [hco2] at hB
               have hA := hB
               clear hB
               have hot2 := write_row enL_len hot'.out hk (⟨f1, n1, ⟨m0, m1, m2, m3, m4, m5, m6, m7⟩⟩ : En)
               have hB := hA.row_shut (e := 53) (size := 10) (g := go) (n := (out.set k ⟨f1, n1, ⟨m0, m1, m2, m3, m4, m5, m6, m7⟩⟩).length) (cap := capo) (xs := (out.set k ⟨f1, n1, ⟨m0, m1, m2, m3, m4, m5, m6, m7⟩⟩).flatMap En.cells) sZ (by rw [setL_length]; exact hoL) (by rw [List.length_set]; exact hcpo) hom hot2
               have hC := hB.row_shut (e := 53) (size := 10) (g := gl) (n := l.length) (cap := cap) (xs := l.flatMap En.cells) sZ hll hcap hlm hlt'.out
               rw [show (out.set k (⟨f1, n1, ⟨m0, m1, m2, m3, m4, m5, m6, m7⟩⟩ : En)).length = out.length from List.length_set] at hC
               rw [show Part.row 53 10 (.slice (some ⟨go, 0, none⟩) out.length capo) out.length ((out.set k ⟨f1, n1, ⟨m0, m1, m2, m3, m4, m5, m6, m7⟩⟩).flatMap En.cells) = rowN (.slice (some ⟨go, 0, none⟩) out.length capo) (out.set k ⟨f1, n1, ⟨m0, m1, m2, m3, m4, m5, m6, m7⟩⟩) by simp [rowN]] at hC
               go_wp2_with (first | ((with_reducible refine gst ?_); refine wT hA ?_; clear hF hA; intro w1 hA hF; (try simp only [uZ] at hA hF)) | ((with_reducible refine gbx ?_); refine wC hA ?_; clear hF hA; intro b1 w1 hA hb1 hF; (try simp only [uZ] at hA hF)))
               go_roundg G
               case measure => exact hGk.out
               case rel => exact ⟨i + 1, by simp, hikG, by rw [hns.out, hsm.out]; exact hC.pick pZ⟩
             · have hnlt0 : ¬ ltK (f1, n2) (f1, n1) := by
                rintro (q | ⟨_, q⟩)
                · rw [hcb0] at q; omega
                · exact hn q
               have hne0 := Lib.hid (show En.is ⟨f1, n2, ⟨y0, y1, y2, y3, y4, y5, y6, y7⟩⟩ f1 n1 = false by simp [En.is, hn2])
               clear hcb0
               have hqe : (n2 == n1) = false := by simpa using hn2
               have hF := hA.facts; (try simp only [uZ] at hA hF)
               have hnlt := Lib.hid hnlt0
               clear hnlt0
               have hpl := Lib.hid (show placeK out (f1, n1) = k from placeK_is (by omega) hah'.out fun z hz => by
                rw [hy'.out] at hz
                cases hz
                exact hnlt.out)
               have hnw := Lib.hid (insK_new (e := (⟨f1, n1, ⟨e0, e1, e2, e3, e4, e5, e6, e7⟩⟩ : En)) hpl.out fun z hz => by
                rw [hy'.out] at hz
                cases hz
                exact hne0.out)
               go_wp2_with (first | ((with_reducible refine gst ?_); refine wT hA ?_; clear hF hA; intro w1 hA hF; (try simp only [uZ] at hA hF)) | ((with_reducible refine gbx ?_); refine wC hA ?_; clear hF hA; intro b1 w1 hA hb1 hF; (try simp only [uZ] at hA hF)))
               try go_frame
               refine cl0 hA ?_; clear hF hA; intro w1 hA hF; (try simp only [uZ] at hA hF)
               go_wp2_with (first | ((with_reducible refine gst ?_); refine wT hA ?_; clear hF hA; intro w1 hA hF; (try simp only [uZ] at hA hF)) | ((with_reducible refine gbx ?_); refine wC hA ?_; clear hF hA; intro b1 w1 hA hb1 hF; (try simp only [uZ] at hA hF)))
               try go_frame
               refine cl0 hA ?_; clear hF hA; intro w1 hA hF; (try simp only [uZ] at hA hF)
               have hB := hA.row_shut (e := 53) (size := 10) (g := go) (n := out.length) (cap := capo) (xs := out.flatMap En.cells) sZ hoL hcpo hom hot'.out
               clear hF hA hq0 hq1; have hA := hB; clear hB
               have hB := rowN_nil hA
               clear hA; have hA := hB; clear hB
               have hl1 : (out.take k).length = k := by rw [List.length_take]; omega
               have hl2 : (out.drop k).length = out.length - k := List.length_drop
               have hF := hA.facts; (try simp only [uZ] at hA hF)
               go_wp2_with (first | (refine wpList_slice_to (e := 53) (size := 10) (n := (out).length) (xs := flatX (out)) (v := .slice (some ⟨go, 0, none⟩) (out).length capo) (k := k) rfl rfl Tryz.underlying35 hi0 hz1 (by (try simp only [Act.eval, eV]) <;> exact rfl) (by (try simp only [Act.eval, eV]) <;> exact rfl) (hA.get (A := Part.row 53 10 (.slice (some ⟨go, 0, none⟩) (out).length capo) (out).length (flatX (out))) sR) (by omega) ?_; intro xv hxv0; have hxv : Reads _ xv ((out).take (k)).length (flatX ((out).take (k))) := (by rw [hl1]; unfold flatX at hxv0 ⊢; rw [flat_take enL_len] at hxv0; exact hxv0); clear hxv0) | (refine wpList_append_at (e := 53) (size := 10) (v := .slice none 0 0) (xs := flatX []) (n := ([] : List En).length) (m := ((out).take (k)).length) (news := flatX ((out).take (k))) rfl _ _ 35 rfl Tryz.underlying35 hi0 hz0 hz1 hz2 rfl (by omega) hA sR (by (try simp only [Act.eval, eV]) <;> exact rfl) (by (try simp only [Act.eval, eV]) <;> exact rfl) (flat_len _ _ enL_len _) hxv (flat_one enL_one _) (by unfold maxLen; simp; omega) (by simp; omega) ?_; intro v1 w1 hB; rw [rowN_app] at hB; simp only [List.nil_append] at hB; clear hF hA; have hA := hB; clear hB; have hF := hA.facts; (try simp only [uZ] at hA hF)) | (refine wpList_one_at (e := 53) (vs := En.cells (⟨f1, n1, ⟨e0, e1, e2, e3, e4, e5, e6, e7⟩⟩ : En)) rfl rfl (by (try simp only [Act.eval, eV]) <;> exact rfl) (fun _ => by kernel_rfl) hA ?_; intro b2 w1 hB hb2; clear hF hA; have hA := hB; clear hB; have hF := hA.facts; (try simp only [uZ] at hA hF)) | (refine wpList_append_at (e := 53) (size := 10) (v := v1) (xs := flatX ((out).take (k))) (n := ((out).take (k)).length) (m := 1) (news := En.cells (⟨f1, n1, ⟨e0, e1, e2, e3, e4, e5, e6, e7⟩⟩ : En)) rfl _ _ 35 rfl Tryz.underlying35 hi0 hz0 hz1 hz2 rfl (by omega) hA sR (by (try simp only [Act.eval, eV]) <;> exact rfl) (by (try simp only [Act.eval, eV]) <;> exact rfl) (rfl) (hA.cells_reads sR _ _) (enL_one _) (by unfold maxLen; simp; omega) (by simp; omega) ?_; intro v2 w1 hB; rw [rowN_snoc] at hB; clear hF hA; have hA := hB; clear hB; have hF := hA.facts; (try simp only [uZ] at hA hF)) | (refine wpList_slice_from (e := 53) (size := 10) (n := (out).length) (xs := flatX (out)) (v := .slice (some ⟨go, 0, none⟩) (out).length capo) (k := k) rfl rfl Tryz.underlying35 hi0 hz1 (by (try simp only [Act.eval, eV]) <;> exact rfl) (by (try simp only [Act.eval, eV]) <;> exact rfl) (hA.get (A := Part.row 53 10 (.slice (some ⟨go, 0, none⟩) (out).length capo) (out).length (flatX (out))) sR) (by omega) ?_; intro yv hxv0; have hyv : Reads _ yv ((out).drop (k)).length (flatX ((out).drop (k))) := (by rw [hl2]; unfold flatX at hxv0 ⊢; rw [flat_drop enL_len] at hxv0; exact hxv0); clear hxv0) | (refine wpList_append_at (e := 53) (size := 10) (v := v2) (xs := flatX ((out).take (k) ++ [(⟨f1, n1, ⟨e0, e1, e2, e3, e4, e5, e6, e7⟩⟩ : En)])) (n := ((out).take (k) ++ [(⟨f1, n1, ⟨e0, e1, e2, e3, e4, e5, e6, e7⟩⟩ : En)]).length) (m := ((out).drop (k)).length) (news := flatX ((out).drop (k))) rfl _ _ 35 rfl Tryz.underlying35 hi0 hz0 hz1 hz2 rfl (by omega) hA sR (by (try simp only [Act.eval, eV]) <;> exact rfl) (by (try simp only [Act.eval, eV]) <;> exact rfl) (flat_len _ _ enL_len _) hyv (flat_one enL_one _) (by unfold maxLen; simp; omega) (by simp; omega) ?_; intro v3 w1 hB; rw [rowN_app] at hB; obtain ⟨ax3, n3, cap3, hv3, hn3⟩ := hB.row_hid .here; subst hv3; clear hF hA; have hA := hB; clear hB; have hF := hA.facts; (try simp only [uZ] at hA hF)) | ((with_reducible show wpList _ _ _ ({ dst := some 112, op := Op.load _ _, type := _, pos := _, after := _, guard := _ } :: _) _ _); refine wpList_loadCut_at (b := gl) (j := i * 10) (vs := [.string f1, .int .u64 n1, .int .i64 e0, .int .i64 e1, .int .i64 e2, .int .i64 e3, .int .i64 e4, .int .i64 e5, .int .i64 e6, .int .i64 e7]) rfl rfl (by (try simp only [Act.eval, eV]) <;> exact rfl) hA sZ he10'.out (by kernel_rfl) (by kernel_rfl) ?_) | ((with_reducible refine gst ?_); refine wT hA ?_; clear hF hA; intro w1 hA hF; (try simp only [uZ] at hA hF)) | ((with_reducible refine gbx ?_); refine wC hA ?_; clear hF hA; intro b1 w1 hA hb1 hF; (try simp only [uZ] at hA hF)))
               go_roundg G
               case measure => exact hGk.out
               case rel =>
                have hC := hA.row_shut (e := 53) (size := 10) (g := gl) (n := l.length) (cap := cap) (xs := l.flatMap En.cells) sZ hll hcap hlm hlt'.out
                exact ⟨i + 1, by simp, hikG, by rw [hns.out, hnw.out]; exact hC.pick pZ⟩
         · have hnlt0 : ¬ ltK (f2, n2) (f1, n1) := by
            rintro (q | ⟨q, _⟩)
            · exact hc (by rw [← hcb]; exact q)
            · exact hf (bl_same (Cb.cb_zero _ _ q))
           have hne0 := Lib.hid (show En.is ⟨f2, n2, ⟨y0, y1, y2, y3, y4, y5, y6, y7⟩⟩ f1 n1 = false by simp [En.is, hf])
           have hqe : (f2.toList == f1.toList) = false := by rw [same_bx]; exact decide_eq_false hf
           clear hless h3 hcb hc cb
           have hF := hA.facts; (try simp only [uZ] at hA hF)
           have hnlt := Lib.hid hnlt0
           clear hnlt0
           have hpl := Lib.hid (show placeK out (f1, n1) = k from placeK_is (by omega) hah'.out fun z hz => by
            rw [hy'.out] at hz
            cases hz
            exact hnlt.out)
           have hnw := Lib.hid (insK_new (e := (⟨f1, n1, ⟨e0, e1, e2, e3, e4, e5, e6, e7⟩⟩ : En)) hpl.out fun z hz => by
            rw [hy'.out] at hz
            cases hz
            exact hne0.out)
           go_wp2_with (first | ((with_reducible refine gst ?_); refine wT hA ?_; clear hF hA; intro w1 hA hF; (try simp only [uZ] at hA hF)) | ((with_reducible refine gbx ?_); refine wC hA ?_; clear hF hA; intro b1 w1 hA hb1 hF; (try simp only [uZ] at hA hF)))
           try go_frame
           refine cl0 hA ?_; clear hF hA; intro w1 hA hF; (try simp only [uZ] at hA hF)
           go_wp2_with (first | ((with_reducible refine gst ?_); refine wT hA ?_; clear hF hA; intro w1 hA hF; (try simp only [uZ] at hA hF)) | ((with_reducible refine gbx ?_); refine wC hA ?_; clear hF hA; intro b1 w1 hA hb1 hF; (try simp only [uZ] at hA hF)))
           try go_frame
           refine cl0 hA ?_; clear hF hA; intro w1 hA hF; (try simp only [uZ] at hA hF)
           have hB := hA.row_shut (e := 53) (size := 10) (g := go) (n := out.length) (cap := capo) (xs := out.flatMap En.cells) sZ hoL hcpo hom hot'.out
           clear hF hA hq0 hq1; have hA := hB; clear hB
           have hB := rowN_nil hA
           clear hA; have hA := hB; clear hB
           have hl1 : (out.take k).length = k := by rw [List.length_take]; omega
           have hl2 : (out.drop k).length = out.length - k := List.length_drop
           have hF := hA.facts; (try simp only [uZ] at hA hF)
           go_wp2_with (first | (refine wpList_slice_to (e := 53) (size := 10) (n := (out).length) (xs := flatX (out)) (v := .slice (some ⟨go, 0, none⟩) (out).length capo) (k := k) rfl rfl Tryz.underlying35 hi0 hz1 (by (try simp only [Act.eval, eV]) <;> exact rfl) (by (try simp only [Act.eval, eV]) <;> exact rfl) (hA.get (A := Part.row 53 10 (.slice (some ⟨go, 0, none⟩) (out).length capo) (out).length (flatX (out))) sR) (by omega) ?_; intro xv hxv0; have hxv : Reads _ xv ((out).take (k)).length (flatX ((out).take (k))) := (by rw [hl1]; unfold flatX at hxv0 ⊢; rw [flat_take enL_len] at hxv0; exact hxv0); clear hxv0) | (refine wpList_append_at (e := 53) (size := 10) (v := .slice none 0 0) (xs := flatX []) (n := ([] : List En).length) (m := ((out).take (k)).length) (news := flatX ((out).take (k))) rfl _ _ 35 rfl Tryz.underlying35 hi0 hz0 hz1 hz2 rfl (by omega) hA sR (by (try simp only [Act.eval, eV]) <;> exact rfl) (by (try simp only [Act.eval, eV]) <;> exact rfl) (flat_len _ _ enL_len _) hxv (flat_one enL_one _) (by unfold maxLen; simp; omega) (by simp; omega) ?_; intro v1 w1 hB; rw [rowN_app] at hB; simp only [List.nil_append] at hB; clear hF hA; have hA := hB; clear hB; have hF := hA.facts; (try simp only [uZ] at hA hF)) | (refine wpList_one_at (e := 53) (vs := En.cells (⟨f1, n1, ⟨e0, e1, e2, e3, e4, e5, e6, e7⟩⟩ : En)) rfl rfl (by (try simp only [Act.eval, eV]) <;> exact rfl) (fun _ => by kernel_rfl) hA ?_; intro b2 w1 hB hb2; clear hF hA; have hA := hB; clear hB; have hF := hA.facts; (try simp only [uZ] at hA hF)) | (refine wpList_append_at (e := 53) (size := 10) (v := v1) (xs := flatX ((out).take (k))) (n := ((out).take (k)).length) (m := 1) (news := En.cells (⟨f1, n1, ⟨e0, e1, e2, e3, e4, e5, e6, e7⟩⟩ : En)) rfl _ _ 35 rfl Tryz.underlying35 hi0 hz0 hz1 hz2 rfl (by omega) hA sR (by (try simp only [Act.eval, eV]) <;> exact rfl) (by (try simp only [Act.eval, eV]) <;> exact rfl) (rfl) (hA.cells_reads sR _ _) (enL_one _) (by unfold maxLen; simp; omega) (by simp; omega) ?_; intro v2 w1 hB; rw [rowN_snoc] at hB; clear hF hA; have hA := hB; clear hB; have hF := hA.facts; (try simp only [uZ] at hA hF)) | (refine wpList_slice_from (e := 53) (size := 10) (n := (out).length) (xs := flatX (out)) (v := .slice (some ⟨go, 0, none⟩) (out).length capo) (k := k) rfl rfl Tryz.underlying35 hi0 hz1 (by (try simp only [Act.eval, eV]) <;> exact rfl) (by (try simp only [Act.eval, eV]) <;> exact rfl) (hA.get (A := Part.row 53 10 (.slice (some ⟨go, 0, none⟩) (out).length capo) (out).length (flatX (out))) sR) (by omega) ?_; intro yv hxv0; have hyv : Reads _ yv ((out).drop (k)).length (flatX ((out).drop (k))) := (by rw [hl2]; unfold flatX at hxv0 ⊢; rw [flat_drop enL_len] at hxv0; exact hxv0); clear hxv0) | (refine wpList_append_at (e := 53) (size := 10) (v := v2) (xs := flatX ((out).take (k) ++ [(⟨f1, n1, ⟨e0, e1, e2, e3, e4, e5, e6, e7⟩⟩ : En)])) (n := ((out).take (k) ++ [(⟨f1, n1, ⟨e0, e1, e2, e3, e4, e5, e6, e7⟩⟩ : En)]).length) (m := ((out).drop (k)).length) (news := flatX ((out).drop (k))) rfl _ _ 35 rfl Tryz.underlying35 hi0 hz0 hz1 hz2 rfl (by omega) hA sR (by (try simp only [Act.eval, eV]) <;> exact rfl) (by (try simp only [Act.eval, eV]) <;> exact rfl) (flat_len _ _ enL_len _) hyv (flat_one enL_one _) (by unfold maxLen; simp; omega) (by simp; omega) ?_; intro v3 w1 hB; rw [rowN_app] at hB; obtain ⟨ax3, n3, cap3, hv3, hn3⟩ := hB.row_hid .here; subst hv3; clear hF hA; have hA := hB; clear hB; have hF := hA.facts; (try simp only [uZ] at hA hF)) | ((with_reducible show wpList _ _ _ ({ dst := some 112, op := Op.load _ _, type := _, pos := _, after := _, guard := _ } :: _) _ _); refine wpList_loadCut_at (b := gl) (j := i * 10) (vs := [.string f1, .int .u64 n1, .int .i64 e0, .int .i64 e1, .int .i64 e2, .int .i64 e3, .int .i64 e4, .int .i64 e5, .int .i64 e6, .int .i64 e7]) rfl rfl (by (try simp only [Act.eval, eV]) <;> exact rfl) hA sZ he10'.out (by kernel_rfl) (by kernel_rfl) ?_) | ((with_reducible refine gst ?_); refine wT hA ?_; clear hF hA; intro w1 hA hF; (try simp only [uZ] at hA hF)) | ((with_reducible refine gbx ?_); refine wC hA ?_; clear hF hA; intro b1 w1 hA hb1 hF; (try simp only [uZ] at hA hF)))
           go_roundg G
           case measure => exact hGk.out
           case rel =>
            have hC := hA.row_shut (e := 53) (size := 10) (g := gl) (n := l.length) (cap := cap) (xs := l.flatMap En.cells) sZ hll hcap hlm hlt'.out
            exact ⟨i + 1, by simp, hikG, by rw [hns.out, hnw.out]; exact hC.pick pZ⟩
     · have hkI : ¬ (k : Int) < out.length := by omega
       have hpl := placeK_is (x := (f1, n1)) (show k ≤ out.length by omega) hah'.out fun z hz => by rw [List.getElem?_eq_none (by omega)] at hz; cases hz
       have hnw := Lib.hid (insK_new (e := (⟨f1, n1, ⟨e0, e1, e2, e3, e4, e5, e6, e7⟩⟩ : En)) hpl fun z hz => by rw [List.getElem?_eq_none (by omega)] at hz; cases hz)
       clear hpl
       have hkd : decide ((k : Int) < out.length) = false := decide_eq_false hkI
       have hF := hA.facts; (try simp only [uZ] at hA hF)
       go_wp2_with (first | ((with_reducible refine gst ?_); refine wT hA ?_; clear hF hA; intro w1 hA hF; (try simp only [uZ] at hA hF)) | ((with_reducible refine gbx ?_); refine wC hA ?_; clear hF hA; intro b1 w1 hA hb1 hF; (try simp only [uZ] at hA hF)))
       try go_frame
       refine cl0 hA ?_; clear hF hA; intro w1 hA hF; (try simp only [uZ] at hA hF)
       go_wp2_with (first | ((with_reducible refine gst ?_); refine wT hA ?_; clear hF hA; intro w1 hA hF; (try simp only [uZ] at hA hF)) | ((with_reducible refine gbx ?_); refine wC hA ?_; clear hF hA; intro b1 w1 hA hb1 hF; (try simp only [uZ] at hA hF)))
       try go_frame
       refine cl0 hA ?_; clear hF hA; intro w1 hA hF; (try simp only [uZ] at hA hF)
       clear hF
       have hB := rowN_nil hA
       clear hA; have hA := hB; clear hB
       have hl1 : (out.take k).length = k := by rw [List.length_take]; omega
       have hl2 : (out.drop k).length = out.length - k := List.length_drop
       have hF := hA.facts; (try simp only [uZ] at hA hF)
       go_wp2_with (first | (refine wpList_slice_to (e := 53) (size := 10) (n := (out).length) (xs := flatX (out)) (v := .slice axo (out).length capo) (k := k) rfl rfl Tryz.underlying35 hi0 hz1 (by (try simp only [Act.eval, eV]) <;> exact rfl) (by (try simp only [Act.eval, eV]) <;> exact rfl) (hA.get (A := Part.row 53 10 (.slice axo (out).length capo) (out).length (flatX (out))) sR) (by omega) ?_; intro xv hxv0; have hxv : Reads _ xv ((out).take (k)).length (flatX ((out).take (k))) := (by rw [hl1]; unfold flatX at hxv0 ⊢; rw [flat_take enL_len] at hxv0; exact hxv0); clear hxv0) | (refine wpList_append_at (e := 53) (size := 10) (v := .slice none 0 0) (xs := flatX []) (n := ([] : List En).length) (m := ((out).take (k)).length) (news := flatX ((out).take (k))) rfl _ _ 35 rfl Tryz.underlying35 hi0 hz0 hz1 hz2 rfl (by omega) hA sR (by (try simp only [Act.eval, eV]) <;> exact rfl) (by (try simp only [Act.eval, eV]) <;> exact rfl) (flat_len _ _ enL_len _) hxv (flat_one enL_one _) (by unfold maxLen; simp; omega) (by simp; omega) ?_; intro v1 w1 hB; rw [rowN_app] at hB; simp only [List.nil_append] at hB; clear hF hA; have hA := hB; clear hB; have hF := hA.facts; (try simp only [uZ] at hA hF)) | (refine wpList_one_at (e := 53) (vs := En.cells (⟨f1, n1, ⟨e0, e1, e2, e3, e4, e5, e6, e7⟩⟩ : En)) rfl rfl (by (try simp only [Act.eval, eV]) <;> exact rfl) (fun _ => by kernel_rfl) hA ?_; intro b2 w1 hB hb2; clear hF hA; have hA := hB; clear hB; have hF := hA.facts; (try simp only [uZ] at hA hF)) | (refine wpList_append_at (e := 53) (size := 10) (v := v1) (xs := flatX ((out).take (k))) (n := ((out).take (k)).length) (m := 1) (news := En.cells (⟨f1, n1, ⟨e0, e1, e2, e3, e4, e5, e6, e7⟩⟩ : En)) rfl _ _ 35 rfl Tryz.underlying35 hi0 hz0 hz1 hz2 rfl (by omega) hA sR (by (try simp only [Act.eval, eV]) <;> exact rfl) (by (try simp only [Act.eval, eV]) <;> exact rfl) (rfl) (hA.cells_reads sR _ _) (enL_one _) (by unfold maxLen; simp; omega) (by simp; omega) ?_; intro v2 w1 hB; rw [rowN_snoc] at hB; clear hF hA; have hA := hB; clear hB; have hF := hA.facts; (try simp only [uZ] at hA hF)) | (refine wpList_slice_from (e := 53) (size := 10) (n := (out).length) (xs := flatX (out)) (v := .slice axo (out).length capo) (k := k) rfl rfl Tryz.underlying35 hi0 hz1 (by (try simp only [Act.eval, eV]) <;> exact rfl) (by (try simp only [Act.eval, eV]) <;> exact rfl) (hA.get (A := Part.row 53 10 (.slice axo (out).length capo) (out).length (flatX (out))) sR) (by omega) ?_; intro yv hxv0; have hyv : Reads _ yv ((out).drop (k)).length (flatX ((out).drop (k))) := (by rw [hl2]; unfold flatX at hxv0 ⊢; rw [flat_drop enL_len] at hxv0; exact hxv0); clear hxv0) | (refine wpList_append_at (e := 53) (size := 10) (v := v2) (xs := flatX ((out).take (k) ++ [(⟨f1, n1, ⟨e0, e1, e2, e3, e4, e5, e6, e7⟩⟩ : En)])) (n := ((out).take (k) ++ [(⟨f1, n1, ⟨e0, e1, e2, e3, e4, e5, e6, e7⟩⟩ : En)]).length) (m := ((out).drop (k)).length) (news := flatX ((out).drop (k))) rfl _ _ 35 rfl Tryz.underlying35 hi0 hz0 hz1 hz2 rfl (by omega) hA sR (by (try simp only [Act.eval, eV]) <;> exact rfl) (by (try simp only [Act.eval, eV]) <;> exact rfl) (flat_len _ _ enL_len _) hyv (flat_one enL_one _) (by unfold maxLen; simp; omega) (by simp; omega) ?_; intro v3 w1 hB; rw [rowN_app] at hB; obtain ⟨ax3, n3, cap3, hv3, hn3⟩ := hB.row_hid .here; subst hv3; clear hF hA; have hA := hB; clear hB; have hF := hA.facts; (try simp only [uZ] at hA hF)) | ((with_reducible show wpList _ _ _ ({ dst := some 112, op := Op.load _ _, type := _, pos := _, after := _, guard := _ } :: _) _ _); refine wpList_loadCut_at (b := gl) (j := i * 10) (vs := [.string f1, .int .u64 n1, .int .i64 e0, .int .i64 e1, .int .i64 e2, .int .i64 e3, .int .i64 e4, .int .i64 e5, .int .i64 e6, .int .i64 e7]) rfl rfl (by (try simp only [Act.eval, eV]) <;> exact rfl) hA sZ he10'.out (by kernel_rfl) (by kernel_rfl) ?_) | ((with_reducible refine gst ?_); refine wT hA ?_; clear hF hA; intro w1 hA hF; (try simp only [uZ] at hA hF)) | ((with_reducible refine gbx ?_); refine wC hA ?_; clear hF hA; intro b1 w1 hA hb1 hF; (try simp only [uZ] at hA hF)))
       go_roundg G
       case measure => exact hGk.out
       case rel =>
        have hC := hA.row_shut (e := 53) (size := 10) (g := gl) (n := l.length) (cap := cap) (xs := l.flatMap En.cells) sZ hll hcap hlm hlt'.out
        exact ⟨i + 1, by simp, hikG, by rw [hns.out, hnw.out]; exact hC.pick pZ⟩
  · have hF := hA.facts
    have hF := hA.facts; (try simp only [uZ] at hA hF)
    go_wp2_with (first | ((with_reducible refine gst ?_); refine wT hA ?_; clear hF hA; intro w1 hA hF; (try simp only [uZ] at hA hF)) | ((with_reducible refine gbx ?_); refine wC hA ?_; clear hF hA; intro b1 w1 hA hb1 hF; (try simp only [uZ] at hA hF)))
    go_ret
    rw [List.take_of_length_le (by omega)] at hA
    exact ⟨_, rfl, hA.pick pZ⟩
end Go.Proofs.YtgbpfgdjnhbcgaaGreatDoor.Ix
end
