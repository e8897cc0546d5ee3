/- WireB, WireC, IxB, IxC, EncB, WinA, WinB, WinC, WinD, IxD, RefP, RefQ, RefR, RefEx, joined. -/
import Derived.Test.YtgbpfgdjnhbcgaaGreatDoorQ11
import Derived.Deep.CutBlock
set_option linter.unusedSimpArgs false
set_option linter.unusedVariables false
set_option maxRecDepth 100000
set_option maxHeartbeats 16000000
section
namespace Go.Proofs.YtgbpfgdjnhbcgaaGreatDoor.Wire
open Go.RowKit
def textL (s : ByteArray) : List Int := s.data.toList.map (fun x => (x.toNat : Int))
def textB (s : ByteArray) : List Int := shortN s.size ++ textL s
end Go.Proofs.YtgbpfgdjnhbcgaaGreatDoor.Wire
end
section
namespace Go.Proofs.YtgbpfgdjnhbcgaaGreatDoor.Wire
open Go.RowKit
theorem flatY_map (l : List Int) : flatY l = l.map (Value.int .u8) := by
 induction l with
 | nil => rfl
 | cons x l ih => show encY x ++ flatY l = _; rw [ih]; rfl
theorem flatY_get (l : List Int) (i : Nat) (hi : i < l.length) : (flatY l)[i]? = some (.int .u8 l[i]) := by
 rw [flatY_map, List.getElem?_map, List.getElem?_eq_getElem hi]; rfl
end Go.Proofs.YtgbpfgdjnhbcgaaGreatDoor.Wire
end
section
namespace Go.Proofs.YtgbpfgdjnhbcgaaGreatDoor.Ix
open Go.RowKit
open _root_.Go.Proofs.YtgbpfgdjnhbcgaaGreatDoor.Wire
open Attr (A8)
end Go.Proofs.YtgbpfgdjnhbcgaaGreatDoor.Ix
end
section
namespace Go.Proofs.YtgbpfgdjnhbcgaaGreatDoor.Ix
open Go.RowKit
open _root_.Go.Proofs.YtgbpfgdjnhbcgaaGreatDoor.Wire
open Attr (A8)
end Go.Proofs.YtgbpfgdjnhbcgaaGreatDoor.Ix
end
section
namespace Go.Proofs.YtgbpfgdjnhbcgaaGreatDoor.Enc
open _root_.Go.Proofs.YtgbpfgdjnhbcgaaGreatDoor.Wire
end Go.Proofs.YtgbpfgdjnhbcgaaGreatDoor.Enc
end
section
namespace Go.Proofs.YtgbpfgdjnhbcgaaGreatDoor.Wire
structure InS where
 b : List Int
 e : Int
def Byt (l : List Int) : Prop := ∀ x ∈ l, 0 ≤ x ∧ x < 256
theorem Byt.drop {l : List Int} (h : Byt l) (n : Nat) : Byt (l.drop n) := fun x hx => h x (List.mem_of_mem_drop hx)
theorem Byt.take {l : List Int} (h : Byt l) (n : Nat) : Byt (l.take n) := fun x hx => h x (List.mem_of_mem_take hx)
def InS.fail (s : InS) (x : Int) : InS := if s.e = 0 then ⟨s.b, x⟩ else s
def InS.okT (s : InS) (n : Nat) : Prop := s.e = 0 ∧ n ≤ s.b.length
instance (s : InS) (n : Nat) : Decidable (s.okT n) := by unfold InS.okT; exact inferInstance
def InS.takeL (s : InS) (n : Nat) : List Int := if s.okT n then s.b.take n else []
def InS.takeS (s : InS) (n : Nat) : InS := if s.okT n then ⟨s.b.drop n, 0⟩ else s.fail 20
def rsL (i v : Nat) : List Int → Nat × Nat × Int
 | [] => if i < 10 then (0, 0, 20) else (0, 0, 12)
 | x :: r => if i < 10 then
  if i = 9 ∧ 1 < x then (0, 0, 12)
  else if x < 128 then (if x = 0 ∧ 0 < i then (0, 0, 10) else (v + x.toNat % 128 * 128 ^ i, i + 1, 0))
  else rsL (i + 1) (v + x.toNat % 128 * 128 ^ i) r
  else (0, 0, 12)
def rs (b : List Int) : Nat × Nat × Int := rsL 0 0 b
def InS.shortV (s : InS) (most : Nat) : Nat := if s.e ≠ 0 then 0 else if (rs s.b).2.2 ≠ 0 then 0 else if most < (rs s.b).1 then 0 else (rs s.b).1
def InS.shortS (s : InS) (most : Nat) : InS := if s.e ≠ 0 then s else if (rs s.b).2.2 ≠ 0 then ⟨s.b, (rs s.b).2.2⟩ else if most < (rs s.b).1 then ⟨s.b, 12⟩ else s.takeS (rs s.b).2.1
def InS.textL (s : InS) (most : Nat) : List Int := (s.shortS most).takeL (s.shortV most)
def InS.left (s : InS) : Nat := if s.e ≠ 0 then 0 else s.b.length
def InS.fin (s : InS) : Int := if 0 < s.left then 21 else s.e
end Go.Proofs.YtgbpfgdjnhbcgaaGreatDoor.Wire
end
section
namespace Go.Proofs.YtgbpfgdjnhbcgaaGreatDoor.Wire
open Go.RowKit
def CellsY (b o : Nat) (l : List Int) (w : World) : Prop := ∀ j (hj : j < l.length), w.cell? ⟨b, o + j, none⟩ = some (.int .u8 l[j])
end Go.Proofs.YtgbpfgdjnhbcgaaGreatDoor.Wire
end
section
namespace Go.Proofs.YtgbpfgdjnhbcgaaGreatDoor.Wire
open Go.RowKit
structure Rdr where
 v : Value
 l : List Int
 pos : Nat
 u : Value
 e : Int
def Rdr.s (r : Rdr) : InS := ⟨r.l.drop r.pos, r.e⟩
def Win (v : Value) (n pos : Nat) (u : Value) : Prop := pos ≤ n ∧ ∃ ax cap bx, v = .slice ax n cap ∧ n ≤ cap ∧ u = .slice bx (n - pos) (cap - pos) ∧ (ax = none ∧ bx = none ∧ cap = 0 ∨ ∃ g o, ax = some ⟨g, 0, none⟩ ∧ bx = some ⟨g, o, none⟩ ∧ (pos < cap → o = pos))
structure Rdr.Ok (r : Rdr) : Prop where
 win : Win r.v r.l.length r.pos r.u
 byt : Byt r.l
 len : r.l.length ≤ 1000000000000
abbrev inC (i : Nat) (u : Value) (e : Int) : Part := .cells i [u, .int .i64 e] 99
def RdP (i : Nat) (r : Rdr) : Part := Part.all [inC i r.u r.e, rowY r.v r.l]
theorem rd_eqv (i : Nat) (r : Rdr) (F : List Part) : Eqv (RdP i r :: F) (inC i r.u r.e :: rowY r.v r.l :: F) := Eqv.all [inC i r.u r.e, rowY r.v r.l] F
theorem win_cells {R : Rdr} {w : World} (h : (rowY R.v R.l).holds w) (hw : R.Ok) (hp : R.pos < R.l.length) : ∃ g c, R.u = .slice (some ⟨g, R.pos, none⟩) (R.l.length - R.pos) c ∧ CellsY g R.pos (R.l.drop R.pos) w := by
 obtain ⟨hpn, ax, cap, bx, hv, hnc, hu, hc⟩ := hw.win
 obtain ⟨ax2, cap2, hv2, _, _, _, hx⟩ := own_form h
 rw [hv] at hv2
 cases hv2
 rcases hc with ⟨rfl, rfl, rfl⟩ | ⟨g, o, rfl, rfl, ho⟩
 · omega
 · have hop := ho (by omega)
   subst hop
   rcases hx with ⟨q, _⟩ | ⟨g2, hg, hcell⟩
   · cases q
   · cases hg
     refine ⟨g, _, hu, fun j hj => ?_⟩
     rw [List.length_drop] at hj
     rw [List.getElem_drop]
     exact hcell (R.pos + j) _ (flatY_get R.l (R.pos + j) (by omega))
theorem rd_cells {i : Nat} {r : Rdr} {w : World} (h : (RdP i r).holds w) : (rowY r.v r.l).holds w := Sep.get (L := [inC i r.u r.e, rowY r.v r.l]) h (by simp)
theorem take_slices {v u : Value} {N pos : Nat} (hw : Win v N pos u) {n : Nat} (hn : n ≤ N - pos) (w : World) : ∃ bx c ux, u = .slice bx (N - pos) c ∧
 (Instr.sliceAt 62 (.slice bx (N - pos) c) none (some (.int .i64 n)) (some (.int .i64 n))).run Tryz.prog w = .ok (.slice bx n n) w ∧
 (Instr.sliceAt 62 (.slice bx (N - pos) c) (some (.int .i64 n)) none none).run Tryz.prog w = .ok (.slice ux (N - pos - n) (c - n)) w ∧
 Win v N (pos + n) (.slice ux (N - pos - n) (c - n)) := by
 obtain ⟨hpn, ax, cap, bx, hv, hnc, rfl, hc⟩ := hw
 have hz : ∀ w, (sizeOf 5).run Tryz.prog w = .ok 1 w := fun w => by kernel_rfl
 refine ⟨bx, cap - pos, if cap - pos = n then bx else bx.map (·.add (n * 1)), rfl, ?_, ?_, ?_⟩
 · have e : (if n = 0 then bx else bx.map (·.add (0 * 1))) = bx := by
    split
    · rfl
    · rcases hc with ⟨_, rfl, _⟩ | ⟨g, o, _, rfl, _⟩
      · rfl
      · simp [Addr.add]
   simp [Instr.sliceAt, Instr.slice, run_underlying Tryz.underlying62, Instr.sliceBounds, run_sliceBound, hz, Result.andThen, show (n : Int) ≤ ((cap - pos : Nat) : Int) by omega]
   simpa using e
 · simp [Instr.sliceAt, Instr.slice, run_underlying Tryz.underlying62, Instr.sliceBounds, run_sliceBound, hz, Result.andThen, show (n : Int) ≤ ((N - pos : Nat) : Int) by omega]
 · refine ⟨by omega, ax, cap, _, hv, hnc, by rw [show N - (pos + n) = N - pos - n by omega, show cap - (pos + n) = cap - pos - n by omega], ?_⟩
   rcases hc with ⟨rfl, rfl, rfl⟩ | ⟨g, o, rfl, rfl, ho⟩
   · exact .inl ⟨rfl, by split <;> rfl, rfl⟩
   · right
     by_cases q : cap - pos = n
     · exact ⟨g, o, rfl, by rw [if_pos q], fun z => by omega⟩
     · refine ⟨g, o + n, rfl, by rw [if_neg q]; simp [Addr.add], fun z => ?_⟩
       have := ho (by omega)
       omega
def FailP (w : World) (i : Nat) (r : Rdr) (x : Int) (e : Ending) (w' : World) : Prop := e = .returned (.tuple #[]) ∧ At [RdP i r] w [RdP i { r with e := if r.e = 0 then x else r.e }] w'
theorem fail_s (r : Rdr) (x : Int) : ({ r with e := if r.e = 0 then x else r.e } : Rdr).s = r.s.fail x := by
 unfold Rdr.s InS.fail
 by_cases h : r.e = 0
 · simp [h]
 · simp [h]
theorem ok_e {r : Rdr} (h : r.Ok) (x : Int) : ({ r with e := x } : Rdr).Ok := ⟨h.win, h.byt, h.len⟩
theorem fail_any {w : World} {i : Nat} {r : Rdr} (h : Sep [RdP i r] w) (x : Int) : Calls Tryz.prog 51 #[.pointer (some ⟨i, 0, none⟩), .int .i64 x] w (FailP w i r x) := by
 have hA := (At.start h).to (rd_eqv i r [])
 have hF := hA.facts
 clear h
 have hF := hA.facts; (try simp only [uZ] at hA hF)
 by_cases he : r.e = 0
 · rw [he] at hA hF
   go_enter Tryz.func51, Tryz.ntmps51
   go_wp2_with (first | ((with_reducible refine gst ?_); refine wT hA ?_; clear hF hA; intro w1 hA hF; (try simp only [uZ] at hA hF)) | ((with_reducible refine gbx ?_); refine wC hA ?_; clear hF hA; intro b1 w1 hA hb1 hF; (try simp only [uZ] at hA hF)))
   refine bodyPost_ret (v := .tuple #[]) (by simp [results, Tryz.results51, go_sem]) rfl ⟨rfl, ?_⟩
   rw [if_pos he]
   exact hA.to (rd_eqv i { r with e := x } []).symm
 · have he' : (r.e == 0) = false := by simpa using he
   go_enter Tryz.func51, Tryz.ntmps51
   go_wp2_with (first | ((with_reducible refine gst ?_); refine wT hA ?_; clear hF hA; intro w1 hA hF; (try simp only [uZ] at hA hF)) | ((with_reducible refine gbx ?_); refine wC hA ?_; clear hF hA; intro b1 w1 hA hb1 hF; (try simp only [uZ] at hA hF)))
   refine bodyPost_ret (v := .tuple #[]) (by simp [results, Tryz.results51, go_sem]) rfl ⟨rfl, ?_⟩
   rw [if_neg he]
   exact hA.to (rd_eqv i r []).symm
def TakeP (w : World) (i : Nat) (r : Rdr) (n : Nat) (e : Ending) (w' : World) : Prop :=
 ∃ (xa : Option Addr) (m mc : Nat) (r' : Rdr), e = .returned (.slice xa m mc) ∧ (r.s.takeL n).length = m ∧ (m ≠ 0 → mc = m ∧ ∃ g o, xa = some ⟨g, o, none⟩ ∧ ∀ w1, (RdP i r').holds w1 → CellsY g o (r.s.takeL n) w1) ∧ r'.s = r.s.takeS n ∧ r'.Ok ∧ At [RdP i r] w [RdP i r'] w'
theorem take_no {w w' : World} {i : Nat} {r : Rdr} {n : Nat} (hr : r.Ok) (hn : ¬ r.s.okT n) (hT : At [RdP i r] w [RdP i { r with e := if r.e = 0 then 20 else r.e }] w') : TakeP w i r n (.returned (.slice none 0 0)) w' := by
 have e1 : r.s.takeL n = [] := if_neg hn
 have e2 : r.s.takeS n = r.s.fail 20 := if_neg hn
 exact ⟨none, 0, 0, _, rfl, by rw [e1]; rfl, fun q => absurd rfl q, by rw [e2, fail_s], ok_e hr _, hT⟩
theorem take_any {w : World} {i : Nat} {r : Rdr} (h : Sep [RdP i r] w) (hr : r.Ok) (n : Nat) (hn : n ≤ 4611686018427387904) : Calls Tryz.prog 68 #[.pointer (some ⟨i, 0, none⟩), .int .i64 n] w (TakeP w i r n) := by
 have hsl : r.s.b.length = r.l.length - r.pos := List.length_drop
 have hs0 : r.s.e = r.e := rfl
 obtain ⟨bx0, c0, _, hu0, _⟩ := take_slices hr.win (n := 0) (Nat.zero_le _) w
 by_cases he : r.e = 0
 · by_cases hle : n ≤ r.l.length - r.pos
   · obtain ⟨bx, c, ux, hu, h1, h2, hw2⟩ := take_slices hr.win hle w
     have hok : r.s.okT n := ⟨he, by rw [hsl]; exact hle⟩
     have e1 : r.s.takeL n = r.s.b.take n := if_pos hok
     have e2 : r.s.takeS n = ⟨r.s.b.drop n, 0⟩ := if_pos hok
     have hpn := hr.win.1
     obtain ⟨v, l, pos, u, e⟩ := r
     simp only at he hu hw2 hpn
     subst he
     subst hu
     have hA := (At.start h).to (rd_eqv i ⟨v, l, pos, .slice bx (l.length - pos) c, 0⟩ [])
     have hF := hA.facts
     clear h
     have hle2 : ¬ ((l.length - pos : Nat) : Int) < (n : Int) := by simp only at hle; omega
     have h3 := hr
     have hr' := Lib.hid hr
     have hw2' := Lib.hid hw2
     have e1' := Lib.hid e1
     have e2' := Lib.hid e2
     have hle' := Lib.hid hle
     have hpn' := Lib.hid hpn
     clear hr hw2 e1 e2 hle hok hsl hs0 hu0 hpn h3
     have hF := hA.facts; (try simp only [uZ] at hA hF)
     go_enter Tryz.func68, Tryz.ntmps68
     go_wp2_with (first | ((with_reducible refine gst ?_); refine wT hA ?_; clear hF hA; intro w1 hA hF; (try simp only [uZ] at hA hF)) | ((with_reducible refine gbx ?_); refine wC hA ?_; clear hF hA; intro b1 w1 hA hb1 hF; (try simp only [uZ] at hA hF)))
     go_ret
     refine ⟨bx, n, n, ⟨v, l, pos + n, .slice ux (l.length - pos - n) (c - n), 0⟩, rfl, ?_, fun hm => ⟨rfl, ?_⟩, ?_, ⟨hw2'.out, hr'.out.byt, hr'.out.len⟩, ?_⟩
     · rw [e1'.out, List.length_take]
       have := hle'.out
       show min n (l.drop pos).length = n
       rw [List.length_drop]
       omega
     · have hlt : pos < l.length := by have := hle'.out; omega
       have hax : ∃ g, bx = some ⟨g, pos, none⟩ := by
        obtain ⟨_, ax, cap, bx2, _, hnc, hu2, hc⟩ := hr'.out.win
        simp only at hu2 hc hnc
        cases hu2
        rcases hc with ⟨_, _, q⟩ | ⟨g, o, _, q, ho⟩
        · omega
        · exact ⟨g, by rw [q, ho (by omega)]⟩
       obtain ⟨g, rfl⟩ := hax
       refine ⟨g, pos, rfl, fun w1 hw1 => ?_⟩
       obtain ⟨g2, c2, hu2, hcell⟩ := win_cells (R := ⟨v, l, pos, .slice (some ⟨g, pos, none⟩) (l.length - pos) c, 0⟩) (show (rowY v l).holds w1 from rd_cells hw1) hr'.out hlt
       cases hu2
       rw [e1'.out]
       intro j hj
       have hj2 : j < (l.drop pos).length := by
        have q := hj
        rw [List.length_take] at q
        exact Nat.lt_of_lt_of_le q (Nat.min_le_right _ _)
       refine (hcell j hj2).trans (congrArg (fun z => some (Value.int .u8 z)) ?_)
       exact (List.getElem_take (xs := l.drop pos) (j := n) (i := j) (h := hj)).symm
     · rw [e2'.out]
       simp only [Rdr.s, List.drop_drop]
     · exact hA.to (rd_eqv i ⟨v, l, pos + n, .slice ux (l.length - pos - n) (c - n), 0⟩ []).symm
   · have hno : ¬ r.s.okT n := fun q => hle (by rw [← hsl]; exact q.2)
     have hk := fun (w' : World) => take_no (w := w) (w' := w') (i := i) hr hno
     obtain ⟨v, l, pos, u, e⟩ := r
     simp only at he hu0 hle
     subst he
     subst hu0
     have hA := (At.start h).to (rd_eqv i ⟨v, l, pos, .slice bx0 (l.length - pos) c0, 0⟩ [])
     have hF := hA.facts
     have hle2 : ((l.length - pos : Nat) : Int) < (n : Int) := by omega
     have hk' := Lib.hid hk
     clear hk hr hsl hs0 hno
     have hF := hA.facts; (try simp only [uZ] at hA hF)
     go_enter Tryz.func68, Tryz.ntmps68
     go_wp2_with (first | ((with_reducible refine gst ?_); refine wT hA ?_; clear hF hA; intro w1 hA hF; (try simp only [uZ] at hA hF)) | ((with_reducible refine gbx ?_); refine wC hA ?_; clear hF hA; intro b1 w1 hA hb1 hF; (try simp only [uZ] at hA hF)))
     refine (fail_any h 20).mono ?_
     rintro e w1 ⟨rfl, hT⟩
     go_wp2_with fail
     go_ret
     exact hk'.out _ hT
 · have hno : ¬ r.s.okT n := fun q => he q.1
   have hk := fun (w' : World) => take_no (w := w) (w' := w') (i := i) hr hno
   obtain ⟨v, l, pos, u, e⟩ := r
   simp only at he hu0
   subst hu0
   have hA := (At.start h).to (rd_eqv i ⟨v, l, pos, .slice bx0 (l.length - pos) c0, e⟩ [])
   have hF := hA.facts
   have he' : (e != 0) = true := by simpa using he
   have he2 : (e == 0) = false := by simpa using he
   have hk' := Lib.hid hk
   clear hk hr hsl hs0 hno
   have hF := hA.facts; (try simp only [uZ] at hA hF)
   go_enter Tryz.func68, Tryz.ntmps68
   go_wp2_with (first | ((with_reducible refine gst ?_); refine wT hA ?_; clear hF hA; intro w1 hA hF; (try simp only [uZ] at hA hF)) | ((with_reducible refine gbx ?_); refine wC hA ?_; clear hF hA; intro b1 w1 hA hb1 hF; (try simp only [uZ] at hA hF)))
   refine (fail_any h 20).mono ?_
   rintro e w1 ⟨rfl, hT⟩
   go_wp2_with fail
   go_ret
   exact hk'.out _ hT
end Go.Proofs.YtgbpfgdjnhbcgaaGreatDoor.Wire
end
section
namespace Go.Proofs.YtgbpfgdjnhbcgaaGreatDoor.Wire
open Go.RowKit
end Go.Proofs.YtgbpfgdjnhbcgaaGreatDoor.Wire
end
section
namespace Go.Proofs.YtgbpfgdjnhbcgaaGreatDoor.Ix
open Go.RowKit
open _root_.Go.Proofs.YtgbpfgdjnhbcgaaGreatDoor.Wire
open Path (bl rightB)
open Attr (A8)
end Go.Proofs.YtgbpfgdjnhbcgaaGreatDoor.Ix
end
section
namespace Go.Proofs.YtgbpfgdjnhbcgaaGreatDoor.Path
open Go.RowKit
theorem wpList_cut_at {P : Program} {ops : Array Oper} {rest : List Oper} {o : Oper} {a : Act} {Q : Exit → Act → World → Prop} {L0 L G : List Part} {w0 w : World} {t e : TypeId} {i : TypeInfo} {size m0 k : Nat} {v : Value} {xs : List Value} {x hi' : Operand}
 (hg : o.guard = none) (hop : o.op = .slice t x none (some hi') none) (ht : P.underlying t = some (.slice e)) (hi : P.info? e = some i) (hsize : i.size = size) (hx : a.eval x = v) (hh : a.eval hi' = .int .i64 k)
 (h : At L0 w0 L w) (s : Sel (Part.row e size v m0 xs) L G) (hk : k ≤ m0) (hK : ∀ v', At L0 w0 (Part.row e size v' k (xs.take (k * size)) :: G) w → wpList P ops Q rest (a.put o.dst v') w) : wpList P ops Q (o :: rest) a w := by
 obtain ⟨v', hr, h1, h2⟩ := run_cut_own (P := P) ht hi hsize (h.get s : w.ownsRow 0 e size v m0 xs) k hk
 refine wpList_val hg ?_ (hK v' (h.turn s (Part.row e size v' k (xs.take (k * size))) h1 (fun b hb => .inl (by simpa [Part.row, h2] using hb)) (Exc.refl _ _)))
 simp [execOp, hop, hx, hh, hr, Result.andThen]
theorem letterB_any (c : UInt8) (w : World) : Calls Tryz.prog 104 #[.int .u8 c.toNat] w fun e w' => e = .returned (.bool (letB c)) ∧ w = w' := by
 have key : ∀ (n : Int) (b1 b2 b3 b4 b5 b6 : Bool), decide (97 ≤ n) = b1 → decide (n ≤ 122) = b2 → decide (48 ≤ n) = b3 → decide (n ≤ 57) = b4 → decide (n = 45) = b5 → decide (n = 95) = b6 →
  Calls Tryz.prog 104 #[.int .u8 n] w fun e w' => e = .returned (.bool ((b1 && b2) || (b3 && b4) || b5 || b6)) ∧ w = w' := by
  intro n b1 b2 b3 b4 b5 b6 h1 h2 h3 h4 h5 h6
  have h5' : (n == 45) = b5 := by rw [← h5]; rfl
  have h6' : (n == 95) = b6 := by rw [← h6]; rfl
  clear h5 h6
  cases b1 <;> cases b2 <;> cases b3 <;> cases b4 <;> cases b5 <;> cases b6
  all_goals first
   | (exfalso; simp at h1 h2 h3 h4 h5' h6'; omega)
   | (go_enter Tryz.func104, Tryz.ntmps104
      go_wp2
      go_ret
      exact ⟨rfl, rfl⟩)
 rw [← letR_eq]
 exact key _ _ _ _ _ _ _ rfl rfl rfl rfl rfl rfl
def TakePost (v : Value) (ws : List ByteArray) (p : ByteArray) (w : World) (e : Ending) (w' : World) : Prop :=
 ∃ (v' : Value) (us : List ByteArray), e = .returned (.tuple #[v', .int .i64 (walkRes (stepW (ws.map bl) (bl p)))]) ∧ At [rowS v ws] w [rowS v' us] w' ∧ (stepW (ws.map bl) (bl p) = some (us.map bl) ∨ stepW (ws.map bl) (bl p) = none ∧ us = []) ∧ us.length ≤ ws.length + 1
def TakeRel (v : Value) (ws : List ByteArray) (p : ByteArray) (w : World) (k : Nat) (u6 : Value) (wr : World) : Prop :=
 ∃ i : Nat, u6 = .int .i64 i ∧ i + k = p.size ∧ At [rowS v ws] w [rowS v ws] wr ∧ ((bl p).take i).all letB = true
theorem take_any {w : World} {v : Value} {ws : List ByteArray} (h : Sep [rowS v ws] w) (p : ByteArray) (hmax : ws.length ≤ 2000000) (hp : p.size ≤ 2000000) : Calls Tryz.prog 90 #[v, .string p] w (TakePost v ws p w) := by
 have hA := At.start h
 have hF := hA.facts
 obtain ⟨i0, hi0, hz0, hz1, hz2⟩ := info_parts infoStr
 clear h
 by_cases e0 : bl p = [] ∨ bl p = [46]
 · have hk : stepW (ws.map bl) (bl p) = some (ws.map bl) := by rcases e0 with e | e <;> rw [e] <;> first | exact step_nil | exact step_dot
   rcases e0 with e0 | e0
   · obtain rfl : p = ⟨#[]⟩ := bytes_ext e0
     have hk' := Lib.hid hk
     clear hk e0
     go_enter Tryz.func90, Tryz.ntmps90
     go_wp2_with fail
     go_ret2
     exact ⟨v, ws, by rw [hk'.out]; rfl, hA, .inl hk'.out, by omega⟩
   · obtain rfl : p = ⟨#[46]⟩ := bytes_ext e0
     have hk' := Lib.hid hk
     clear hk e0
     go_enter Tryz.func90, Tryz.ntmps90
     go_wp2_with fail
     go_ret2
     exact ⟨v, ws, by rw [hk'.out]; rfl, hA, .inl hk'.out, by omega⟩
 · by_cases e1 : bl p = [46, 46]
   · obtain rfl : p = ⟨#[46, 46]⟩ := bytes_ext e1
     clear e0
     by_cases e2 : ws = []
     · subst e2
       obtain ⟨ax, cap, rfl, hax, hcap, _⟩ := hA.row_form (v := v) (xs := flatS []) sR
       clear hax hcap
       go_enter Tryz.func90, Tryz.ntmps90
       go_wp2_with fail
       go_ret2
       exact ⟨_, [], by rw [show stepW (([] : List ByteArray).map bl) (bl ⟨#[46, 46]⟩) = none from step_up0]; rfl, (hA.row_nil 9 1).pick pZ, .inr ⟨step_up0, rfl⟩, by simp⟩
     · have hl : 0 < ws.length := List.length_pos_iff.2 e2
       obtain ⟨ax, kn, cap, hv0, hkn⟩ := hA.row_hid (v := v) (xs := flatS ws) sR
       subst hv0
       have ek := hkn.out
       obtain rfl : kn = ws.length := ek
       have hl1 : ((ws.length : Int) == 0) = false := beq_eq_false_iff_ne.2 (by omega)
       have hl2 := Lib.hid (show ((ws.length : Int) - 1) = ((ws.length - 1 : Nat) : Int) by omega)
       have hst := Lib.hid (step_up (acc := ws.map bl) (by simpa using e2))
       clear e2
       go_enter Tryz.func90, Tryz.ntmps90
       go_wp2_with (refine wpList_cut_at (k := ws.length - 1) rfl rfl Tryz.underlying121 hi0 hz1 (by (try simp only [Act.eval, eV]) <;> exact rfl) (by exact congrArg (Value.int .i64) hl2.out) hA sR (by omega) ?_; intro v1 hB; obtain ⟨ax3, n3, cap3, hv3, hn3⟩ := hB.row_hid .here; subst hv3; clear hF hA; have hA := hB; clear hB; have hF := hA.facts; (try simp only [uZ] at hA hF))
       go_ret2
       have e3 : (flatS ws).take ((ws.length - 1) * 1) = flatS ws.dropLast := by
        unfold flatS
        rw [flat_take strC_len, List.dropLast_eq_take]
       have e4 : ws.length - 1 = ws.dropLast.length := by simp
       rw [e3, e4] at hA
       exact ⟨.slice ax3 n3 cap3, ws.dropLast, by rw [show stepW (ws.map bl) (bl ⟨#[46, 46]⟩) = _ from hst.out]; rfl, hA.pick (by with_reducible repeat (first | exact Picks.nil | refine Picks.cons sR ?_)), .inl (by rw [show stepW (ws.map bl) (bl ⟨#[46, 46]⟩) = _ from hst.out, List.map_dropLast]), by simp; omega⟩
   · have n0 : p.toList.isEmpty = false := by
      rw [Lib.toList_data]
      cases q : p.data.toList
      · exact absurd (Or.inl q) e0
      · rfl
     have n1 : (p.toList == [46]) = false := by rw [Lib.toList_data]; simpa using fun q => e0 (Or.inr q)
     have n2 : (p.toList == [46, 46]) = false := by rw [Lib.toList_data]; simpa using e1
     have hne : bl p ≠ [] := fun q => e0 (Or.inl q)
     have hno : partB (bl p) = false → stepW (ws.map bl) (bl p) = none := step_no hne (fun q => e0 (Or.inr q)) e1
     have hyes : (bl p).all letB = true → stepW (ws.map bl) (bl p) = some (ws.map bl ++ [bl p]) := fun q => step_part (partB_iff.2 ⟨hne, q⟩)
     have hno' := Lib.hid hno
     have hyes' := Lib.hid hyes
     clear hno hyes e0 e1 hne
     obtain ⟨ax, kn, cap, hv0, hkn⟩ := hA.row_hid (v := v) (xs := flatS ws) sR
     subst hv0
     go_enter Tryz.func90, Tryz.ntmps90
     go_wp2_with fail
     go_loopg [6] p.size (TakeRel (.slice ax kn cap) ws p w)
     case atStart => exact ⟨0, rfl, by simp, hA, by simp⟩
     case round =>
      obtain ⟨i, rfl, hk, hB, hal⟩ := hrel
      clear hF hA; have hA := hB; clear hB
      have hF := hA.facts; (try simp only [uZ] at hA hF)
      by_cases hi : i < p.size
      · cases hc : letB p[i]
        · have hlt := letterB_any p[i] wr
          rw [hc] at hlt
          have hn := Lib.hid (hno'.out (all_no hi hc))
          clear hc hal
          go_wp2_with fail
          ((with_reducible refine hlt.mono ?_))
          clear hlt
          rintro e _ ⟨rfl, rfl⟩
          go_wp2_with fail
          go_ret2
          exact ⟨_, [], by rw [hn.out]; rfl, (hA.row_nil 9 1).pick pZ, .inr ⟨hn.out, rfl⟩, by simp⟩
        · have hlt := letterB_any p[i] wr
          rw [hc] at hlt
          have hs := Lib.hid (all_succ hi hal hc)
          clear hc hal
          go_wp2_with fail
          ((with_reducible refine hlt.mono ?_))
          clear hlt
          rintro e _ ⟨rfl, rfl⟩
          go_wp2_with fail
          go_roundg (gk - 1)
          case measure => omega
          case rel => exact ⟨i + 1, by simp, by omega, hA, hs.out⟩
      · have hst := Lib.hid (hyes'.out (all_take hi hal))
        have hB := hA.row_nil 9 1
        clear hF hA hal; have hA := hB; clear hB
        have hF := hA.facts; (try simp only [uZ] at hA hF)
        have hd := Lib.hid hkn.out
        go_wp2_with (first | (refine wpList_one_at (e := 9) (vs := strC p) rfl rfl (by (try simp only [Act.eval, eV]) <;> exact rfl) (fun _ => by kernel_rfl) hA ?_; intro b2 w1 hB hb2; clear hF hA; have hA := hB; clear hB; have hF := hA.facts; (try simp only [uZ] at hA hF)) | (refine wpList_append_at (e := 9) (size := 1) (v := .slice ax3 n3 cap3) (xs := flatS ws) (n := 0 + ws.length) (m := 1) (news := strC p) rfl _ _ 121 rfl Tryz.underlying121 hi0 hz0 hz1 hz2 rfl (by omega) hA sR (by (try simp only [Act.eval, eV]) <;> exact rfl) (by (try simp only [Act.eval, eV]) <;> exact rfl) rfl (hA.cells_reads sR _ _) (strC_one p) (by unfold maxLen; omega) (by omega) ?_; intro v2 w1 hB; obtain ⟨ax4, n4, cap4, hv4, hn4⟩ := hB.row_hid .here; subst hv4; clear hF hA; have hA := hB; clear hB; have hF := hA.facts; (try simp only [uZ] at hA hF)) | (refine wpList_append_at (e := 9) (size := 1) (v := .slice none 0 0) (xs := []) (n := 0) (m := ws.length) (xv := .slice ax kn cap) (news := flatS ws) rfl _ _ 121 rfl Tryz.underlying121 hi0 hz0 hz1 hz2 rfl (by omega) hA sR (by (try simp only [Act.eval, eV]) <;> exact rfl) (by (try simp only [Act.eval, eV]) <;> exact rfl) (flat_len _ _ strC_len _) (hA.row_reads (n := ws.length) sR) (flat_one strC_one _) (by unfold maxLen; omega) (by omega) ?_; intro v1 w1 hB; obtain ⟨ax3, n3, cap3, hv3, hn3⟩ := hB.row_hid .here; subst hv3; clear hF hA; have hA := hB; clear hB; have hF := hA.facts; (try simp only [uZ] at hA hF)))
        go_ret2
        refine ⟨.slice ax4 n4 cap4, ws ++ [p], by rw [hst.out]; rfl, ?_, .inl (by rw [hst.out]; simp), by simp⟩
        rw [show flatS ws ++ strC p = flatS (ws ++ [p]) by simp [flatS, List.flatMap_append], show 0 + ws.length + 1 = (ws ++ [p]).length by simp] at hA
        exact hA.pick (by with_reducible repeat (first | exact Picks.nil | refine Picks.cons sR ?_))
end Go.Proofs.YtgbpfgdjnhbcgaaGreatDoor.Path
end
section
namespace Go.Proofs.YtgbpfgdjnhbcgaaGreatDoor.Path
open Go.RowKit
def leftL (cur t : Bs) : List Bs := (cur ++ (splits t).headD []) :: (splits t).tail
theorem leftL_nil (t : Bs) : leftL [] t = splits t := by
 unfold leftL
 cases h : splits t with
 | nil => exact absurd h (splits_ne t)
 | cons a b => rfl
theorem leftL_end (cur : Bs) : leftL cur [] = [cur] := by simp [leftL, splits]
theorem leftL_slash (cur t : Bs) : leftL cur (47 :: t) = cur :: splits t := by simp [leftL, splits_cons]
theorem leftL_go (cur t : Bs) (c : UInt8) (h : c ≠ 47) : leftL cur (c :: t) = leftL (cur ++ [c]) t := by simp [leftL, splits_cons, h]
def RPartsRel (s : ByteArray) (w : World) (k : Nat) (u4 u5 u6 u7 : Value) (wr : World) : Prop :=
 ∃ (i : Nat) (v : Value) (ws : List ByteArray) (cur : ByteArray), u4 = v ∧ u5 = .string cur ∧ u6 = .int .i64 0 ∧ u7 = .int .i64 i ∧ i + k = s.size + 1 ∧ At [] w [rowS v ws] wr ∧ ws.length ≤ i ∧ cur.size ≤ i ∧
  walkL [] (splits (bl s)) = if i ≤ s.size then walkL (ws.map bl) (leftL (bl cur) ((bl s).drop i)) else some (ws.map bl)
def RPartsPost (s : ByteArray) (w : World) (e : Ending) (w' : World) : Prop :=
 ∃ (v : Value) (ws : List ByteArray), e = .returned (.tuple #[v, .int .i64 (walkRes (walkL [] (splits (bl s))))]) ∧ At [] w [rowS v ws] w' ∧ (walkL [] (splits (bl s)) = some (ws.map bl) ∨ walkL [] (splits (bl s)) = none ∧ ws = []) ∧ ws.length ≤ s.size + 1
theorem partsR_any (s : ByteArray) (w : World) (hs : s.size ≤ 2000000) : Calls Tryz.prog 70 #[.string s] w (RPartsPost s w) := by
 have hA := (At.start (w0 := w) (L0 := []) trivial).row_nil 9 1
 have hF := hA.facts
 go_enter Tryz.func70, Tryz.ntmps70
 go_wp2_with fail
 go_loopg [4, 5, 6, 7] (s.size + 1) (RPartsRel s w)
 case atStart => exact ⟨0, _, [], ⟨#[]⟩, rfl, rfl, rfl, rfl, by simp, hA, by simp, Nat.le_refl _, by simp [show bl ⟨#[]⟩ = [] from rfl, leftL_nil]⟩
 case round =>
  obtain ⟨i, v, ws, cur, rfl, rfl, rfl, rfl, hk, hB, hwl, hcl, hw⟩ := hrel
  clear hF hA; have hA := hB; clear hB
  obtain ⟨ax, kn, cap, hv0, hkn⟩ := hA.row_hid (v := u4) (xs := flatS ws) sR
  subst hv0
  have hF := hA.facts; (try simp only [uZ] at hA hF)
  have hsz : (bl s).length = s.size := by simp
  by_cases hi : i < s.size
  · rw [if_pos (by omega), List.drop_eq_getElem_cons (by omega)] at hw
    by_cases hc : s[i] = 47
    · have hc' : (bl s)[i]'(by omega) = 47 := hc
      rw [hc', leftL_slash] at hw
      have hn : ((s[i].toNat : Int) != 47) = false := by rw [hc]; rfl
      have htk := take_any (hA.sep1 (A := rowS (.slice ax kn cap) ws) sR) cur (by omega) (by omega)
      have hw' := Lib.hid hw
      clear hw hc hc' hsz
      go_wp2_with fail
      refine htk.mono ?_
      clear htk
      rintro e w1 ⟨v', us, rfl, hT, hres, hul⟩
      have hB := hA.call1 sR hT
      clear hF hA hT; have hA := hB; clear hB
      simp only [uA] at hA
      obtain ⟨ax2, kn2, cap2, hv2, hkn2⟩ := hA.row_hid (v := v') (xs := flatS us) sR
      subst hv2
      have hF := hA.facts; (try simp only [uZ] at hA hF)
      rcases hres with hre | ⟨hre, hus⟩
      · rw [hre]
        have hw2 := hw'.out
        rw [walkL, hre] at hw2
        simp only at hw2
        have hw3 := Lib.hid hw2
        simp only [walkRes]
        clear hw2 hw' hre
        go_wp2_with fail
        go_roundg (gk - 1)
        case measure => omega
        case rel => exact ⟨i + 1, _, us, ⟨#[]⟩, rfl, rfl, rfl, by simp, by omega, hA, by omega, Nat.zero_le _, by rw [hw3.out, if_pos (by omega), show bl ⟨#[]⟩ = [] from rfl, leftL_nil]⟩
      · rw [hre]
        have hw2 := hw'.out
        rw [walkL, hre] at hw2
        simp only at hw2
        have hw3 := Lib.hid hw2
        simp only [walkRes]
        clear hw2 hw' hre
        go_wp2_with fail
        go_ret2
        exact ⟨.slice none 0 0, [], by rw [hw3.out]; rfl, (hA.row_nil 9 1).pick pZ, .inr ⟨hw3.out, rfl⟩, by simp⟩
    · have hc' : (bl s)[i]'(by omega) ≠ 47 := hc
      rw [leftL_go _ _ _ hc'] at hw
      have hn : ((s[i].toNat : Int) != 47) = true := by
       rw [bne_iff_ne]
       intro e
       apply hc
       apply UInt8.toNat_inj.1
       have : s[i].toNat = 47 := by omega
       rw [this]; rfl
      have hx : bl (cur ++ s.extract i (i + 1)) = bl cur ++ [(bl s)[i]'(by omega)] := by
       simp only [bl]
       simp
       rw [List.drop_eq_getElem_cons (by simpa using hi)]
       simp
      have hxl : (cur ++ s.extract i (i + 1)).size = cur.size + 1 := by
       have := congrArg List.length hx
       simp only [bl, List.length_append, List.length_cons, List.length_nil, Array.length_toList] at this
       exact this
      rw [← hx] at hw
      have hw' := Lib.hid hw
      have hxl' := Lib.hid hxl
      clear hw hc hc' hsz hx hxl
      go_wp2_with fail
      go_roundg (gk - 1)
      case measure => omega
      case rel => exact ⟨i + 1, _, ws, cur ++ s.extract i (i + 1), rfl, rfl, rfl, by simp, by omega, hA, by omega, by have := hxl'.out; omega, by rw [if_pos (by omega)]; exact hw'.out⟩
  · by_cases hi2 : i = s.size
    · subst hi2
      rw [if_pos (Nat.le_refl _), List.drop_eq_nil_of_le (by omega), leftL_end] at hw
      have htk := take_any (hA.sep1 (A := rowS (.slice ax kn cap) ws) sR) cur (by omega) (by omega)
      have hw' := Lib.hid hw
      have hnlt : ¬ (s.size : Int) < s.size := by omega
      clear hw hsz hi
      go_wp2_with fail
      refine htk.mono ?_
      clear htk
      rintro e w1 ⟨v', us, rfl, hT, hres, hul⟩
      have hB := hA.call1 sR hT
      clear hF hA hT; have hA := hB; clear hB
      simp only [uA] at hA
      obtain ⟨ax2, kn2, cap2, hv2, hkn2⟩ := hA.row_hid (v := v') (xs := flatS us) sR
      subst hv2
      have hF := hA.facts; (try simp only [uZ] at hA hF)
      rcases hres with hre | ⟨hre, hus⟩
      · rw [hre]
        have hw2 := hw'.out
        rw [walkL, hre] at hw2
        simp only at hw2
        have hw3 := Lib.hid hw2
        simp only [walkRes]
        clear hw2 hw' hre
        go_wp2_with fail
        go_roundg (gk - 1)
        case measure => omega
        case rel => exact ⟨s.size + 1, _, us, ⟨#[]⟩, rfl, rfl, rfl, by simp, by omega, hA, by omega, Nat.zero_le _, by rw [hw3.out, if_neg (by omega), walkL]⟩
      · rw [hre]
        have hw2 := hw'.out
        rw [walkL, hre] at hw2
        simp only at hw2
        have hw3 := Lib.hid hw2
        simp only [walkRes]
        clear hw2 hw' hre
        go_wp2_with fail
        go_ret2
        exact ⟨.slice none 0 0, [], by rw [hw3.out]; rfl, (hA.row_nil 9 1).pick pZ, .inr ⟨hw3.out, rfl⟩, by simp⟩
    · rw [if_neg (by omega)] at hw
      have hw' := Lib.hid hw
      have hgt : ¬ (i : Int) ≤ s.size := by omega
      clear hw hsz
      go_wp2_with fail
      go_ret2
      exact ⟨.slice ax kn cap, ws, by rw [hw'.out]; rfl, hA.pick (by with_reducible repeat (first | exact Picks.nil | refine Picks.cons sR ?_)), .inl hw'.out, by omega⟩
end Go.Proofs.YtgbpfgdjnhbcgaaGreatDoor.Path
end
section
namespace Go.Proofs.YtgbpfgdjnhbcgaaGreatDoor.Path
open Go.RowKit
theorem join_snoc : ∀ (l : List Bs) (x : Bs), l ≠ [] → joinS (l ++ [x]) = joinS l ++ 47 :: x
 | [], x, h => absurd rfl h
 | [p], x, _ => by rw [List.cons_append, List.nil_append, join_cons _ _ (by simp), join_one, join_one]
 | p :: q :: r, x, _ => by
  have ih := join_snoc (q :: r) x (by simp)
  rw [List.cons_append, join_cons p ((q :: r) ++ [x]) (by simp), ih, join_cons p (q :: r) (by simp), List.append_assoc, List.cons_append]
theorem shut_S {L0 L F : List Part} {w0 w : World} {g cap : Nat} {c : List Value} {ws : List ByteArray} (h : At L0 w0 L w) (s : Sel (Part.cells g c 9) L F) (hl : c.length = cap * 1) (hn : ws.length ≤ cap) (hm : cap ≤ maxLen) (ht : c.take (ws.length * 1) = flatS ws) :
 At L0 w0 (rowS (.slice (some ⟨g, 0, none⟩) ws.length cap) ws :: F) w := h.row_shut s hl hn hm ht
def RJoinRel (w : World) (v : Value) (ws : List ByteArray) (k : Nat) (u3 u4 : Value) (wr : World) : Prop :=
 ∃ (i : Nat) (cur : ByteArray), u3 = .string cur ∧ u4 = .int .i64 i ∧ i + k = ws.length ∧ At [rowS v ws] w [rowS v ws] wr ∧ bl cur = joinS ((ws.take i).map bl) ∧ cur.size ≤ i * 2000001
def RJoinPost (w : World) (v : Value) (ws : List ByteArray) (e : Ending) (w' : World) : Prop := ∃ q : ByteArray, e = .returned (.string q) ∧ bl q = joinS (ws.map bl) ∧ At [rowS v ws] w [rowS v ws] w'
theorem joinR_any {w : World} {v : Value} {ws : List ByteArray} (h : Sep [rowS v ws] w) (hmax : ws.length ≤ 2000001) (hbd : ∀ x ∈ ws, x.size ≤ 2000000) : Calls Tryz.prog 71 #[v] w (RJoinPost w v ws) := by
 have hA := At.start h
 have hF := hA.facts
 clear h
 obtain ⟨ax, cap, rfl, hax, hcap, _⟩ := hA.row_form (v := v) (xs := flatS ws) sR
 have hcap' := Lib.hid hcap
 have hbd' := Lib.hid hbd
 clear hbd
 clear hax hcap
 go_enter Tryz.func71, Tryz.ntmps71
 go_wp2_with fail
 go_loopg [3, 4] ws.length (RJoinRel w (.slice ax ws.length cap) ws)
 case atStart => exact ⟨0, ⟨#[]⟩, rfl, rfl, by simp, hA, rfl, Nat.zero_le _⟩
 case round =>
  obtain ⟨i, cur, rfl, rfl, hk, hB, hj, hcs⟩ := hrel
  clear hF hA; have hA := hB; clear hB
  by_cases hi : i < ws.length
  · obtain ⟨g, c, rfl, _, hcm, hcl, hct, hB⟩ := hA.row_open (ax := ax) (cap := cap) (n := ws.length) (xs := flatS ws) sR (by omega)
    have c0 : c[i]? = some (.string ws[i]) := flatS_at hct (List.getElem?_eq_getElem hi)
    have hxs : ws[i].size ≤ 2000000 := hbd'.out _ (List.getElem_mem hi)
    have hcs2 : cur.size ≤ 8000000000000 := by omega
    have hsz1 : (cur ++ (⟨#[47]⟩ : ByteArray) ++ ws[i]).size = cur.size + 1 + ws[i].size := by rw [ByteArray.size_append, ByteArray.size_append]; rfl
    have hsz2 : Hid ((cur ++ (⟨#[47]⟩ : ByteArray) ++ ws[i]).size ≤ (i + 1) * 2000001) := Lib.hid (by rw [hsz1, Nat.add_mul]; omega)
    clear hsz1
    have ht : ws.take (i + 1) = ws.take i ++ [ws[i]] := List.take_succ_eq_append_getElem hi
    have ht' := Lib.hid ht
    have hj' := Lib.hid hj
    have hct' := Lib.hid hct
    have hcl' := Lib.hid hcl
    clear hA ht hj hct hcl; have hA := hB; clear hB
    have hF := hA.facts; (try simp only [uZ] at hA hF)
    by_cases h0 : i = 0
    · subst h0
      go_wp2_with fail
      go_roundg (gk - 1)
      case measure => omega
      case rel => exact ⟨1, _, rfl, rfl, by omega, (shut_S hA sR hcl'.out hcap'.out hcm hct'.out).pick (by with_reducible repeat (first | exact Picks.nil | refine Picks.cons sR ?_)), by rw [show bl (cur ++ ws[0]) = bl cur ++ bl ws[0] by simp [bl], hj'.out, ht'.out]; simp [join_one]; simp [joinS, Lib.join], by simp; omega⟩
    · have hpos : 0 < i := by omega
      go_wp2_with fail
      go_roundg (gk - 1)
      case measure => omega
      case rel => exact ⟨i + 1, _, rfl, by simp, by omega, (shut_S hA sR hcl'.out hcap'.out hcm hct'.out).pick (by with_reducible repeat (first | exact Picks.nil | refine Picks.cons sR ?_)), by rw [show bl (cur ++ ⟨#[47]⟩ ++ ws[i]) = bl cur ++ 47 :: bl ws[i] by simp [bl], hj'.out, ht'.out, List.map_append, List.map_cons, List.map_nil, join_snoc _ _ (by intro e; have := congrArg List.length e; rw [List.length_map, List.length_take, List.length_nil] at this; omega)], hsz2.out⟩
  · have hj' := Lib.hid hj
    clear hj
    have hF := hA.facts; (try simp only [uZ] at hA hF)
    go_wp2_with fail
    go_ret
    exact ⟨cur, rfl, by rw [hj'.out, List.take_of_length_le (by omega)], hA⟩
def RNormPost (s : ByteArray) (w : World) (e : Ending) (w' : World) : Prop :=
 ∃ q : ByteArray, e = .returned (.tuple #[.string q, .int .i64 (normL (bl s)).2]) ∧ bl q = (normL (bl s)).1 ∧ Ext w w'
theorem normalR_any (s : ByteArray) (w : World) (hs : s.size ≤ 2000000) : Calls Tryz.prog 54 #[.string s] w (RNormPost s w) := by
 have hA := At.start (w0 := w) (L0 := []) trivial
 have hF := hA.facts
 go_enter Tryz.func54, Tryz.ntmps54
 go_wp2_with fail
 refine (partsR_any s w (by omega)).mono ?_
 rintro e w1 ⟨v, ws, rfl, hT, hres, hlen⟩
 have hB := hA.call0 hT
 clear hF hA hT; have hA := hB; clear hB
 simp only [List.append_nil] at hA
 obtain ⟨ax, cap, hv, hax0, hcap0, _⟩ := hA.row_form (v := v) (n := ws.length) (xs := flatS ws) sR
 subst hv
 clear hax0 hcap0
 have hn : normL (bl s) = (match walkL [] (splits (bl s)) with
  | none => ([], 30)
  | some l => if l = [] then ([], 13) else if 8 < l.length then ([], 31) else if 64 < (joinS l).length then ([], 11) else (joinS l, 0)) := rfl
 rcases hres with hre | ⟨hre, hw0⟩
 · rw [hre] at hn
   simp only at hn
   have hbd : ∀ x ∈ ws, x.size ≤ 2000000 := fun x hx => by
    have h1 : bl x ∈ splits (bl s) := by
     rcases walk_mem hre (bl x) (List.mem_map.2 ⟨x, hx, rfl⟩) with h | h
     · simp at h
     · exact h
    have h2 := splits_mem_len (bl s) _ h1
    have h3 : (bl x).length = x.size := by simp
    have h4 : (bl s).length = s.size := by simp
    omega
   rw [hre]
   simp only [walkRes]
   simp only [List.length_map] at hn
   by_cases e1 : ws = []
   · subst e1
     simp only [List.map_nil, if_pos] at hn
     have hn' := Lib.hid hn
     clear hn hre hlen hbd
     have hF := hA.facts; (try simp only [uZ] at hA hF)
     go_wp2_with fail
     go_ret2
     exact ⟨⟨#[]⟩, by rw [hn'.out]; rfl, by rw [hn'.out], hA.toExt⟩
   · rw [if_neg (by simpa using e1)] at hn
     have hl0 : ((ws.length : Int) == 0) = false := by simpa using e1
     by_cases e2 : 8 < ws.length
     · rw [if_pos e2] at hn
       have hn' := Lib.hid hn
       clear hn hre hlen hbd e1
       have hF := hA.facts; (try simp only [uZ] at hA hF)
       go_wp2_with fail
       go_ret2
       exact ⟨⟨#[]⟩, by rw [hn'.out]; rfl, by rw [hn'.out], hA.toExt⟩
     · rw [if_neg e2] at hn
       have hj1 := joinR_any (hA.sep1 (A := rowS (.slice ax ws.length cap) ws) sR) (by omega) hbd
       have hn' := Lib.hid hn
       have hbd' := Lib.hid hbd
       clear hn hre hlen e1 hbd
       have hF := hA.facts; (try simp only [uZ] at hA hF)
       go_wp2_with fail
       refine hj1.mono ?_
       clear hj1
       rintro e w2 ⟨q, rfl, hq, hT⟩
       have hB := hA.call1 sR hT
       clear hF hA hT; have hA := hB; clear hB
       simp only [uA] at hA
       have hjs : (joinS (ws.map bl)).length = q.size := by rw [← hq]; simp
       have hn2 := hn'.out
       rw [hjs] at hn2
       have hq' := Lib.hid hq
       clear hn' hjs hq
       have hF := hA.facts; (try simp only [uZ] at hA hF)
       by_cases e3 : 64 < q.size
       · rw [if_pos e3] at hn2
         have hn3 := Lib.hid hn2
         clear hn2
         go_wp2_with fail
         go_ret2
         exact ⟨⟨#[]⟩, by rw [hn3.out]; rfl, by rw [hn3.out], hA.toExt⟩
       · rw [if_neg e3] at hn2
         have hn3 := Lib.hid hn2
         have hj2 := joinR_any (hA.sep1 (A := rowS (.slice ax ws.length cap) ws) sR) (by omega) hbd'.out
         clear hn2
         go_wp2_with fail
         refine hj2.mono ?_
         clear hj2
         rintro e w3 ⟨q2, rfl, hq2, hT⟩
         have hB := hA.call1 sR hT
         clear hF hA hT
         go_wp2_with fail
         go_ret2
         exact ⟨q2, by rw [hn3.out]; rfl, by rw [hn3.out]; exact hq2, hB.toExt⟩
 · rw [hre] at hn
   simp only at hn
   subst hw0
   rw [hre]
   simp only [walkRes]
   have hn' := Lib.hid hn
   clear hn hre hlen
   have hF := hA.facts; (try simp only [uZ] at hA hF)
   go_wp2_with fail
   go_ret2
   exact ⟨⟨#[]⟩, by rw [hn'.out]; rfl, by rw [hn'.out], hA.toExt⟩
theorem rightR_any (s : ByteArray) (w : World) (hs : s.size ≤ 2000000) : Calls Tryz.prog 24 #[.string s] w fun e w' => e = .returned (.bool (rightB (bl s))) ∧ Ext w w' := by
 have hr := right_norm (bl s)
 go_enter Tryz.func24, Tryz.ntmps24
 go_wp2_with fail
 refine (normalR_any s w hs).mono ?_
 rintro e w1 ⟨q, rfl, hq, hx⟩
 rw [← hq] at hr
 have heq := eqB q s
 obtain ⟨n2, hn2⟩ : ∃ n, (normL (bl s)).2 = n := ⟨_, rfl⟩
 rw [hn2] at hr ⊢
 clear hn2 hq
 by_cases h0 : n2 = 0
 · subst h0
   by_cases h1 : bl q = bl s
   · have hb : rightB (bl s) = true := hr.1 ⟨rfl, h1⟩
     rw [decide_eq_true h1] at heq
     have hb' := Lib.hid hb
     clear hb hr h1
     go_wp2_with fail
     go_ret
     exact ⟨by rw [hb'.out]; rfl, hx⟩
   · have hb : rightB (bl s) = false := by
      cases hb : rightB (bl s)
      · rfl
      · exact absurd (hr.2 hb).2 h1
     rw [decide_eq_false h1] at heq
     have hb' := Lib.hid hb
     clear hb hr h1
     go_wp2_with fail
     go_ret
     exact ⟨by rw [hb'.out]; rfl, hx⟩
 · have hb : rightB (bl s) = false := by
    cases hb : rightB (bl s)
    · rfl
    · exact absurd (hr.2 hb).1 h0
   have hb' := Lib.hid hb
   have h0' : (n2 == 0) = false := by simpa using h0
   clear hb hr h0 heq
   go_wp2_with fail
   go_ret
   exact ⟨by rw [hb'.out]; rfl, hx⟩
end Go.Proofs.YtgbpfgdjnhbcgaaGreatDoor.Path
end
section
namespace Go.Proofs.YtgbpfgdjnhbcgaaGreatDoor.Cmd
open Go.RowKit
open Path (bl rightB overB)
attribute [-go_sem] run_eql_struct run_neq_struct run_eqGuard_agg
theorem hasR_any (w : World) : Calls Tryz.prog 62 #[] w fun e w' => e = .returned (.agg #[.bool false, .bool false, .bool false, .bool false, .bool false, .bool false, .bool true, .bool true, .bool false, .bool false, .bool true, .bool true, .bool true, .bool true, .bool false, .bool false, .bool false, .bool false, .bool true, .bool true, .bool false, .bool false, .bool false, .bool true, .bool true, .bool true, .bool true, .bool true, .bool false, .bool false, .bool true, .bool true, .bool true, .bool true, .bool false, .bool false, .bool true, .bool true, .bool true, .bool false, .bool false, .bool false, .bool true, .bool true, .bool true, .bool false, .bool true, .bool false, .bool true, .bool false, .bool false, .bool false, .bool false, .bool true]) ∧ Ext w w' := by
 have hA : At [] w [] w := At.start (L0 := []) trivial
 have hF := hA.facts; (try simp only [uY] at hA hF)
 go_enter Tryz.func62, Tryz.ntmps62
 go_wp2_with (first | ((with_reducible refine gal ?_); refine wG 112 [.bool false, .bool false, .bool false, .bool false, .bool false, .bool false, .bool false, .bool false, .bool false, .bool false, .bool false, .bool false, .bool false, .bool false, .bool false, .bool false, .bool false, .bool false, .bool false, .bool false, .bool false, .bool false, .bool false, .bool false, .bool false, .bool false, .bool false, .bool false, .bool false, .bool false, .bool false, .bool false, .bool false, .bool false, .bool false, .bool false, .bool false, .bool false, .bool false, .bool false, .bool false, .bool false, .bool false, .bool false, .bool false, .bool false, .bool false, .bool false, .bool false, .bool false, .bool false, .bool false, .bool false, .bool false] hA ?_; clear hF hA; intro bH w1 hA hbH hF; (try simp only [uY] at hA hF)) | ((with_reducible refine gst ?_); refine wT hA ?_; clear hF hA; intro w1 hA hF; (try simp only [uY] at hA hF)) | ((with_reducible refine gbx ?_); refine wC hA ?_; clear hF hA; intro b1 w1 hA hb1 hF; (try simp only [uY] at hA hF)))
 have hg : BlockIs w1 bH _ 112 := hA.get (A := Part.cells bH _ 112) sR
 unfold BlockIs at hg
 clear hF
 exact bodyPost_ret (Go.results_cell_row (h := rfl) _ _ bH _ _ _ _ rfl hg Tryz.underlying112 rfl (by kernel_rfl)) rfl ⟨rfl, hA.toExt⟩
theorem rightR_8 (num : Int) (foot : ByteArray) (req : Int) (path : ByteArray) (mode n time : Int) (w : World) {nr np nm nn rf t0 t1 : Bool} (hnr : (req != 0) = nr) (hnp : if np then ¬ path.toList = [] else path.toList = []) (hnm : (mode != 0) = nm) (hnn : (n != 0) = nn) (hf : foot.size ≤ 1000) (hrf0 : rightB (bl foot) = rf) (ht0 : decide (0 ≤ time) = t0) (ht1 : decide (time ≤ 1099511627776) = t1) :
 Calls Tryz.prog 61 #[.agg #[.int .i64 8, .int .u64 num, .string foot, .int .u64 req, .string path, .int .i64 mode, .int .u64 n, .int .i64 time]] w fun e w' => e = .returned (.bool (!nr && !np && !nm && !nn && rf && (t0 && t1))) ∧ Ext w w' := by
 have hA : At [] w [] w := At.start (L0 := []) trivial
 have hF := hA.facts
 have hh := fun w => hasR_any w
 have hix : ∀ w, (Instr.index 112 (.agg #[.bool false, .bool false, .bool false, .bool false, .bool false, .bool false, .bool true, .bool true, .bool false, .bool false, .bool true, .bool true, .bool true, .bool true, .bool false, .bool false, .bool false, .bool false, .bool true, .bool true, .bool false, .bool false, .bool false, .bool true, .bool true, .bool true, .bool true, .bool true, .bool false, .bool false, .bool true, .bool true, .bool true, .bool true, .bool false, .bool false, .bool true, .bool true, .bool true, .bool false, .bool false, .bool false, .bool true, .bool true, .bool true, .bool false, .bool true, .bool false, .bool true, .bool false, .bool false, .bool false, .bool false, .bool true]) (.int .i64 8)).run Tryz.prog w = .ok (.agg #[.bool true, .bool false, .bool false, .bool false, .bool false, .bool true]) w := fun w => by kernel_rfl
 have hrf := fun w => Path.rightR_any foot w (by omega)
 rw [hrf0] at hrf
 clear hrf0
 have hF := hA.facts; (try simp only [uY] at hA hF)
 go_enter Tryz.func61, Tryz.ntmps61
 go_wp2_with (first | ((with_reducible refine gbx ?_); refine wH 57 [.int .i64 8, .int .u64 num, .string foot, .int .u64 req, .string path, .int .i64 mode, .int .u64 n, .int .i64 time] hA ?_; clear hF hA; intro bX w1 hA hbX hF; (try simp only [uY] at hA hF)) | ((with_reducible refine gst ?_); refine wT hA ?_; clear hF hA; intro w1 hA hF; (try simp only [uY] at hA hF)) | ((with_reducible refine gbx ?_); refine wC hA ?_; clear hF hA; intro b1 w1 hA hb1 hF; (try simp only [uY] at hA hF)))
 try go_frame
 (refine wp_region_new (a1 := ?a1_q1) (v := ?v_q1) 4 3 111 _ (.agg #[.bool false, .bool false, .bool false, .bool false, .bool false, .bool false]) [.bool false, .bool false, .bool false, .bool false, .bool false, .bool false] ([.bool true, .bool false, .bool false, .bool false, .bool false, .bool true]) (by kernel_rfl) (by kernel_rfl) rfl rfl ?hyd_q1 (by kernel_rfl) rfl hA ?h1_q1 ?hd_q1 ?hy_q1 ?hu_q1 ?hsz_q1 ?hus_q1 ?hl_q1 ?h2_q1); (case h1_q1 => (intro R wR hR; (try clear hF); (simp only [List.take_succ_cons, List.take_zero, List.drop_succ_cons, List.drop_zero]); (have hn1 := Cl.none hR); (have hn2 := Cl.none2 hR); (repeat (first | go_big_quiet_skip | (go_big_quiet_want; (first | (refine qL ?_; go_frame; go_big_quiet_on) | (go_big_quiet_op; (first | go_big_quiet_on | ((apply Exists.intro); (refine ⟨fun w1 hw => ?_, ?_⟩); (focus ((have hw := Cl.out hw); (first | exact through0 hw (hh _)))); (go_big_quiet_on)))))))); (refine wpQuiet_nil ?_); exact rfl)); (case hyd_q1 => rfl); (case hd_q1 => (first | decide | simp)); (case hy_q1 => ((try simp only [Act.eval, Array.getD_eq_getD_getElem?, List.getElem?_toArray, List.getElem?_cons_succ, List.getElem?_cons_zero, Option.getD_some]); exact rfl)); (case hu_q1 => exact rfl); (case hsz_q1 => kernel_rfl); (case hus_q1 => rfl); (case hl_q1 => rfl); (intro b1 w1 hB hb1; clear hF hA; have hA := hB; clear hB; (simp only [List.drop_succ_cons, List.drop_zero]); have hF := hA.facts; (try simp only [uY] at hA hF); (try go_frame))
 clear hh hix
 cases nr
 · cases np
   · simp only [Bool.false_eq_true, if_false] at hnp
     cases nm
     · cases nn
       · go_wp2_with (first | ((with_reducible refine gst ?_); refine wT hA ?_; clear hF hA; intro w1 hA hF; (try simp only [uY] at hA hF)) | ((with_reducible refine gbx ?_); refine wC hA ?_; clear hF hA; intro b1 w1 hA hb1 hF; (try simp only [uY] at hA hF)))
         refine (hrf _).mono ?_
         rintro e w4 ⟨rfl, hx⟩
         have hB := hA.ext hx
         clear hF hA hx; have hA := hB; clear hB
         have hF := hA.facts; (try simp only [uY] at hA hF)
         cases rf
         · go_wp2_with (first | ((with_reducible refine gst ?_); refine wT hA ?_; clear hF hA; intro w1 hA hF; (try simp only [uY] at hA hF)) | ((with_reducible refine gbx ?_); refine wC hA ?_; clear hF hA; intro b1 w1 hA hb1 hF; (try simp only [uY] at hA hF)))
           go_ret
           exact ⟨rfl, hA.toExt⟩
         · cases t0
           · go_wp2_with (first | ((with_reducible refine gst ?_); refine wT hA ?_; clear hF hA; intro w1 hA hF; (try simp only [uY] at hA hF)) | ((with_reducible refine gbx ?_); refine wC hA ?_; clear hF hA; intro b1 w1 hA hb1 hF; (try simp only [uY] at hA hF)))
             go_ret
             exact ⟨rfl, hA.toExt⟩
           · cases t1
             · go_wp2_with (first | ((with_reducible refine gst ?_); refine wT hA ?_; clear hF hA; intro w1 hA hF; (try simp only [uY] at hA hF)) | ((with_reducible refine gbx ?_); refine wC hA ?_; clear hF hA; intro b1 w1 hA hb1 hF; (try simp only [uY] at hA hF)))
               go_ret
               exact ⟨rfl, hA.toExt⟩
             · go_wp2_with (first | ((with_reducible refine gst ?_); refine wT hA ?_; clear hF hA; intro w1 hA hF; (try simp only [uY] at hA hF)) | ((with_reducible refine gbx ?_); refine wC hA ?_; clear hF hA; intro b1 w1 hA hb1 hF; (try simp only [uY] at hA hF)))
               go_ret
               exact ⟨rfl, hA.toExt⟩
       · go_wp2_with (first | ((with_reducible refine gst ?_); refine wT hA ?_; clear hF hA; intro w1 hA hF; (try simp only [uY] at hA hF)) | ((with_reducible refine gbx ?_); refine wC hA ?_; clear hF hA; intro b1 w1 hA hb1 hF; (try simp only [uY] at hA hF)))
         go_ret
         exact ⟨rfl, hA.toExt⟩
     · go_wp2_with (first | ((with_reducible refine gst ?_); refine wT hA ?_; clear hF hA; intro w1 hA hF; (try simp only [uY] at hA hF)) | ((with_reducible refine gbx ?_); refine wC hA ?_; clear hF hA; intro b1 w1 hA hb1 hF; (try simp only [uY] at hA hF)))
       go_ret
       exact ⟨rfl, hA.toExt⟩
   · simp only [if_true] at hnp
     go_wp2_with (first | ((with_reducible refine gst ?_); refine wT hA ?_; clear hF hA; intro w1 hA hF; (try simp only [uY] at hA hF)) | ((with_reducible refine gbx ?_); refine wC hA ?_; clear hF hA; intro b1 w1 hA hb1 hF; (try simp only [uY] at hA hF)))
     go_ret
     exact ⟨rfl, hA.toExt⟩
 · go_wp2_with (first | ((with_reducible refine gst ?_); refine wT hA ?_; clear hF hA; intro w1 hA hF; (try simp only [uY] at hA hF)) | ((with_reducible refine gbx ?_); refine wC hA ?_; clear hF hA; intro b1 w1 hA hb1 hF; (try simp only [uY] at hA hF)))
   go_ret
   exact ⟨rfl, hA.toExt⟩
end Go.Proofs.YtgbpfgdjnhbcgaaGreatDoor.Cmd
end
