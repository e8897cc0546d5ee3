/- RegH, TabG, TabH, CollM, MarkC, LockS, joined. -/
import Derived.Test.YtpebabaigakagaaGreatDoorK1
import Derived.Test.YtpebabaigakagaaGreatDoorK21
import Derived.Test.YtpebabaigakagaaGreatDoorK6
import Derived.RangeFuncNested
import Derived.RangeFuncBound
import Derived.RangeFuncCalls
import Derived.RangeFuncLeaves
import Derived.Shelf.Abstract
import Derived.WalkKit
import Derived.OwnWalkIn
import Derived.TacticsInMore
import Derived.LoopNIn
import Derived.LoopIn
import Derived.Maps.AppendAt
import Derived.Test.YtpebabaigakagaaGreatDoorK2
import Derived.Test.YtpebabaigakagaaGreatDoorChecked
import Derived.Test.YtpebabaigakagaaGreatDoorShelf
import Derived.Test.YtpebabaigakagaaGreatDoorSort
import Derived.Deep.QuietTactic
import Derived.BigQuiet
import Derived.Deep.Cut
import Derived.WalkLawsBesides
import Derived.Test.YtpebabaigakagaaGreatDoorK10
section
namespace Go.Proofs.YtpebabaigakagaaGreatDoor
open Go.RowKit
set_option linter.unusedVariables false
set_option linter.unusedSimpArgs false

theorem setL_whole {c vs : List Value} (h : c.length = vs.length) : setL c 0 vs = vs := by
  apply List.ext_getElem?
  intro j
  by_cases hj : j < vs.length
  · have := setL_in vs c 0 j (by omega) hj
    rwa [Nat.zero_add] at this
  · rw [List.getElem?_eq_none (by rw [setL_length]; omega), List.getElem?_eq_none (by omega)]
section
variable {P : Program} {ops : Array Oper} {rest : List Oper} {o : Oper} {a : Act} {Q : Exit → Act → World → Prop} {L0 L F : List Part} {w0 w : World}
theorem wpList_storeAll_at {ty : TypeId} {x y : Operand} (hg : o.guard = none) (hop : o.op = .store ty x y) {b : Nat} (hx : a.eval x = .pointer (some ⟨b, 0, none⟩)) {v : Value} (hy : a.eval y = v) {vs : List Value} (hv : v.cells = vs.toArray)
    (h : At L0 w0 L w) {c : List Value} {T : TypeId} (s : Sel (Part.cells b c T) L F) (hi : (P.info? ty).map (·.size) = some vs.length) (h1 : vs.all (·.oneCell') = true) (hj : c.length = vs.length)
    (hK : ∀ w', At L0 w0 (Part.cells b vs T :: F) w' → wpList P ops Q rest (a.put o.dst undef) w') : wpList P ops Q (o :: rest) a w :=
  wpList_store_at hg hop hx hy hv h s hi h1 (by omega) fun w' hw => hK w' (by rw [setL_whole hj] at hw; exact hw)
theorem wpList_loadRow_at {ty : TypeId} {x : Operand} (hg : o.guard = none) (hop : o.op = .load ty x) {b j : Nat} (hx : a.eval x = .pointer (some ⟨b, j, none⟩)) {vs : List Value} (hr : ∀ (k : Nat) u, vs[k]? = some u → w.cell? ⟨b, j + k, none⟩ = some u)
    (hu : (P.underlying ty).map (·.isRow) = some true) (hi : (P.info? ty).map (·.size) = some vs.length)
    (hK : wpList P ops Q rest (a.put o.dst (.agg vs.toArray)) w) : wpList P ops Q (o :: rest) a w := by
  obtain ⟨d, hu, hd⟩ := Option.map_eq_some_iff.1 hu
  refine wpList_val hg ?_ hK
  simp [execOp, hop, hx, run_loadAt_mid w b j ty vs d (fun k v hk => hr k v hk) hu hd hi, Result.andThen]
end
end Go.Proofs.YtpebabaigakagaaGreatDoor
end

section
namespace Go.Proofs.YtpebabaigakagaaGreatDoor.Tab
open Go.RowKit
open Path (bl rightB overB aboveB)
open Lease (Ses Ans fresh Turned)
open Lock (S3 Ent)
open Cmd (Cm rightC)
set_option linter.unusedSimpArgs false
set_option linter.unusedVariables false
attribute [-go_sem] run_eql_struct run_neq_struct run_eqGuard_agg

def NewP (first : Int) (R : Part) (w : World) (e : Ending) (w' : World) : Prop := ∃ t p m b, e = .returned (.pointer (some ⟨t, 0, none⟩)) ∧ TRel [] b ⟨[], ⟨first, [], []⟩⟩ ∧ At [R] w [TabP t p m [] b, R] w'
theorem new_any {w : World} {R : Part} (h : Sep [R] w) (first : Int) : Calls Tryz.prog 29 #[.int .u64 first] w (NewP first R w) := by
  have hA := At.start h
  clear h
  (try simp only [uA] at hA); have hF := hA.facts; (try simp only [fZ] at hF)
  go_enter Tryz.func29, Tryz.ntmps29
  go_wp2_with (first | ((with_reducible refine gst ?_); refine wS hA ?_; clear hF hA; intro w1 hA; (try simp only [uA] at hA); have hF := hA.facts; (try simp only [fZ] at hF)) | ((with_reducible refine gbx ?_); refine wB hA ?_; clear hF hA; intro b1 w1 hA hb1; (try simp only [uA] at hA); have hF := hA.facts; (try simp only [fZ] at hF)))
  refine (Lease.new_any _).mono ?_
  rintro e w1 ⟨p, m, rfl, hT⟩
  have hB := hA.call0 hT
  clear hT
  clear hF hA; have hA := hB; clear hB
  try simp only [List.cons_append, List.nil_append] at hA
  (try simp only [uA] at hA); have hF := hA.facts; (try simp only [fZ] at hF)
  go_wp2_with (first | ((with_reducible refine gst ?_); refine wS hA ?_; clear hF hA; intro w1 hA; (try simp only [uA] at hA); have hF := hA.facts; (try simp only [fZ] at hF)) | ((with_reducible refine gbx ?_); refine wB hA ?_; clear hF hA; intro b1 w1 hA hb1; (try simp only [uA] at hA); have hF := hA.facts; (try simp only [fZ] at hF)))
  refine (Lock.new_any _ first).mono ?_
  rintro e w1 ⟨b, rfl, e1, e2, e3, hT⟩
  have hB := hA.call0 hT
  clear hT
  clear hF hA; have hA := hB; clear hB
  try simp only [List.cons_append, List.nil_append] at hA
  (try simp only [uA] at hA); have hF := hA.facts; (try simp only [fZ] at hF)
  go_wp2_with (first | ((with_reducible refine gbx ?_); refine wX 75 (.agg #[.pointer (some ⟨p, 0, none⟩), .pointer (some ⟨b.p, 0, none⟩)]) [.pointer (some ⟨p, 0, none⟩), .pointer (some ⟨b.p, 0, none⟩)] hA ?_; clear hF hA; intro bt w1 hA hbt; (try simp only [uA] at hA); have hF := hA.facts; (try simp only [fZ] at hF)) | ((with_reducible refine gst ?_); refine wS hA ?_; clear hF hA; intro w1 hA; (try simp only [uA] at hA); have hF := hA.facts; (try simp only [fZ] at hF)) | ((with_reducible refine gbx ?_); refine wB hA ?_; clear hF hA; intro b1 w1 hA hb1; (try simp only [uA] at hA); have hF := hA.facts; (try simp only [fZ] at hF)))
  go_ret
  refine ⟨bt, p, m, b, rfl, ⟨rfl, ?_⟩, (tab_in (ss := []) hA sZ sZ sZ).pick pZ⟩
  unfold Lock.Bk.st
  rw [e1, e2, e3]
def ansL (a : Ans) : List Value := [.int .i64 a.e, .int .u64 a.n, .bool a.g]
theorem ansL_len (a : Ans) : (ansL a).length = 3 := rfl
theorem ansL_one (a : Ans) : ∀ u ∈ ansL a, u.oneCell' = true := by
  intro u hu
  simp only [ansL, List.mem_cons, List.not_mem_nil, or_false] at hu
  rcases hu with rfl | rfl | rfl <;> rfl
abbrev rowAn (v : Value) (l : List Ans) : Part := Part.row 48 3 v l.length (l.flatMap ansL)
theorem rowAn_snoc (v : Value) (l : List Ans) (a : Ans) : Part.row 48 3 v (l.length + 1) (l.flatMap ansL ++ ansL a) = rowAn v (l ++ [a]) := by
  unfold rowAn
  rw [List.length_append]
  simp
theorem infoAn : (Tryz.prog.info? 48).map (fun i => (i.zero, i.size, i.bytes)) = some (some (.agg #[.int .i64 0, .int .u64 0, .bool false]), 3, 24) := by kernel_rfl
/-- a command that comes in -/
structure CmIn (c : Cm) : Prop where
  ok : CmOk c
  r0 : 0 ≤ c.req
  r1 : c.req < Lease.big64
  n0 : 0 ≤ c.n
abbrev ReadsC (R : Part) (v : Value) (l : List Cm) : Prop := ∀ w, R.holds w → Reads w v l.length (l.flatMap Cm.cells)
theorem reads_cm {R : Part} {b0 off0 cap i : Nat} {l : List Cm} {x : Cm} (h : ReadsC R (.slice (some ⟨b0, off0, none⟩) l.length cap) l) (hx : l[i]? = some x) : ∀ w, R.holds w → ∀ (k : Nat) u, (Cm.cells x)[k]? = some u → w.cell? ⟨b0, off0 + i * 8 + k, none⟩ = some u := by
  intro w hw k u hu
  obtain ⟨ax, c, e, _, hr⟩ := h w hw
  cases e
  have hk : k < 8 := (List.getElem?_eq_some_iff.1 hu).1
  have hf := flat_at Cm.cells 8 (fun _ => rfl) l i x hx k hk
  rw [hu] at hf
  obtain ⟨b, off, e2, hc⟩ := hr (i * 8 + k) u hf
  cases e2
  rw [Nat.add_assoc]
  exact hc
def PyRel (w : World) (R : Part) (t p m : Nat) (T0 : TS) (l : List Cm) (k : Nat) (u1 u2 : Value) (wr : World) : Prop :=
  ∃ (i : Nat) (ss : List Ses) (b : Lock.Bk), u1 = .int .i64 i ∧ i + k = l.length ∧ TRel ss b (playT T0 (l.take i)) ∧ At [R] w [rowAn u2 (toldT T0 (l.take i)), TabP t p m ss b, R] wr
def PlayP (first : Int) (l : List Cm) (R : Part) (w : World) (e : Ending) (w' : World) : Prop :=
  ∃ t p m ss b av, e = .returned (.tuple #[.pointer (some ⟨t, 0, none⟩), av]) ∧ TRel ss b (playT ⟨[], ⟨first, [], []⟩⟩ l) ∧ At [R] w [rowAn av (toldT ⟨[], ⟨first, [], []⟩⟩ l), TabP t p m ss b, R] w'
theorem told_len : ∀ (l : List Cm) (t : TS), (toldT t l).length = l.length
  | [], _ => rfl
  | c :: l, t => by simp [toldT, told_len l]
set_option maxHeartbeats 4000000 in
theorem play_any {w : World} {R : Part} (h : Sep [R] w) {first : Int} (f0 : 0 ≤ first) (f1 : first < Lock.big64) {v : Value} {l : List Cm} (hr : ReadsC R v l) (hl : l.length ≤ 1000) (hok : ∀ c ∈ l, CmIn c) :
    Calls Tryz.prog 12 #[.int .u64 first, v] w (PlayP first l R w) := by
  obtain ⟨i0, hi0, hz0, hz1, hz2⟩ := info_parts infoAn
  have hA := At.start h
  obtain ⟨ax, cap, rfl, _, _⟩ := hr w (hA.get .here)
  have hr' := Lib.hid hr
  have hok' := Lib.hid hok
  have hi0' := Lib.hid (new_inv f0 f1)
  clear h hr hok
  (try simp only [uA] at hA); have hF := hA.facts; (try simp only [fZ] at hF)
  go_enter Tryz.func12, Tryz.ntmps12
  go_wp2_with (first | ((with_reducible refine gst ?_); refine wS hA ?_; clear hF hA; intro w1 hA; (try simp only [uA] at hA); have hF := hA.facts; (try simp only [fZ] at hF)) | ((with_reducible refine gbx ?_); refine wB hA ?_; clear hF hA; intro b1 w1 hA hb1; (try simp only [uA] at hA); have hF := hA.facts; (try simp only [fZ] at hF)))
  refine (new_any (hA.sep1 (A := R) sZ) first).mono ?_
  rintro e w1 ⟨t, p, m, b, rfl, hR0, hT⟩
  have hB := hA.call1 (A := R) sZ hT
  clear hT
  clear hF hA; have hA := hB; clear hB
  try simp only [List.cons_append, List.nil_append] at hA
  (try simp only [uA] at hA); have hF := hA.facts; (try simp only [fZ] at hF)
  obtain ⟨T0, hT0⟩ : ∃ z : TS, ⟨[], ⟨first, [], []⟩⟩ = z := ⟨_, rfl⟩
  rw [hT0] at hR0 hi0'
  have hT0' := Lib.hid hT0
  have hR0' := Lib.hid hR0
  clear hT0 hR0
  go_wp2_with (first | ((with_reducible refine gst ?_); refine wS hA ?_; clear hF hA; intro w1 hA; (try simp only [uA] at hA); have hF := hA.facts; (try simp only [fZ] at hF)) | ((with_reducible refine gbx ?_); refine wB hA ?_; clear hF hA; intro b1 w1 hA hb1; (try simp only [uA] at hA); have hF := hA.facts; (try simp only [fZ] at hF)))
  try go_frame
  have hB := hA.row_nil 48 3
  clear hF hA
  go_loopg [14, 7] l.length (PyRel w R t p m T0 l)
  case atStart => exact ⟨0, [], b, rfl, by omega, hR0'.out, hB.pick pZ⟩
  case round =>
    obtain ⟨i, ss, b, rfl, hik, hRi, hA⟩ := hrel
    clear hB
    have hRi' := Lib.hid hRi
    clear hRi
    by_cases hi : i < l.length
    · skip
      obtain ⟨c, hc⟩ : ∃ c, l[i]? = some c := ⟨_, List.getElem?_eq_getElem hi⟩
      have hci := hok'.out c (List.mem_of_getElem? hc)
      have hti : TInv (playT T0 (l.take i)) (0 + (l.take i).length) := play_inv (fun x hx => (hok'.out x (List.take_subset _ _ hx)).ok) hi0'.out
      have htk : l.take (i + 1) = l.take i ++ [c] := by rw [List.take_add_one, hc]; rfl
      have hp1 := Lib.hid (show playT T0 (l.take (i + 1)) = (applyT (playT T0 (l.take i)) c).1 by rw [htk, playT_snoc])
      have hp2 := Lib.hid (show toldT T0 (l.take (i + 1)) = toldT T0 (l.take i) ++ [(applyT (playT T0 (l.take i)) c).2] by rw [htk, toldT_snoc])
      have htl := told_len (l.take i) T0
      have hlt : (l.take i).length ≤ 1000 := by rw [List.length_take]; omega
      obtain ⟨bl0, ofl, hax⟩ : ∃ b0 o0, ax = some ⟨b0, o0, none⟩ := by
        obtain ⟨ax2, c2, e2, _, hr2⟩ := hr'.out _ (hA.get (A := R) sZ)
        cases e2
        have hf := flat_at Cm.cells 8 (fun _ => rfl) l i c hc 0 (by omega)
        obtain ⟨b0, o0, e3, _⟩ := hr2 (i * 8 + 0) _ hf
        exact ⟨b0, o0, e3⟩
      subst hax
      have hrc := reads_cm hr'.out hc _ (hA.get (A := R) sZ)
      have hap := fun (w1 : World) (q : Sep [TabP t p m ss b] w1) => apply_any q c.kind c.num c.foot c.req c.path c.mode c.n c.time hRi'.out hti (by omega) hci.ok hci.r0 hci.r1 hci.n0
      obtain ⟨T1, hT1⟩ : ∃ z, applyT (playT T0 (l.take i)) c = z := ⟨_, rfl⟩
      have hcc : (⟨c.kind, c.num, c.foot, c.req, c.path, c.mode, c.n, c.time⟩ : Cm) = c := rfl
      simp only [hcc, hT1] at hap
      rw [hT1] at hp1 hp2
      clear hT1 hcc hc htk hci hti
      obtain ⟨T1, ⟨le, ln, lg⟩⟩ := T1
      obtain ⟨kind, num, foot, req, path, mode, n, time⟩ := c
      simp only at hap
      have hap' := Lib.hid hap
      have hrc' := Lib.hid (show ∀ (k : Nat) u, ([.int .i64 kind, .int .u64 num, .string foot, .int .u64 req, .string path, .int .i64 mode, .int .u64 n, .int .i64 time] : List Value)[k]? = some u → wr.cell? ⟨bl0, ofl + i * 8 + k, none⟩ = some u from hrc)
      clear hap hrc
      generalize toldT T0 (l.take i) = TL at *
      generalize l.take i = li at *
      obtain ⟨axa, capa, hva, _, hcpa, _⟩ := hA.row_form (e := 48) (size := 3) (n := TL.length) (xs := TL.flatMap ansL) .here
      subst hva
      have hTL : TL.length ≤ 1000 := by omega
      clear htl
      (try simp only [uA] at hA); have hF := hA.facts; (try simp only [fZ] at hF)
      go_wp2_with (first | ((with_reducible refine gal ?_); refine wA 29 (.agg #[.int .i64 0, .int .u64 0, .string .empty, .int .u64 0, .string .empty, .int .i64 0, .int .u64 0, .int .i64 0]) [.int .i64 0, .int .u64 0, .string .empty, .int .u64 0, .string .empty, .int .i64 0, .int .u64 0, .int .i64 0] hA ?_; clear hF hA; intro b9 w1 hA hb9; (try simp only [uA] at hA); have hF := hA.facts; (try simp only [fZ] at hF)) | ((with_reducible show wpList _ _ _ ({ dst := some 17, op := Op.load _ _, type := _, pos := _, after := _, guard := _ } :: _) _ _); refine wpList_loadRow_at (vs := [.int .i64 kind, .int .u64 num, .string foot, .int .u64 req, .string path, .int .i64 mode, .int .u64 n, .int .i64 time]) rfl rfl (by (try simp only [Act.eval, eV]) <;> exact rfl) hrc'.out (by kernel_rfl) (by kernel_rfl) ?_) | ((with_reducible refine gst ?_); refine wS hA ?_; clear hF hA; intro w1 hA; (try simp only [uA] at hA); have hF := hA.facts; (try simp only [fZ] at hF)) | ((with_reducible refine gbx ?_); refine wB hA ?_; clear hF hA; intro b1 w1 hA hb1; (try simp only [uA] at hA); have hF := hA.facts; (try simp only [fZ] at hF)))
      refine (hap'.out _ (hA.sep1 (A := TabP t p m ss b) sZ)).mono ?_
      rintro e w2 ⟨ss2, b2, rfl, hR2, hT⟩
      have hB := hA.call1 (A := TabP t p m ss b) sZ hT
      clear hT
      clear hF hA; have hA := hB; clear hB
      try simp only [List.cons_append, List.nil_append] at hA
      (try simp only [uA] at hA); have hF := hA.facts; (try simp only [fZ] at hF)
      have hR2' := Lib.hid hR2
      clear hR2 hap'
      simp only [Lease.Ans.val]
      go_wp2_with (first | ((with_reducible show wpList _ _ _ ({ dst := _, op := Op.buildSlice _ _ _, type := _, pos := _, after := _, guard := _ } :: _) _ _); refine wpList_one_at (e := 48) (vs := ansL ⟨le, ln, lg⟩) rfl rfl (by (try simp only [Act.eval, eV]) <;> exact rfl) (fun _ => by kernel_rfl) hA ?_; intro b22 w1 hB hb22; clear hF hA; have hA := hB; clear hB; (try simp only [uA] at hA); have hF := hA.facts; (try simp only [fZ] at hF)) | ((with_reducible show wpList _ _ _ ({ dst := _, op := Op.call { callee := Callee.builtin Builtin.append, args := _, argTypes := _ }, type := _, pos := _, after := _, guard := _ } :: _) _ _); refine wpList_append_at (e := 48) (size := 3) (v := .slice axa TL.length capa) (xs := TL.flatMap ansL) (n := TL.length) (m := 1) (news := ansL ⟨le, ln, lg⟩) rfl _ _ 34 rfl Tryz.underlying34 hi0 hz0 hz1 hz2 rfl (by omega) hA sZ (by (try simp only [Act.eval, eV]) <;> exact rfl) (by (try simp only [Act.eval, eV]) <;> exact rfl) rfl (hA.cells_reads sZ _ _) (ansL_one _) (by unfold maxLen; omega) (by omega) ?_; intro v23 w1 hB; rw [rowAn_snoc] at hB; clear hF hA; have hA := hB; clear hB; (try simp only [uA] at hA); have hF := hA.facts; (try simp only [fZ] at hF)) | ((with_reducible refine gst ?_); refine wS hA ?_; clear hF hA; intro w1 hA; (try simp only [uA] at hA); have hF := hA.facts; (try simp only [fZ] at hF)) | ((with_reducible refine gbx ?_); refine wB hA ?_; clear hF hA; intro b1 w1 hA hb1; (try simp only [uA] at hA); have hF := hA.facts; (try simp only [fZ] at hF)))
      go_roundg (gk - 1)
      case measure => omega
      case rel => exact ⟨i + 1, ss2, b2, by simp, by omega, by rw [hp1.out]; exact hR2'.out, by rw [hp2.out]; exact hA.pick pZ⟩
    · have hi2 : i = l.length := by omega
      subst hi2
      rw [List.take_of_length_le (Nat.le_refl _)] at hA hRi'
      (try simp only [uA] at hA); have hF := hA.facts; (try simp only [fZ] at hF)
      go_wp2_with (first | ((with_reducible refine gst ?_); refine wS hA ?_; clear hF hA; intro w1 hA; (try simp only [uA] at hA); have hF := hA.facts; (try simp only [fZ] at hF)) | ((with_reducible refine gbx ?_); refine wB hA ?_; clear hF hA; intro b1 w1 hA hb1; (try simp only [uA] at hA); have hF := hA.facts; (try simp only [fZ] at hF)))
      refine bodyPost_ret (v := .tuple #[.pointer (some ⟨t, 0, none⟩), u7]) (by simp [results, Tryz.results12, go_sem, hF]) rfl ?_
      exact ⟨t, p, m, ss, b, _, rfl, by rw [hT0'.out]; exact hRi'.out, by rw [hT0'.out]; exact hA.pick pZ⟩
end Go.Proofs.YtpebabaigakagaaGreatDoor.Tab
end

section
namespace Go.Proofs.YtpebabaigakagaaGreatDoor.Tab
open Go.RowKit
open Path (bl rightB overB aboveB)
open Lease (Ses Ans fresh Turned)
open Lock (S3 Ent)
open Cmd (Cm rightC)
set_option linter.unusedSimpArgs false
set_option linter.unusedVariables false
attribute [-go_sem] run_eql_struct run_neq_struct run_eqGuard_agg

theorem of18_any (c : Cm) (w : World) : Calls Tryz.prog 10 #[c.val] w fun e w' => e = .returned c.val ∧ Ext w w' := by
  obtain ⟨kind, num, foot, req, path, mode, n, time⟩ := c
  simp only [Cm.val]
  have hA : At [] w [] w := At.start (L0 := []) trivial
  (try simp only [uA] at hA); have hF := hA.facts; (try simp only [fZ] at hF)
  go_enter Tryz.func10, Tryz.ntmps10
  go_wp2_with (first | ((with_reducible refine gbx ?_); refine wX 29 (.agg #[.int .i64 kind, .int .u64 num, .string foot, .int .u64 req, .string path, .int .i64 mode, .int .u64 n, .int .i64 time]) [.int .i64 kind, .int .u64 num, .string foot, .int .u64 req, .string path, .int .i64 mode, .int .u64 n, .int .i64 time] hA ?_; clear hF hA; intro b1 w1 hA hb1; (try simp only [uA] at hA); have hF := hA.facts; (try simp only [fZ] at hF)) | ((with_reducible refine gal ?_); refine wA 31 (.agg #[.int .i64 0, .int .u64 0, .string .empty, .int .u64 0, .string .empty, .int .i64 0, .int .u64 0, .int .i64 0]) [.int .i64 0, .int .u64 0, .string .empty, .int .u64 0, .string .empty, .int .i64 0, .int .u64 0, .int .i64 0] hA ?_; clear hF hA; intro b2 w1 hA hb2; (try simp only [uA] at hA); have hF := hA.facts; (try simp only [fZ] at hF)) | ((with_reducible refine gst ?_); refine wS hA ?_; clear hF hA; intro w1 hA; (try simp only [uA] at hA); have hF := hA.facts; (try simp only [fZ] at hF)) | ((with_reducible refine gbx ?_); refine wB hA ?_; clear hF hA; intro b1 w1 hA hb1; (try simp only [uA] at hA); have hF := hA.facts; (try simp only [fZ] at hF)))
  exact bodyPost_ret (v := .agg #[.int .i64 kind, .int .u64 num, .string foot, .int .u64 req, .string path, .int .i64 mode, .int .u64 n, .int .i64 time]) (by simp [results, Tryz.results10, go_sem, hF]) rfl ⟨rfl, hA.toExt⟩
def okS (c : Cm) : Bool := !decide (100 < c.path.size) && !decide (100 < c.foot.size)
def smallB (l : List Cm) (most : Int) : Bool := l.all okS && decide ((l.length : Int) ≤ most)
def SmRel (w : World) (R : Part) (l : List Cm) (k : Nat) (u : Value) (wr : World) : Prop :=
  ∃ i : Nat, u = .int .i64 i ∧ i + k = l.length ∧ (l.take i).all okS = true ∧ At [R] w [R] wr
theorem small_any {w : World} {R : Part} (h : Sep [R] w) {v : Value} {l : List Cm} (hr : ReadsC R v l) (hl : l.length ≤ 9223372036854775807) (hsz : ∀ c ∈ l, c.path.size ≤ maxLen ∧ c.foot.size ≤ maxLen) (most : Int) :
    Calls Tryz.prog 9 #[v, .int .i64 most] w fun e w' => e = .returned (.bool (smallB l most)) ∧ At [R] w [R] w' := by
  have hA := At.start h
  obtain ⟨ax, cap, rfl, _, _⟩ := hr w (hA.get .here)
  have hr' := Lib.hid hr
  have hsz' := Lib.hid hsz
  clear h hr hsz
  (try simp only [uA] at hA); have hF := hA.facts; (try simp only [fZ] at hF)
  go_enter Tryz.func9, Tryz.ntmps9
  go_wp2_with (first | ((with_reducible refine gst ?_); refine wS hA ?_; clear hF hA; intro w1 hA; (try simp only [uA] at hA); have hF := hA.facts; (try simp only [fZ] at hF)) | ((with_reducible refine gbx ?_); refine wB hA ?_; clear hF hA; intro b1 w1 hA hb1; (try simp only [uA] at hA); have hF := hA.facts; (try simp only [fZ] at hF)))
  try go_frame
  clear hF
  go_loopg [9] l.length (SmRel w R l)
  case atStart => exact ⟨0, rfl, by omega, rfl, hA⟩
  case round =>
    obtain ⟨i, rfl, hik, hal, hB⟩ := hrel
    clear hA; have hA := hB; clear hB
    have hal' := Lib.hid hal
    clear hal
    by_cases hi : i < l.length
    · skip
      have hiI : (i : Int) < l.length := by omega
      obtain ⟨c, hc⟩ : ∃ c, l[i]? = some c := ⟨_, List.getElem?_eq_getElem hi⟩
      have hcm := List.mem_of_getElem? hc
      have hcs := hsz'.out c hcm
      have htk : l.take (i + 1) = l.take i ++ [c] := by rw [List.take_add_one, hc]; rfl
      have hnx := Lib.hid (show (l.take (i + 1)).all okS = okS c by rw [htk, List.all_append, hal'.out]; simp)
      have hbad := Lib.hid (show okS c = false → smallB l most = false from fun q => by
        unfold smallB
        rw [show l.all okS = false from by
          cases h : l.all okS with
          | false => rfl
          | true => rw [List.all_eq_true.1 h c hcm] at q; cases q]
        rfl)
      obtain ⟨bl0, ofl, hax⟩ : ∃ b0 o0, ax = some ⟨b0, o0, none⟩ := by
        obtain ⟨ax2, c2, e2, _, hr2⟩ := hr'.out _ (hA.get (A := R) sZ)
        cases e2
        have hf := flat_at Cm.cells 8 (fun _ => rfl) l i c hc 0 (by omega)
        obtain ⟨b0, o0, e3, _⟩ := hr2 (i * 8 + 0) _ hf
        exact ⟨b0, o0, e3⟩
      subst hax
      have hrc := reads_cm hr'.out hc _ (hA.get (A := R) sZ)
      clear htk hc hcm
      obtain ⟨kind, num, foot, req, path, mode, n, time⟩ := c
      have hrc' := Lib.hid (show ∀ (k : Nat) u, ([.int .i64 kind, .int .u64 num, .string foot, .int .u64 req, .string path, .int .i64 mode, .int .u64 n, .int .i64 time] : List Value)[k]? = some u → wr.cell? ⟨bl0, ofl + i * 8 + k, none⟩ = some u from hrc)
      clear hrc
      simp only [okS] at hnx hbad hcs
      obtain ⟨d1, hd1⟩ : ∃ d, decide (100 < path.size) = d := ⟨_, rfl⟩
      obtain ⟨d2, hd2⟩ : ∃ d, decide (100 < foot.size) = d := ⟨_, rfl⟩
      simp only [hd1, hd2] at hnx hbad
      have hI1 : decide ((100 : Int) < (path.size : Int)) = d1 := by rw [← hd1, decide_eq_decide]; omega
      have hI2 : decide ((100 : Int) < (foot.size : Int)) = d2 := by rw [← hd2, decide_eq_decide]; omega
      (try simp only [uA] at hA); have hF := hA.facts; (try simp only [fZ] at hF)
      cases d1
      · cases d2
        · have hp1 : ¬ (100 : Int) < path.size := of_decide_eq_false hI1
          have hp2 : ¬ (100 : Int) < foot.size := of_decide_eq_false hI2
          go_wp2_with (first | ((with_reducible refine gal ?_); refine wA 29 (.agg #[.int .i64 0, .int .u64 0, .string .empty, .int .u64 0, .string .empty, .int .i64 0, .int .u64 0, .int .i64 0]) [.int .i64 0, .int .u64 0, .string .empty, .int .u64 0, .string .empty, .int .i64 0, .int .u64 0, .int .i64 0] hA ?_; clear hF hA; intro b6 w1 hA hb6; (try simp only [uA] at hA); have hF := hA.facts; (try simp only [fZ] at hF)) | ((with_reducible show wpList _ _ _ ({ dst := some 12, op := Op.load _ _, type := _, pos := _, after := _, guard := _ } :: _) _ _); refine wpList_loadRow_at (vs := [.int .i64 kind, .int .u64 num, .string foot, .int .u64 req, .string path, .int .i64 mode, .int .u64 n, .int .i64 time]) rfl rfl (by (try simp only [Act.eval, eV]) <;> exact rfl) hrc'.out (by kernel_rfl) (by kernel_rfl) ?_) | ((with_reducible refine gst ?_); refine wS hA ?_; clear hF hA; intro w1 hA; (try simp only [uA] at hA); have hF := hA.facts; (try simp only [fZ] at hF)) | ((with_reducible refine gbx ?_); refine wB hA ?_; clear hF hA; intro b1 w1 hA hb1; (try simp only [uA] at hA); have hF := hA.facts; (try simp only [fZ] at hF)))
          go_roundg (gk - 1)
          case measure => omega
          case rel => exact ⟨i + 1, by simp, by omega, by rw [hnx.out]; rfl, hA.pick pZ⟩
        · have hp1 : ¬ (100 : Int) < path.size := of_decide_eq_false hI1
          have hp2 : (100 : Int) < foot.size := of_decide_eq_true hI2
          go_wp2_with (first | ((with_reducible refine gal ?_); refine wA 29 (.agg #[.int .i64 0, .int .u64 0, .string .empty, .int .u64 0, .string .empty, .int .i64 0, .int .u64 0, .int .i64 0]) [.int .i64 0, .int .u64 0, .string .empty, .int .u64 0, .string .empty, .int .i64 0, .int .u64 0, .int .i64 0] hA ?_; clear hF hA; intro b6 w1 hA hb6; (try simp only [uA] at hA); have hF := hA.facts; (try simp only [fZ] at hF)) | ((with_reducible show wpList _ _ _ ({ dst := some 12, op := Op.load _ _, type := _, pos := _, after := _, guard := _ } :: _) _ _); refine wpList_loadRow_at (vs := [.int .i64 kind, .int .u64 num, .string foot, .int .u64 req, .string path, .int .i64 mode, .int .u64 n, .int .i64 time]) rfl rfl (by (try simp only [Act.eval, eV]) <;> exact rfl) hrc'.out (by kernel_rfl) (by kernel_rfl) ?_) | ((with_reducible refine gst ?_); refine wS hA ?_; clear hF hA; intro w1 hA; (try simp only [uA] at hA); have hF := hA.facts; (try simp only [fZ] at hF)) | ((with_reducible refine gbx ?_); refine wB hA ?_; clear hF hA; intro b1 w1 hA hb1; (try simp only [uA] at hA); have hF := hA.facts; (try simp only [fZ] at hF)))
          go_ret
          exact ⟨by rw [hbad.out rfl]; rfl, hA.pick pZ⟩
      · have hp1 : (100 : Int) < path.size := of_decide_eq_true hI1
        go_wp2_with (first | ((with_reducible refine gal ?_); refine wA 29 (.agg #[.int .i64 0, .int .u64 0, .string .empty, .int .u64 0, .string .empty, .int .i64 0, .int .u64 0, .int .i64 0]) [.int .i64 0, .int .u64 0, .string .empty, .int .u64 0, .string .empty, .int .i64 0, .int .u64 0, .int .i64 0] hA ?_; clear hF hA; intro b6 w1 hA hb6; (try simp only [uA] at hA); have hF := hA.facts; (try simp only [fZ] at hF)) | ((with_reducible show wpList _ _ _ ({ dst := some 12, op := Op.load _ _, type := _, pos := _, after := _, guard := _ } :: _) _ _); refine wpList_loadRow_at (vs := [.int .i64 kind, .int .u64 num, .string foot, .int .u64 req, .string path, .int .i64 mode, .int .u64 n, .int .i64 time]) rfl rfl (by (try simp only [Act.eval, eV]) <;> exact rfl) hrc'.out (by kernel_rfl) (by kernel_rfl) ?_) | ((with_reducible refine gst ?_); refine wS hA ?_; clear hF hA; intro w1 hA; (try simp only [uA] at hA); have hF := hA.facts; (try simp only [fZ] at hF)) | ((with_reducible refine gbx ?_); refine wB hA ?_; clear hF hA; intro b1 w1 hA hb1; (try simp only [uA] at hA); have hF := hA.facts; (try simp only [fZ] at hF)))
        go_ret
        exact ⟨by rw [hbad.out (by cases d2 <;> rfl)]; rfl, hA.pick pZ⟩
    · have hi2 : i = l.length := by omega
      subst hi2
      rw [List.take_of_length_le (Nat.le_refl _)] at hal'
      (try simp only [uA] at hA); have hF := hA.facts; (try simp only [fZ] at hF)
      go_wp2_with (first | ((with_reducible refine gst ?_); refine wS hA ?_; clear hF hA; intro w1 hA; (try simp only [uA] at hA); have hF := hA.facts; (try simp only [fZ] at hF)) | ((with_reducible refine gbx ?_); refine wB hA ?_; clear hF hA; intro b1 w1 hA hb1; (try simp only [uA] at hA); have hF := hA.facts; (try simp only [fZ] at hF)))
      go_ret
      refine ⟨?_, hA.pick pZ⟩
      unfold smallB
      rw [hal'.out, Bool.true_and]
      rfl
end Go.Proofs.YtpebabaigakagaaGreatDoor.Tab
end

section
namespace Go.Proofs.YtpebabaigakagaaGreatDoor.Mark
open Go.RowKit Go.Shelf
open Go.Maps (Keyed)
set_option linter.unusedSimpArgs false
set_option linter.unusedVariables false
attribute [local go_sem] Oper.semAt_some

/-- an instance's name, as a value -/
def idV (p : Int × Int) : Value := .agg #[.int .i64 p.1, .int .i64 p.2]
def idL (p : Int × Int) : List Value := [.int .i64 p.1, .int .i64 p.2]
def unV : Value → Int × Int
  | .agg #[.int _ a, .int _ b] => (a, b)
  | _ => (0, 0)
theorem unV_idV (p : Int × Int) : unV (idV p) = p := rfl
theorem idV_inj {p q : Int × Int} (h : idV p = idV q) : p = q := by rw [← unV_idV p, h, unV_idV]
theorem perm_of_idV {l m : List (Int × Int)} (h : (l.map idV).Perm (m.map idV)) : l.Perm m := by
  have := h.map unV
  simpa [List.map_map, Function.comp_def, unV_idV] using this

/-- how many entries of a range have come, read off the world -/
def seenOf (w : World) (r : Nat) : Nat := match w.heap[r]? with | some (.mapIter _ _ seen _) => seen.size | _ => 0
theorem seenOf_eq {P : Program} {k : TypeId} {w : World} {r b : Nat} {es done : List (Value × Value)} (h : IterAt P k w r b es done) : seenOf w r = done.length := by
  obtain ⟨_, _, ents, clock, c0, vs, hb, hr, hc, hd, _⟩ := h
  unfold seenOf
  rw [hr, ← hd]
  simp
theorem iter_walk {P : Program} {k : TypeId} {w : World} {r b : Nat} {es done : List (Value × Value)} (h : IterAt P k w r b es done) : ∃ o : Obj, w.heap[r]? = some o ∧ o.isWalk = true := by
  obtain ⟨_, _, ents, clock, c0, vs, hb, hr, _⟩ := h
  exact ⟨_, hr, rfl⟩
theorem iter_keeps {P : Program} {k : TypeId} {w w' : World} {r b : Nat} {es done : List (Value × Value)} (h : IterAt P k w r b es done) (hk : KeepsWalks w w') : IterAt P k w' r b es done := by
  have h0 := h
  obtain ⟨_, _, ents, clock, c0, vs, hb, hr, _⟩ := h0
  exact h.same ((hk.same b _ hb rfl).trans hb.symm) ((hk.same r _ hr rfl).trans hr.symm)
theorem grown_of_exc {w w' : World} {r : Nat} (h : Exc (fun q => q = r) w w') : w.grownBy w' (some r) := ⟨h.os, h.tape, h.output, h.size, fun k hk hn => h.block k hk (fun e => hn (by rw [e]))⟩
theorem grown_of_ext {w w' : World} (h : Ext w w') : w.grownBy w' none := ⟨Below.os h, Below.tape h, Below.output h, Below.size h, fun k hk _ => Below.block h k hk⟩

/-! ### slices.AppendSeq, slices.Collect -/
def Box (W : World) (B : Nat) (t : TypeId) (c : Array Value) : Prop := W.heap[B]? = some (.cells c t (0, 0))
theorem Box.own {β : Type} (B : Nat) (t : TypeId) (c : Array Value) : Own (fun (_ : β) W => Box W B t c) := fun s X Y row hs hg hrow =>
  (hg.block B (lt_of_some hs) (fun e => by obtain ⟨o, ho, hc⟩ := hrow B e.symm; rw [show X.heap[B]? = _ from hs] at ho; cases ho; cases hc)).trans hs
theorem two_new (W : World) (x y : Value) (t : TypeId) : ∀ (j : Nat) (u : Value), [x, y][j]? = some u → (W.alloc (.cells #[x, y] t)).cell? ((⟨W.heap.size, 0, none⟩ : Addr).add j) = some u := by
  intro j u h
  match j, h with
  | 0, h => simp at h; subst h; simp [Addr.add]
  | 1, h => simp at h; subst h; simp [Addr.add]
  | j + 2, h => simp at h
end Go.Proofs.YtpebabaigakagaaGreatDoor.Mark
end

section
namespace Go.Proofs.YtpebabaigakagaaGreatDoor.Mark
open Go.RowKit
open Go.Sort Go.Shelf
set_option linter.unusedSimpArgs false
set_option linter.unusedVariables false

def orI (a b : Int) : Int := if a = 0 then b else a
set_option maxRecDepth 100000 in
theorem or2 (a b : Int) (g : Nat) (w : World) (h0 : w.cell? ⟨g, 0, none⟩ = some (.int .i64 a)) (h1 : w.cell? ⟨g, 1, none⟩ = some (.int .i64 b)) :
    Calls Tryz.prog 34 #[.slice (some ⟨g, 0, none⟩) 2 2] w fun e w' => e = .returned (.int .i64 (orI a b)) ∧ w = w' := by
  by_cases ha : a = 0
  · subst ha
    by_cases hb : b = 0
    · subst hb
      go_enter Tryz.func34, Tryz.ntmps34
      go_wp2
      refine wp_loop_rounds 3 ?_
      rw [rounds_succ]
      go_wp2
      rw [rounds_succ]
      go_wp2
      rw [rounds_succ]
      go_wp2
      go_ret
      exact ⟨rfl, rfl⟩
    · have hb' : (b == 0) = false := by simpa using hb
      go_enter Tryz.func34, Tryz.ntmps34
      go_wp2
      refine wp_loop_rounds 2 ?_
      rw [rounds_succ]
      go_wp2
      rw [rounds_succ]
      go_wp2
      refine bodyPost_ret (results_tmp rfl _ _ _) rfl ?_
      exact ⟨rfl, rfl⟩
  · have ha' : (a == 0) = false := by simpa using ha
    have e : orI a b = a := by simp [orI, ha]
    rw [e]
    go_enter Tryz.func34, Tryz.ntmps34
    go_wp2
    refine wp_loop_rounds 1 ?_
    rw [rounds_succ]
    go_wp2
    refine bodyPost_ret (results_tmp rfl _ _ _) rfl ?_
    exact ⟨rfl, rfl⟩
def cmpID (x y : Int × Int) : Int := orI (Lib.compareInt x.1 y.1) (Lib.compareInt x.2 y.2)
theorem three_grow (W : World) (A B C : Obj) (n : Nat) : (((W.alloc A).alloc B).drewN n).alloc C = grow (W.drewN n) #[A, B, C] := by
  rw [alloc_eq_grow W, alloc_eq_grow _ B, alloc_eq_grow _ C, grow_grow]
  show grow (grow (W.drewN n) _) _ = _
  rw [grow_grow]
  rfl
theorem new_cell (X : World) (n : Nat) (h : X.heap.size = n) (cs : Array Value) (t : TypeId) (j : Nat) (v : Value) (hv : cs[j]? = some v) : (X.alloc (.cells cs t)).cell? ⟨n, j, none⟩ = some v := by
  subst h
  rw [World.cell?, World.alloc_heap_new]
  exact hv
/-! ### The order is one -/
def ltID (x y : Int × Int) : Prop := x.1 < y.1 ∨ (x.1 = y.1 ∧ x.2 < y.2)
instance (x y : Int × Int) : Decidable (ltID x y) := by unfold ltID; infer_instance
theorem cmpID_lt (x y : Int × Int) : ltOf cmpID x y = decide (ltID x y) := by
  unfold ltOf cmpID orI Lib.compareInt ltID
  by_cases h1 : x.1 < y.1
  · simp [h1]
  · by_cases h2 : y.1 < x.1
    · have : x.1 ≠ y.1 := by omega
      simp [h1, h2, this]
    · have : x.1 = y.1 := by omega
      by_cases h3 : x.2 < y.2
      · simp [this, h3]
      · by_cases h4 : y.2 < x.2 <;> simp [this, h3, h4]
theorem swoID : SWO (ltOf cmpID) where
  irrefl x := by rw [cmpID_lt]; simp [ltID]
  trans x y z h1 h2 := by rw [cmpID_lt] at *; simp only [decide_eq_true_eq, decide_eq_false_iff_not] at *; unfold ltID at *; omega
  ntrans x y z h1 h2 := by rw [cmpID_lt] at *; simp only [decide_eq_true_eq, decide_eq_false_iff_not] at *; unfold ltID at *; omega
theorem totID (x y : Int × Int) (h1 : ltOf cmpID x y = false) (h2 : ltOf cmpID y x = false) : x = y := by
  rw [cmpID_lt] at *
  simp only [decide_eq_true_eq, decide_eq_false_iff_not] at *
  obtain ⟨a, b⟩ := x
  obtain ⟨c, d⟩ := y
  unfold ltID at *
  simp only [Prod.mk.injEq]
  simp only at h1 h2
  omega
/-- names, sorted -/
def sortID (l : List (Int × Int)) : List (Int × Int) := l.mergeSort fun x y => !ltOf cmpID y x
end Go.Proofs.YtpebabaigakagaaGreatDoor.Mark
end

section
namespace Go.Proofs.YtpebabaigakagaaGreatDoor.Lock
open Go.Sort Go.Shelf
open Go.Lib (compareBytes compareInt)
open _root_.Go.Proofs.YtpebabaigakagaaGreatDoor.Mark (orI)
open Path (bl rightB overB splits cmpL cmpP)
set_option linter.unusedSimpArgs false
set_option linter.unusedVariables false

def keyL (e : Ent) : List Path.Bs := splits (bl e.path)
/-- one stands ahead of another one -/
def ltE (x y : Ent) : Prop := cmpL (keyL x) (keyL y) < 0 ∨ (keyL x = keyL y ∧ x.stamp < y.stamp)
instance (x y : Ent) : Decidable (ltE x y) := by unfold ltE; infer_instance
def cmpE (x y : Ent) : Int := orI (cmpP (bl x.path) (bl y.path)) (compareInt x.stamp y.stamp)
theorem bl_inj {a b : ByteArray} (h : bl a = bl b) : a = b := by
  unfold bl at h
  have : a.data = b.data := by rw [← Array.toList_inj]; exact h
  cases a; cases b; simp_all
theorem key_path {x y : Ent} (h : keyL x = keyL y) : x.path = y.path := bl_inj (Path.splits_inj h)
theorem cmpE_lt {x y : Ent} (hx : rightB (bl x.path) = true) (hy : rightB (bl y.path) = true) : decide (cmpE x y < 0) = decide (ltE x y) := by
  have hcp : cmpP (bl x.path) (bl y.path) = cmpL (splits (bl x.path)) (splits (bl y.path)) := by simp [cmpP, hx, hy]
  unfold cmpE orI compareInt ltE
  rw [hcp]
  show _ = decide (cmpL (splits (bl x.path)) (splits (bl y.path)) < 0 ∨ (splits (bl x.path) = splits (bl y.path) ∧ x.stamp < y.stamp))
  generalize hp : splits (bl x.path) = p
  generalize hq : splits (bl y.path) = q
  by_cases h0 : cmpL p q = 0
  · have e := Path.cl_eq h0
    subst e
    rw [Path.cl_self]
    by_cases h1 : x.stamp < y.stamp
    · simp [h1]
    · by_cases h2 : y.stamp < x.stamp <;> simp [h1, h2]
  · have hne : p ≠ q := fun e => h0 (by rw [e]; exact Path.cl_self q)
    simp [h0, hne]
theorem ltE_irrefl (x : Ent) : ¬ ltE x x := by
  unfold ltE
  rw [Path.cl_self]
  omega
theorem ltE_trans {x y z : Ent} (h1 : ltE x y) (h2 : ltE y z) : ltE x z := by
  unfold ltE at *
  rcases h1 with h1 | ⟨h1, h1'⟩
  · rcases h2 with h2 | ⟨h2, _⟩
    · exact .inl (Path.cl_trans h1 h2)
    · exact .inl (by rw [← h2]; exact h1)
  · rcases h2 with h2 | ⟨h2, h2'⟩
    · exact .inl (by rw [h1]; exact h2)
    · exact .inr ⟨h1.trans h2, by omega⟩
theorem ltE_tri (x y : Ent) : ltE x y ∨ (keyL x = keyL y ∧ x.stamp = y.stamp) ∨ ltE y x := by
  unfold ltE
  have h := Path.cl_anti (keyL x) (keyL y)
  by_cases h0 : cmpL (keyL x) (keyL y) = 0
  · have e := Path.cl_eq h0
    rcases Int.lt_trichotomy x.stamp y.stamp with q | q | q
    · exact .inl (.inr ⟨e, q⟩)
    · exact .inr (.inl ⟨e, q⟩)
    · exact .inr (.inr (.inr ⟨e.symm, q⟩))
  · by_cases h1 : cmpL (keyL x) (keyL y) < 0
    · exact .inl (.inl h1)
    · exact .inr (.inr (.inl (by omega)))

/-- the entries of a list -/
abbrev EntI (es : List Ent) := {e : Ent // e ∈ es}
def cmpI (es : List Ent) (x y : EntI es) : Int := cmpE x.1 y.1
def encI (es : List Ent) (x : EntI es) : List Value := x.1.cells
/-- the list may be sorted: right paths, and of one path each has its stamp -/
structure Sortable (es : List Ent) : Prop where
  right : ∀ e ∈ es, rightB (bl e.path) = true
  one : ∀ a ∈ es, ∀ b ∈ es, a.path = b.path → a.stamp = b.stamp → a = b
theorem Inv.sortable {s : S3} {k : Nat} (h : Inv s k) : Sortable s.es := ⟨h.right, fun a ha b hb hp hs => by
  obtain ⟨i, hi⟩ := List.mem_iff_getElem?.1 ha
  obtain ⟨j, hj⟩ := List.mem_iff_getElem?.1 hb
  obtain ⟨hi1, hi2⟩ := List.getElem?_eq_some_iff.1 hi
  obtain ⟨hj1, hj2⟩ := List.getElem?_eq_some_iff.1 hj
  have hp' := List.pairwise_iff_getElem.1 h.order
  have ho : overB (bl a.path) (bl a.path) = true := Path.over_self (h.right a ha)
  rcases Nat.lt_trichotomy i j with q | q | q
  · have := hp' i j hi1 hj1 q
    rw [hi2, hj2, ← hp] at this
    have := this ho
    omega
  · subst q; rw [hi] at hj; exact Option.some.inj hj
  · have := hp' j i hj1 hi1 q
    rw [hi2, hj2, ← hp] at this
    have := this ho
    omega⟩
section
variable {es : List Ent} (H : Sortable es)
include H
theorem cmpI_lt (x y : EntI es) : ltOf (cmpI es) x y = decide (ltE x.1 y.1) := cmpE_lt (H.right _ x.2) (H.right _ y.2)
theorem totI (x y : EntI es) (h1 : ltOf (cmpI es) x y = false) (h2 : ltOf (cmpI es) y x = false) : x = y := by
  rw [cmpI_lt H] at *
  rcases ltE_tri x.1 y.1 with q | q | q
  · exact absurd q (of_decide_eq_false h1)
  · exact Subtype.ext (H.one _ x.2 _ y.2 (key_path q.1) q.2)
  · exact absurd q (of_decide_eq_false h2)
theorem swoI : SWO (ltOf (cmpI es)) where
  irrefl x := by rw [cmpI_lt H]; exact decide_eq_false (ltE_irrefl _)
  trans x y z h1 h2 := by rw [cmpI_lt H] at *; exact decide_eq_true (ltE_trans (of_decide_eq_true h1) (of_decide_eq_true h2))
  ntrans x y z h1 h2 := by
    rw [cmpI_lt H] at *
    refine decide_eq_false fun h => ?_
    have n1 := of_decide_eq_false h1
    have n2 := of_decide_eq_false h2
    rcases ltE_tri x.1 y.1 with q | q | q
    · exact n1 q
    · have e : x = y := Subtype.ext (H.one _ x.2 _ y.2 (key_path q.1) q.2)
      subst e; exact n2 h
    · exact n2 (ltE_trans q h)
/-- sorted -/
def sortI (_ : Sortable es) (l : List (EntI es)) : List (EntI es) := l.mergeSort fun x y => !ltOf (cmpI es) y x
omit H in
theorem sortI_len (H : Sortable es) (l : List (EntI es)) : (sortI H l).length = l.length := List.length_mergeSort l
omit H in
theorem sortI_perm (H : Sortable es) (l : List (EntI es)) : (sortI H l).Perm l := List.mergeSort_perm l _
omit H in
theorem sortI_le (H : Sortable es) (l : List (EntI es)) : (sortI H l).Pairwise (fun a b => (!ltOf (cmpI es) b a) = true) := by
  refine List.pairwise_mergeSort ?_ ?_ l
  · intro a b c h1 h2
    rw [cmpI_lt H] at *
    simp only [Bool.not_eq_true', decide_eq_false_iff_not] at *
    intro h
    rcases ltE_tri b.1 a.1 with q | q | q
    · exact h1 q
    · have e : b = a := Subtype.ext (H.one _ b.2 _ a.2 (key_path q.1) q.2)
      subst e; exact h2 h
    · exact h2 (ltE_trans h q)
  · intro a b
    rw [cmpI_lt H, cmpI_lt H]
    simp only [Bool.or_eq_true, Bool.not_eq_true', decide_eq_false_iff_not]
    by_cases h : ltE b.1 a.1
    · right
      intro h'
      exact ltE_irrefl _ (ltE_trans h h')
    · exact .inl h
end
theorem sortI_lt {es : List Ent} (H : Sortable es) (l : List (EntI es)) (hn : l.Nodup) : ((sortI H l).map (·.1)).Pairwise ltE := by
  have h2 : (sortI H l).Nodup := (sortI_perm H l).nodup_iff.2 hn
  rw [List.pairwise_map]
  refine ((sortI_le H l).and h2).imp ?_
  rintro a b ⟨h, hne⟩
  rw [cmpI_lt H] at h
  simp only [Bool.not_eq_true', decide_eq_false_iff_not] at h
  rcases ltE_tri a.1 b.1 with q | q | q
  · exact q
  · exact absurd (Subtype.ext (H.one _ a.2 _ b.2 (key_path q.1) q.2)) hne
  · exact absurd q h
/-- a row that is sorted is one -/
theorem sorted_one {l r : List Ent} (h1 : l.Pairwise ltE) (h2 : r.Pairwise ltE) (hp : l.Perm r) : l = r :=
  hp.eq_of_pairwise (le := ltE) (fun a b _ _ h3 h4 => absurd (ltE_trans h3 h4) (ltE_irrefl _)) h1 h2
/-- a list of entries of es, as such -/
def toI {es : List Ent} : (l : List Ent) → (∀ x ∈ l, x ∈ es) → List (EntI es)
  | [], _ => []
  | x :: l, h => ⟨x, h x (by simp)⟩ :: toI l (fun y hy => h y (by simp [hy]))
theorem toI_map {es : List Ent} : ∀ (l : List Ent) (h : ∀ x ∈ l, x ∈ es), (toI l h).map (·.1) = l
  | [], _ => rfl
  | x :: l, h => by rw [toI, List.map_cons, toI_map l]
theorem encI_flat {es : List Ent} (l : List (EntI es)) : l.flatMap (encI es) = (l.map (·.1)).flatMap Ent.cells := by
  induction l with
  | nil => rfl
  | cons x l ih => rw [List.flatMap_cons, List.map_cons, List.flatMap_cons, ih]; rfl
end Go.Proofs.YtpebabaigakagaaGreatDoor.Lock
end
