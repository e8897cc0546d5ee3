/- TabK, joined. -/
import Derived.Test.YtpebabaigakagaaGreatDoorK26
section
namespace Go.Proofs.YtpebabaigakagaaGreatDoor.Tab
open Go.RowKit
open Path (bl rightB overB aboveB)
open Lease (Ses Ans fresh Turned)
open Lock (S3 Ent)
open Cmd (Cm rightC)
set_option linter.unusedSimpArgs false
set_option linter.unusedVariables false
attribute [-go_sem] run_eql_struct run_neq_struct run_eqGuard_agg
attribute [local go_sem] guardAn neqAn guardSe neqSe
def CutE (w : World) (ee : Int) (TL : List Ans) (t p m : Nat) (ss : List Ses) (b : Lock.Bk) (b6 b9 b12 b14 : Nat) (av vl : Value) (L : List Ent) (c6 c9 c12 : List Value) (u : Value) (wc : World) : Prop :=
  u = .int .i64 ee ∧ At [Part.old w] w [Part.cells b14 [.int .i64 ee, .int .u64 0, .bool false] 48, Part.cells b12 c12 38, Lock.rowL vl L, TabP t p m ss b, Part.old w, Part.cells b9 c9 29, Part.cells b6 c6 25] wc
def LpRel (w : World) (ee : Int) (TL : List Ans) (t p m : Nat) (ss : List Ses) (b : Lock.Bk) (b6 b9 b12 b14 : Nat) (vl : Value) (L : List Ent) (c6 c9 c12 : List Value) (k : Nat) (u : Value) (wr : World) : Prop :=
  ∃ i : Nat, u = .int .i64 i ∧ i + k = L.length ∧ At [Part.old w] w [Part.cells b14 [.int .i64 ee, .int .u64 0, .bool false] 48, Part.cells b12 c12 38, Lock.rowL vl L, TabP t p m ss b, Part.old w, Part.cells b9 c9 29, Part.cells b6 c6 25] wr
def CutF (w : World) (ee : Int) (TL : List Ans) (t p m : Nat) (ss : List Ses) (b : Lock.Bk) (b6 b9 b12 b14 b17 : Nat) (vl : Value) (L : List Ent) (c6 c9 c12 c17 : List Value) (fb : Bool) (u18 u19 : Value) (wc : World) : Prop :=
  u19 = .bool fb ∧ At [Part.old w] w [Part.cells b17 c17 51, Part.cells b14 [.int .i64 ee, .int .u64 0, .bool false] 48, Part.cells b12 c12 38, Lock.rowL vl L, TabP t p m ss b, Part.old w, Part.cells b9 c9 29, Part.cells b6 c6 25] wc
def CutI (w : World) (av : Value) (TL : List Ans) (t p m : Nat) (ss : List Ses) (b : Lock.Bk) (b6 b9 : Nat) (c6 c9 c12 : List Value) (u : Value) (wc : World) : Prop :=
  ∃ b12, u = .pointer (some ⟨b12, 0, none⟩) ∧ At [Part.old w] w [Part.cells b12 c12 38, rowAn av TL, TabP t p m ss b, Part.old w, Part.cells b9 c9 29, Part.cells b6 c6 25] wc
set_option maxRecDepth 100000 in
set_option maxHeartbeats 8000000 in
theorem expires_law {w : World} {v : Value} {l : List Cm} (hr : ReadsC (Part.old w) v l) (hl : l.length ≤ 9223372036854775807) (hv : ∀ c ∈ l, CmV c) {first : Int} (f0 : 0 ≤ first) (f1 : first < Lock.big64) (num : Int) (n0 : 0 ≤ num) (n1 : num < Lease.big64) (foot : ByteArray) (time : Int) :
    Calls Tryz.prog 3 #[.int .u64 first, v, .agg #[.int .u64 num, .string foot], .int .i64 time] w fun e w' => e = .returned (.bool true) ∧ Below w.heap.size w w' := by
  have hm : Tryz.prog.follows .mixedOrders = true := by kernel_rfl
  have hA : At [Part.old w] w [Part.old w] w := At.start ⟨fun _ _ => rfl, trivial, nofun⟩
  have hF := hA.facts
  have hsm := fun (w1 : World) (q : Sep [Part.old w] w1) => small_any q hr hl (fun c hc => ⟨(hv c hc).path, (hv c hc).foot⟩) 60
  have hpl := fun (hs : smallB l 60 = true) (w1 : World) (q : Sep [Part.old w] w1) => play_any q f0 f1 hr (by have := (small_in (k := 60) hs hv).1; omega) (small_in (k := 60) hs hv).2
  have hin := fun (hs : smallB l 60 = true) => play_inv (fun x hx => ((small_in (k := 60) hs hv).2 x hx).ok) (new_inv f0 f1)
  have hln := fun (hs : smallB l 60 = true) => (small_in (k := 60) hs hv).1
  obtain ⟨sb, hsb⟩ : ∃ z, smallB l 60 = z := ⟨_, rfl⟩
  rw [hsb] at hsm hpl hin hln
  have hsm' := Lib.hid hsm
  have hpl' := Lib.hid hpl
  have hin' := Lib.hid hin
  have hln' := Lib.hid hln
  clear hsm hpl hin hln hsb hv
  obtain ⟨ax, cap, rfl, _, _⟩ := hr w (hA.get .here)
  clear hr
  (try simp only [uA] at hA); have hF := hA.facts; (try simp only [fZ] at hF)
  go_enter Tryz.func3, Tryz.ntmps3
  go_wp2_with (first | ((with_reducible refine gbx ?_); refine wX 25 (.agg #[.int .u64 num, .string foot]) [.int .u64 num, .string foot] hA ?_; clear hF hA; intro b6 w1 hA hb6; (try simp only [uA] at hA); have hF := hA.facts; (try simp only [fZ] at hF)) | ((with_reducible refine gst ?_); refine wS hA ?_; clear hF hA; intro w1 hA; (try simp only [uA] at hA); have hF := hA.facts; (try simp only [fZ] at hF)) | ((with_reducible refine gbx ?_); refine wB hA ?_; clear hF hA; intro b1 w1 hA hb1; (try simp only [uA] at hA); have hF := hA.facts; (try simp only [fZ] at hF)))
  refine (anchor_any _).mono ?_
  rintro e w1 ⟨rfl, hx⟩
  have hB := hA.ext hx
  clear hx
  clear hF hA; have hA := hB; clear hB
  try simp only [List.cons_append, List.nil_append] at hA
  (try simp only [uA] at hA); have hF := hA.facts; (try simp only [fZ] at hF)
  go_wp2_with (first | ((with_reducible refine gst ?_); refine wS hA ?_; clear hF hA; intro w1 hA; (try simp only [uA] at hA); have hF := hA.facts; (try simp only [fZ] at hF)) | ((with_reducible refine gbx ?_); refine wB hA ?_; clear hF hA; intro b1 w1 hA hb1; (try simp only [uA] at hA); have hF := hA.facts; (try simp only [fZ] at hF)))
  refine (hsm'.out _ (hA.sep1 (A := Part.old w) sZ)).mono ?_
  rintro e w1 ⟨rfl, hT⟩
  have hB := hA.call1 (A := Part.old w) sZ hT
  clear hT
  clear hF hA; have hA := hB; clear hB
  try simp only [List.cons_append, List.nil_append] at hA
  (try simp only [uA] at hA); have hF := hA.facts; (try simp only [fZ] at hF)
  clear hsm'
  cases sb
  · go_wp2_with (first | ((with_reducible refine gst ?_); refine wS hA ?_; clear hF hA; intro w1 hA; (try simp only [uA] at hA); have hF := hA.facts; (try simp only [fZ] at hF)) | ((with_reducible refine gbx ?_); refine wB hA ?_; clear hF hA; intro b1 w1 hA hb1; (try simp only [uA] at hA); have hF := hA.facts; (try simp only [fZ] at hF)))
    go_ret
    exact ⟨rfl, below_old hA sZ⟩
  have hc6 : w1.cell? ⟨b6, 1, none⟩ = some (.string foot) := (hA.get (A := Part.cells b6 [.int .u64 num, .string foot] 25) sZ : BlockIs _ _ _ _).cell 1
  clear hF
  by_cases hfl : (100 : Int) < foot.size
  · go_wp2_with (first | ((with_reducible refine gst ?_); refine wS hA ?_; clear hF hA; intro w1 hA; (try simp only [uA] at hA); have hF := hA.facts; (try simp only [fZ] at hF)) | ((with_reducible refine gbx ?_); refine wB hA ?_; clear hF hA; intro b1 w1 hA hb1; (try simp only [uA] at hA); have hF := hA.facts; (try simp only [fZ] at hF)))
    go_ret
    exact ⟨rfl, below_old hA sZ⟩
  go_wp2_with (first | ((with_reducible refine gal ?_); refine wA 29 (.agg #[.int .i64 0, .int .u64 0, .string .empty, .int .u64 0, .string .empty, .int .i64 0, .int .u64 0, .int .i64 0]) [.int .i64 0, .int .u64 0, .string .empty, .int .u64 0, .string .empty, .int .i64 0, .int .u64 0, .int .i64 0] hA ?_; clear hF hA; intro b9 w1 hA hb9; (try simp only [uA] at hA); have hF := hA.facts; (try simp only [fZ] at hF)) | ((with_reducible show wpList _ _ _ ({ dst := _, op := Op.load 25 _, type := _, pos := _, after := _, guard := _ } :: _) _ _); refine wpList_loadRow_at (vs := [.int .u64 num, .string foot]) rfl rfl (by (try simp only [Act.eval, eV]) <;> exact rfl) (fun k u hk => by rw [Nat.zero_add]; exact ((hA.get (A := Part.cells b6 [.int .u64 num, .string foot] 25) sZ : BlockIs _ _ _ _).cell k).trans hk) (by kernel_rfl) (by kernel_rfl) ?_) | ((with_reducible show wpList _ _ _ ({ dst := _, op := Op.load 29 _, type := _, pos := _, after := _, guard := _ } :: _) _ _); refine wpList_loadRow_at (vs := [.int .i64 8, .int .u64 num, .string foot, .int .u64 0, .string .empty, .int .i64 0, .int .u64 0, .int .i64 time]) rfl rfl (by (try simp only [Act.eval, eV]) <;> exact rfl) (fun k u hk => by rw [Nat.zero_add]; exact ((hA.get (A := Part.cells b9 [.int .i64 8, .int .u64 num, .string foot, .int .u64 0, .string .empty, .int .i64 0, .int .u64 0, .int .i64 time] 29) sZ : BlockIs _ _ _ _).cell k).trans hk) (by kernel_rfl) (by kernel_rfl) ?_) | ((with_reducible refine gst ?_); refine wS hA ?_; clear hF hA; intro w1 hA; (try simp only [uA] at hA); have hF := hA.facts; (try simp only [fZ] at hF)) | ((with_reducible refine gbx ?_); refine wB hA ?_; clear hF hA; intro b1 w1 hA hb1; (try simp only [uA] at hA); have hF := hA.facts; (try simp only [fZ] at hF)))
  (try simp only [uA] at hA); have hF := hA.facts; (try simp only [fZ] at hF)
  refine (of18_any (expC num foot time) _).mono ?_
  rintro e w1 ⟨rfl, hx⟩
  have hB := hA.ext hx
  clear hx
  clear hF hA; have hA := hB; clear hB
  try simp only [List.cons_append, List.nil_append] at hA
  (try simp only [uA] at hA); have hF := hA.facts; (try simp only [fZ] at hF)
  simp only [expC, Cm.val]
  go_wp2_with (first | ((with_reducible refine gst ?_); refine wS hA ?_; clear hF hA; intro w1 hA; (try simp only [uA] at hA); have hF := hA.facts; (try simp only [fZ] at hF)) | ((with_reducible refine gbx ?_); refine wB hA ?_; clear hF hA; intro b1 w1 hA hb1; (try simp only [uA] at hA); have hF := hA.facts; (try simp only [fZ] at hF)))
  refine (right8_any num foot time (by omega) _).mono ?_
  rintro e w1 ⟨rfl, hx⟩
  have hB := hA.ext hx
  clear hx
  clear hF hA; have hA := hB; clear hB
  try simp only [List.cons_append, List.nil_append] at hA
  (try simp only [uA] at hA); have hF := hA.facts; (try simp only [fZ] at hF)
  clear hc6
  cases hrb : expR foot time with
  | false =>
    go_wp2_with (first | ((with_reducible refine gst ?_); refine wS hA ?_; clear hF hA; intro w1 hA; (try simp only [uA] at hA); have hF := hA.facts; (try simp only [fZ] at hF)) | ((with_reducible refine gbx ?_); refine wB hA ?_; clear hF hA; intro b1 w1 hA hb1; (try simp only [uA] at hA); have hF := hA.facts; (try simp only [fZ] at hF)))
    go_ret
    exact ⟨rfl, below_old hA sZ⟩
  | true =>
    have hrb' := Lib.hid hrb
    clear hrb
    go_wp2_with (first | ((with_reducible refine gst ?_); refine wS hA ?_; clear hF hA; intro w1 hA; (try simp only [uA] at hA); have hF := hA.facts; (try simp only [fZ] at hF)) | ((with_reducible refine gbx ?_); refine wB hA ?_; clear hF hA; intro b1 w1 hA hb1; (try simp only [uA] at hA); have hF := hA.facts; (try simp only [fZ] at hF)))
    refine (hpl'.out trivial _ (hA.sep1 (A := Part.old w) sZ)).mono ?_
    rintro e w1 ⟨t, p, m, ss, b, av, rfl, hR, hT⟩
    have hB := hA.call1 (A := Part.old w) sZ hT
    clear hT
    clear hF hA; have hA := hB; clear hB
    try simp only [List.cons_append, List.nil_append] at hA
    (try simp only [uA] at hA); have hF := hA.facts; (try simp only [fZ] at hF)
    clear hpl'
    have hti := hin'.out trivial
    have hl60 := hln'.out trivial
    clear hin' hln'
    generalize hTT : playT ⟨[], ⟨first, [], []⟩⟩ l = T at *
    clear hTT
    generalize toldT ⟨[], ⟨first, [], []⟩⟩ l = TL at *
    have hnf := fun (w1 : World) (q : Sep [TabP t p m ss b] w1) => tinfo_any q n0 n1 (show foot.size ≤ maxLen by unfold maxLen; omega)
    obtain ⟨io, hio⟩ : ∃ z, (Lease.look ss num foot).op = z := ⟨_, rfl⟩
    obtain ⟨idd, hidd⟩ : ∃ z, (Lease.look ss num foot).dead = z := ⟨_, rfl⟩
    obtain ⟨idl, hidl⟩ : ∃ z, (Lease.look ss num foot).dl = z := ⟨_, rfl⟩
    obtain ⟨itt, hitt⟩ : ∃ z, (Lease.look ss num foot).ttl = z := ⟨_, rfl⟩
    obtain ⟨itl, hitl⟩ : ∃ z : Int, (Lease.look ss num foot).told.length = z := ⟨_, rfl⟩
    simp only [Lease.Ses.info, hio, hidd, hidl, hitt, hitl] at hnf
    have hnf' := Lib.hid hnf
    have hi' := Lib.hid (show (Lease.look ss num foot).op = io ∧ (Lease.look ss num foot).dead = idd ∧ (Lease.look ss num foot).dl = idl from ⟨hio, hidd, hidl⟩)
    have hR' := Lib.hid hR
    have hti' := Lib.hid hti
    clear hnf hio hidd hidl hitt hitl hR hti
    go_upto_region 9 with (first | ((with_reducible refine gst ?_); refine wS hA ?_; clear hF hA; intro w1 hA; (try simp only [uA] at hA); have hF := hA.facts; (try simp only [fZ] at hF)) | ((with_reducible refine gbx ?_); refine wB hA ?_; clear hF hA; intro b1 w1 hA hb1; (try simp only [uA] at hA); have hF := hA.facts; (try simp only [fZ] at hF)))
    try go_frame
    go_cut [12] from 44 to 47 (CutI w av TL t p m ss b b6 b9 [.int .u64 num, .string foot] [.int .i64 8, .int .u64 num, .string foot, .int .u64 0, .string .empty, .int .i64 0, .int .u64 0, .int .i64 time] [.bool io, .bool idd, .int .i64 idl, .int .i64 itt, .int .i64 itl])
    case first =>
      have hB := hA.drew
      clear hF hA; have hA := hB; clear hB
      refine wp_region_held (S := fun w' => BlockIs w' b6 [.int .u64 num, .string foot] 25) hm ?_
      change wpAnyH _ _ _ _ _ 6 _ _ (World.drew _)
      generalize World.drew _ = wd at *
      have hS0 := (hA.get (A := Part.cells b6 [.int .u64 num, .string foot] 25) sZ : (fun w' => BlockIs w' b6 [.int .u64 num, .string foot] 25) wd)
      refine tP 0 44 (.pointer (some ⟨t, 0, none⟩)) (s := hS0) (h := ?_)
      try go_frame
      refine tZ 2 46 (.agg #[.int .u64 num, .string foot]) (r := (fun w' hS => run_load_row (ty := 25) (n := 2) (b := b6) (j := 0) rfl (by exact rfl) hS (by kernel_rfl) (by kernel_rfl) rfl rfl)) (s := hS0) (h := ?_)
      try go_frame
      refine wpAnyH_two (i := 1) (j := 4) (by kernel_rfl) ?_ ?_
      · skip
        refine opCall_at (i := 1) (d := some 45) (R := fun u w' => u = .pointer (some ⟨p, 0, none⟩) ∧ At [TabP t p m ss b] _ [TabP t p m ss b] w') rfl rfl (by kernel_rfl) (fn := 13) (args := #[.pointer (some ⟨t, 0, none⟩)]) (by simp [execOp, go_sem, Act.eval, Act.put]) ((sessions_any (hA.sep1 (A := TabP t p m ss b) sZ)).mono fun e w' ⟨he, hT⟩ => ⟨_, he, rfl, hT⟩) ?_
        rintro u w3 ⟨rfl, hT⟩
        have hB := hA.call1 (A := TabP t p m ss b) sZ hT
        clear hT
        simp only [List.cons_append, List.nil_append] at hB
        have hS0 := (hB.get (A := Part.cells b6 [.int .u64 num, .string foot] 25) sZ : (fun w' => BlockIs w' b6 [.int .u64 num, .string foot] 25) w3)
        clear hA; have hA := hB; clear hB
        refine ⟨hS0, ?_⟩
        try go_frame
        refine wpAnyH_two (i := 3) (j := 4) (by kernel_rfl) ?_ ?_
        · skip
          refine opCall_at (i := 3) (d := some 47) (R := fun u w' => u = .agg #[.bool io, .bool idd, .int .i64 idl, .int .i64 itt, .int .i64 itl] ∧ At [TabP t p m ss b] _ [TabP t p m ss b] w') rfl rfl (by kernel_rfl) (fn := 14) (args := #[.pointer (some ⟨p, 0, none⟩), .agg #[.int .u64 num, .string foot]]) (by simp [execOp, go_sem, Act.eval, Act.put]) ((hnf'.out _ (hA.sep1 (A := TabP t p m ss b) sZ)).mono fun e w' ⟨he, hT⟩ => ⟨_, he, rfl, hT⟩) ?_
          rintro u w3 ⟨rfl, hT⟩
          have hB := hA.call1 (A := TabP t p m ss b) sZ hT
          clear hT
          simp only [List.cons_append, List.nil_append] at hB
          have hS0 := (hB.get (A := Part.cells b6 [.int .u64 num, .string foot] 25) sZ : (fun w' => BlockIs w' b6 [.int .u64 num, .string foot] 25) w3)
          clear hA; have hA := hB; clear hB
          refine ⟨hS0, ?_⟩
          try go_frame
          refine wpAnyH_one (i := 4) (by kernel_rfl) ?_
          refine opAlloc_at (i := 4) (d := some 12) rfl rfl (by kernel_rfl) (E := 38) rfl (z := .agg #[.bool false, .bool false, .int .i64 0, .int .i64 0, .int .i64 0]) (vs := [.bool false, .bool false, .int .i64 0, .int .i64 0, .int .i64 0]) (by kernel_rfl) (by exact rfl) hA ?_
          intro b12 w3 hB
          have hS0 := (hB.get (A := Part.cells b6 [.int .u64 num, .string foot] 25) sZ : (fun w' => BlockIs w' b6 [.int .u64 num, .string foot] 25) w3)
          clear hA; have hA := hB; clear hB
          refine ⟨hS0, ?_⟩
          try go_frame
          refine wpAnyH_one (i := 5) (by kernel_rfl) ?_
          refine opStore_at (i := 5) (b := b12) (j := 0) (vs := [.bool io, .bool idd, .int .i64 idl, .int .i64 itt, .int .i64 itl]) rfl rfl (by kernel_rfl) rfl (by exact rfl) (by exact rfl) rfl hA sZ (by kernel_rfl) rfl (by simp) ?_
          intro w3 hB
          simp only [uA] at hB
          have hS0 := (hB.get (A := Part.cells b6 [.int .u64 num, .string foot] 25) sZ : (fun w' => BlockIs w' b6 [.int .u64 num, .string foot] 25) w3)
          clear hA; have hA := hB; clear hB
          refine ⟨hS0, ?_⟩
          try go_frame
          refine wpAnyH_done (by kernel_rfl) ?_ _
          try go_frame
          clear hS0
          (try simp only [uA] at hA); have hF := hA.facts; (try simp only [fZ] at hF)
          go_wp2_with fail
          go_meet
          case rel => exact ⟨b12, rfl, hA.pick pZ⟩
        · skip
          refine opAlloc_at (i := 4) (d := some 12) rfl rfl (by kernel_rfl) (E := 38) rfl (z := .agg #[.bool false, .bool false, .int .i64 0, .int .i64 0, .int .i64 0]) (vs := [.bool false, .bool false, .int .i64 0, .int .i64 0, .int .i64 0]) (by kernel_rfl) (by exact rfl) hA ?_
          intro b12 w3 hB
          have hS0 := (hB.get (A := Part.cells b6 [.int .u64 num, .string foot] 25) sZ : (fun w' => BlockIs w' b6 [.int .u64 num, .string foot] 25) w3)
          clear hA; have hA := hB; clear hB
          refine ⟨hS0, ?_⟩
          try go_frame
          refine wpAnyH_one (i := 3) (by kernel_rfl) ?_
          refine opCall_at (i := 3) (d := some 47) (R := fun u w' => u = .agg #[.bool io, .bool idd, .int .i64 idl, .int .i64 itt, .int .i64 itl] ∧ At [TabP t p m ss b] _ [TabP t p m ss b] w') rfl rfl (by kernel_rfl) (fn := 14) (args := #[.pointer (some ⟨p, 0, none⟩), .agg #[.int .u64 num, .string foot]]) (by simp [execOp, go_sem, Act.eval, Act.put]) ((hnf'.out _ (hA.sep1 (A := TabP t p m ss b) sZ)).mono fun e w' ⟨he, hT⟩ => ⟨_, he, rfl, hT⟩) ?_
          rintro u w3 ⟨rfl, hT⟩
          have hB := hA.call1 (A := TabP t p m ss b) sZ hT
          clear hT
          simp only [List.cons_append, List.nil_append] at hB
          have hS0 := (hB.get (A := Part.cells b6 [.int .u64 num, .string foot] 25) sZ : (fun w' => BlockIs w' b6 [.int .u64 num, .string foot] 25) w3)
          clear hA; have hA := hB; clear hB
          refine ⟨hS0, ?_⟩
          try go_frame
          refine wpAnyH_one (i := 5) (by kernel_rfl) ?_
          refine opStore_at (i := 5) (b := b12) (j := 0) (vs := [.bool io, .bool idd, .int .i64 idl, .int .i64 itt, .int .i64 itl]) rfl rfl (by kernel_rfl) rfl (by exact rfl) (by exact rfl) rfl hA sZ (by kernel_rfl) rfl (by simp) ?_
          intro w3 hB
          simp only [uA] at hB
          have hS0 := (hB.get (A := Part.cells b6 [.int .u64 num, .string foot] 25) sZ : (fun w' => BlockIs w' b6 [.int .u64 num, .string foot] 25) w3)
          clear hA; have hA := hB; clear hB
          refine ⟨hS0, ?_⟩
          try go_frame
          refine wpAnyH_done (by kernel_rfl) ?_ _
          try go_frame
          clear hS0
          (try simp only [uA] at hA); have hF := hA.facts; (try simp only [fZ] at hF)
          go_wp2_with fail
          go_meet
          case rel => exact ⟨b12, rfl, hA.pick pZ⟩
      · skip
        refine opAlloc_at (i := 4) (d := some 12) rfl rfl (by kernel_rfl) (E := 38) rfl (z := .agg #[.bool false, .bool false, .int .i64 0, .int .i64 0, .int .i64 0]) (vs := [.bool false, .bool false, .int .i64 0, .int .i64 0, .int .i64 0]) (by kernel_rfl) (by exact rfl) hA ?_
        intro b12 w3 hB
        have hS0 := (hB.get (A := Part.cells b6 [.int .u64 num, .string foot] 25) sZ : (fun w' => BlockIs w' b6 [.int .u64 num, .string foot] 25) w3)
        clear hA; have hA := hB; clear hB
        refine ⟨hS0, ?_⟩
        try go_frame
        refine wpAnyH_one (i := 1) (by kernel_rfl) ?_
        refine opCall_at (i := 1) (d := some 45) (R := fun u w' => u = .pointer (some ⟨p, 0, none⟩) ∧ At [TabP t p m ss b] _ [TabP t p m ss b] w') rfl rfl (by kernel_rfl) (fn := 13) (args := #[.pointer (some ⟨t, 0, none⟩)]) (by simp [execOp, go_sem, Act.eval, Act.put]) ((sessions_any (hA.sep1 (A := TabP t p m ss b) sZ)).mono fun e w' ⟨he, hT⟩ => ⟨_, he, rfl, hT⟩) ?_
        rintro u w3 ⟨rfl, hT⟩
        have hB := hA.call1 (A := TabP t p m ss b) sZ hT
        clear hT
        simp only [List.cons_append, List.nil_append] at hB
        have hS0 := (hB.get (A := Part.cells b6 [.int .u64 num, .string foot] 25) sZ : (fun w' => BlockIs w' b6 [.int .u64 num, .string foot] 25) w3)
        clear hA; have hA := hB; clear hB
        refine ⟨hS0, ?_⟩
        try go_frame
        refine wpAnyH_one (i := 3) (by kernel_rfl) ?_
        refine opCall_at (i := 3) (d := some 47) (R := fun u w' => u = .agg #[.bool io, .bool idd, .int .i64 idl, .int .i64 itt, .int .i64 itl] ∧ At [TabP t p m ss b] _ [TabP t p m ss b] w') rfl rfl (by kernel_rfl) (fn := 14) (args := #[.pointer (some ⟨p, 0, none⟩), .agg #[.int .u64 num, .string foot]]) (by simp [execOp, go_sem, Act.eval, Act.put]) ((hnf'.out _ (hA.sep1 (A := TabP t p m ss b) sZ)).mono fun e w' ⟨he, hT⟩ => ⟨_, he, rfl, hT⟩) ?_
        rintro u w3 ⟨rfl, hT⟩
        have hB := hA.call1 (A := TabP t p m ss b) sZ hT
        clear hT
        simp only [List.cons_append, List.nil_append] at hB
        have hS0 := (hB.get (A := Part.cells b6 [.int .u64 num, .string foot] 25) sZ : (fun w' => BlockIs w' b6 [.int .u64 num, .string foot] 25) w3)
        clear hA; have hA := hB; clear hB
        refine ⟨hS0, ?_⟩
        try go_frame
        refine wpAnyH_one (i := 5) (by kernel_rfl) ?_
        refine opStore_at (i := 5) (b := b12) (j := 0) (vs := [.bool io, .bool idd, .int .i64 idl, .int .i64 itt, .int .i64 itl]) rfl rfl (by kernel_rfl) rfl (by exact rfl) (by exact rfl) rfl hA sZ (by kernel_rfl) rfl (by simp) ?_
        intro w3 hB
        simp only [uA] at hB
        have hS0 := (hB.get (A := Part.cells b6 [.int .u64 num, .string foot] 25) sZ : (fun w' => BlockIs w' b6 [.int .u64 num, .string foot] 25) w3)
        clear hA; have hA := hB; clear hB
        refine ⟨hS0, ?_⟩
        try go_frame
        refine wpAnyH_done (by kernel_rfl) ?_ _
        try go_frame
        clear hS0
        (try simp only [uA] at hA); have hF := hA.facts; (try simp only [fZ] at hF)
        go_wp2_with fail
        go_meet
        case rel => exact ⟨b12, rfl, hA.pick pZ⟩
    case rest =>
      obtain ⟨b12, rfl, hB⟩ := hcut
      clear hF hA
      have hA := hB
      clear hB hnf'
      (try simp only [uA] at hA); have hF := hA.facts; (try simp only [fZ] at hF)
      go_wp2_with (first | ((with_reducible refine gst ?_); refine wS hA ?_; clear hF hA; intro w1 hA; (try simp only [uA] at hA); have hF := hA.facts; (try simp only [fZ] at hF)) | ((with_reducible refine gbx ?_); refine wB hA ?_; clear hF hA; intro b1 w1 hA hb1; (try simp only [uA] at hA); have hF := hA.facts; (try simp only [fZ] at hF)))
      refine (locks_of_any (hA.sep1 (A := TabP t p m ss b) sZ)).mono ?_
      rintro e w1 ⟨rfl, hT⟩
      have hB := hA.call1 (A := TabP t p m ss b) sZ hT
      clear hT
      clear hF hA; have hA := hB; clear hB
      try simp only [List.cons_append, List.nil_append] at hA
      (try simp only [uA] at hA); have hF := hA.facts; (try simp only [fZ] at hF)
      go_wp2_with (first | ((with_reducible refine gst ?_); refine wS hA ?_; clear hF hA; intro w1 hA; (try simp only [uA] at hA); have hF := hA.facts; (try simp only [fZ] at hF)) | ((with_reducible refine gbx ?_); refine wB hA ?_; clear hF hA; intro b1 w1 hA hb1; (try simp only [uA] at hA); have hF := hA.facts; (try simp only [fZ] at hF)))
      have hli : Lock.Inv b.st (0 + l.length) := by rw [hR'.out.L]; exact hti'.out.lock
      refine (tlist_any (hA.sep1 (A := TabP t p m ss b) sZ) hli (by omega)).mono ?_
      rintro e w1 ⟨vl, L, rfl, hp, hT⟩
      have hB := hA.call1 (A := TabP t p m ss b) sZ hT
      clear hT
      clear hF hA; have hA := hB; clear hB
      try simp only [List.cons_append, List.nil_append] at hA
      (try simp only [uA] at hA); have hF := hA.facts; (try simp only [fZ] at hF)
      have hli' := Lib.hid hli
      have hp' := Lib.hid hp
      have hap := fun (w1 : World) (q : Sep [TabP t p m ss b] w1) => apply_any q 8 num foot 0 .empty 0 0 time hR'.out hti'.out (by omega) ⟨⟨n0, n1⟩, show foot.size ≤ 100 by omega, show ByteArray.empty.size ≤ 100 by decide⟩ (by omega) (by unfold Lease.big64; omega) (by omega)
      rw [show applyT T ⟨8, num, foot, 0, .empty, 0, 0, time⟩ = _ from exp_apply hrb'.out] at hap
      have hex := fun e (he : e ∈ L) => exp_locks T (expC num foot time) (e := e) (by rw [← hR'.out.L]; exact hp.mem_iff.1 he)
      have hed := exp_dead T (expC num foot time)
      have hee0 : Lease.expB (lookA T.S num foot) time = if io then (if time < idl then 54 else 0) else 50 := by
        rw [hR'.out.look]
        unfold Lease.expB
        show (if (Lease.look ss num foot).op then (if time < (Lease.look ss num foot).dl then 54 else 0) else 50) = _
        rw [hi'.out.1, hi'.out.2.2]
      have hdd : (lookA T.S num foot).dead = idd := by
        rw [hR'.out.look]
        exact hi'.out.2.1
      simp only [show (expC num foot time).num = num from rfl, show (expC num foot time).foot = foot from rfl, show (expC num foot time).time = time from rfl, hdd] at hex hed
      obtain ⟨ee, hee⟩ : ∃ z, Lease.expB (lookA T.S num foot) time = z := ⟨_, rfl⟩
      rw [hee] at hap hex hed hee0
      have hap' := Lib.hid hap
      have hex' := Lib.hid hex
      have hed' := Lib.hid hed
      have hee' := Lib.hid hee0
      clear hli hp hap hex hed hee0 hee hdd hi'
      go_wp2_with (first | ((with_reducible refine gal ?_); refine wA 48 (.agg #[.int .i64 0, .int .u64 0, .bool false]) [.int .i64 0, .int .u64 0, .bool false] hA ?_; clear hF hA; intro b14 w1 hA hb14; (try simp only [uA] at hA); have hF := hA.facts; (try simp only [fZ] at hF)) | ((with_reducible show wpList _ _ _ ({ dst := _, op := Op.load 29 _, type := _, pos := _, after := _, guard := _ } :: _) _ _); refine wpList_loadRow_at (vs := [.int .i64 8, .int .u64 num, .string foot, .int .u64 0, .string .empty, .int .i64 0, .int .u64 0, .int .i64 time]) rfl rfl (by (try simp only [Act.eval, eV]) <;> exact rfl) (fun k u hk => by rw [Nat.zero_add]; exact ((hA.get (A := Part.cells b9 [.int .i64 8, .int .u64 num, .string foot, .int .u64 0, .string .empty, .int .i64 0, .int .u64 0, .int .i64 time] 29) sZ : BlockIs _ _ _ _).cell k).trans hk) (by kernel_rfl) (by kernel_rfl) ?_) | ((with_reducible refine gst ?_); refine wS hA ?_; clear hF hA; intro w1 hA; (try simp only [uA] at hA); have hF := hA.facts; (try simp only [fZ] at hF)) | ((with_reducible refine gbx ?_); refine wB hA ?_; clear hF hA; intro b1 w1 hA hb1; (try simp only [uA] at hA); have hF := hA.facts; (try simp only [fZ] at hF)))
      refine (hap'.out _ (hA.sep1 (A := TabP t p m ss b) sZ)).mono ?_
      rintro e w1 ⟨ss2, b2, rfl, hR2, hT⟩
      have hB := hA.call1 (A := TabP t p m ss b) sZ hT
      clear hT
      clear hF hA; have hA := hB; clear hB
      try simp only [List.cons_append, List.nil_append] at hA
      (try simp only [uA] at hA); have hF := hA.facts; (try simp only [fZ] at hF)
      have hR2' := Lib.hid (show TRel ss2 b2 (endT T (expC num foot time) ee) from hR2)
      clear hR2
      simp only [Lease.Ans.val, ansE]
      go_upto_region 12 with (first | ((with_reducible refine gal ?_); refine wA 48 (.agg #[.int .i64 0, .int .u64 0, .bool false]) [.int .i64 0, .int .u64 0, .bool false] hA ?_; clear hF hA; intro b14 w1 hA hb14; (try simp only [uA] at hA); have hF := hA.facts; (try simp only [fZ] at hF)) | ((with_reducible refine gst ?_); refine wS hA ?_; clear hF hA; intro w1 hA; (try simp only [uA] at hA); have hF := hA.facts; (try simp only [fZ] at hF)) | ((with_reducible refine gbx ?_); refine wB hA ?_; clear hF hA; intro b1 w1 hA hb1; (try simp only [uA] at hA); have hF := hA.facts; (try simp only [fZ] at hF)))
      have hc0 : w1.cell? ⟨b12, 0, none⟩ = some (.bool io) := (hA.get (A := Part.cells b12 [.bool io, .bool idd, .int .i64 idl, .int .i64 itt, .int .i64 itl] 38) sZ : BlockIs _ _ _ _).cell 0
      have hc2 : w1.cell? ⟨b12, 2, none⟩ = some (.int .i64 idl) := (hA.get (A := Part.cells b12 [.bool io, .bool idd, .int .i64 idl, .int .i64 itt, .int .i64 itl] 38) sZ : BlockIs _ _ _ _).cell 2
      go_upto_if 56 with (first | ((with_reducible refine gst ?_); refine wS hA ?_; clear hF hA; intro w1 hA; (try simp only [uA] at hA); have hF := hA.facts; (try simp only [fZ] at hF)) | ((with_reducible refine gbx ?_); refine wB hA ?_; clear hF hA; intro b1 w1 hA hb1; (try simp only [uA] at hA); have hF := hA.facts; (try simp only [fZ] at hF)))
      try go_frame
      go_cut [15] from 54 to 60 (CutE w ee TL t p m ss2 b2 b6 b9 b12 b14 av vl L [.int .u64 num, .string foot] [.int .i64 8, .int .u64 num, .string foot, .int .u64 0, .string .empty, .int .i64 0, .int .u64 0, .int .i64 time] [.bool io, .bool idd, .int .i64 idl, .int .i64 itt, .int .i64 itl])
      case first =>
        cases io
        · have hq := Lib.hid (show ee = 50 by have := hee'.out; simpa using this)
          go_wp2_with (first | ((with_reducible refine gst ?_); refine wS hA ?_; clear hF hA; intro w1 hA; (try simp only [uA] at hA); have hF := hA.facts; (try simp only [fZ] at hF)) | ((with_reducible refine gbx ?_); refine wB hA ?_; clear hF hA; intro b1 w1 hA hb1; (try simp only [uA] at hA); have hF := hA.facts; (try simp only [fZ] at hF)))
          go_meet
          case rel => exact ⟨by rw [hq.out], hA.pick pZ⟩
        · by_cases hlt : time < idl
          · have hq := Lib.hid (show ee = 54 by have := hee'.out; simpa [hlt] using this)
            go_wp2_with (first | ((with_reducible refine gst ?_); refine wS hA ?_; clear hF hA; intro w1 hA; (try simp only [uA] at hA); have hF := hA.facts; (try simp only [fZ] at hF)) | ((with_reducible refine gbx ?_); refine wB hA ?_; clear hF hA; intro b1 w1 hA hb1; (try simp only [uA] at hA); have hF := hA.facts; (try simp only [fZ] at hF)))
            go_meet
            case rel => exact ⟨by rw [hq.out], hA.pick pZ⟩
          · have hq := Lib.hid (show ee = 0 by have := hee'.out; simpa [hlt] using this)
            go_wp2_with (first | ((with_reducible refine gst ?_); refine wS hA ?_; clear hF hA; intro w1 hA; (try simp only [uA] at hA); have hF := hA.facts; (try simp only [fZ] at hF)) | ((with_reducible refine gbx ?_); refine wB hA ?_; clear hF hA; intro b1 w1 hA hb1; (try simp only [uA] at hA); have hF := hA.facts; (try simp only [fZ] at hF)))
            go_meet
            case rel => exact ⟨by rw [hq.out], hA.pick pZ⟩
      case rest =>
        obtain ⟨rfl, hB⟩ := hcut
        clear hF hA
        have hA := hB
        clear hB hc0 hc2
        (try simp only [uA] at hA); have hF := hA.facts; (try simp only [fZ] at hF)
        obtain ⟨ax, cap, rfl, _, _, _⟩ := hA.row_form (e := 51) (size := 6) (v := vl) (n := L.length) (xs := L.flatMap Lock.Ent.cells) sZ
        have hLl : L.length ≤ 60 := by have h1 := hp'.out.length_eq; have h2 : b.es.length ≤ 0 + l.length := hli'.out.len; omega
        clear hap' hrb' hR' hti'
        go_wp2_with (first | ((with_reducible show wpList _ _ _ ({ dst := _, op := Op.load 48 _, type := _, pos := _, after := _, guard := _ } :: _) _ _); refine wpList_loadRow_at (vs := [.int .i64 ee, .int .u64 0, .bool false]) rfl rfl (by (try simp only [Act.eval, eV]) <;> exact rfl) (fun k u hk => by rw [Nat.zero_add]; exact ((hA.get (A := Part.cells b14 [.int .i64 ee, .int .u64 0, .bool false] 48) sZ : BlockIs _ _ _ _).cell k).trans hk) (by kernel_rfl) (by kernel_rfl) ?_) | ((with_reducible refine gst ?_); refine wS hA ?_; clear hF hA; intro w1 hA; (try simp only [uA] at hA); have hF := hA.facts; (try simp only [fZ] at hF)) | ((with_reducible refine gbx ?_); refine wB hA ?_; clear hF hA; intro b1 w1 hA hb1; (try simp only [uA] at hA); have hF := hA.facts; (try simp only [fZ] at hF)))
        try go_frame
        go_loopg [67] L.length (LpRel w ee TL t p m ss2 b2 b6 b9 b12 b14 (.slice ax L.length cap) L [.int .u64 num, .string foot] [.int .i64 8, .int .u64 num, .string foot, .int .u64 0, .string .empty, .int .i64 0, .int .u64 0, .int .i64 time] [.bool io, .bool idd, .int .i64 idl, .int .i64 itt, .int .i64 itl])
        case atStart => exact ⟨0, rfl, by omega, hA.pick pZ⟩
        case round =>
          obtain ⟨i, rfl, hik, hB⟩ := hrel
          clear hF hA; have hA := hB; clear hB
          by_cases hi : i < L.length
          · obtain ⟨e, he⟩ : ∃ e, L[i]? = some e := ⟨_, List.getElem?_eq_getElem hi⟩
            have hem := List.mem_of_getElem? he
            have heb := hp'.out.mem_iff.1 hem
            have q1 : e.path.size ≤ maxLen := by have := hli'.out.path e heb; unfold maxLen; omega
            have q2 := hli'.out.num0 e heb
            have q3 := hli'.out.num1 e heb
            have q4 := hli'.out.foot e heb
            obtain ⟨bl, ol, cl, hvl, hrc⟩ := row_at (enc := Lock.Ent.cells) (size := 6) (fun _ => rfl) (by omega) (hA.get (A := Lock.rowL (.slice ax L.length cap) L) sZ) he
            cases hvl
            have hfi := fun (w1 : World) (q : Sep [TabP t p m ss2 b2] w1) => tfind_any q q1 q2 q3 q4
            have hfx := hex'.out e hem
            rw [← hR2'.out.L] at hfx
            have hfx : (Lock.find b2.es e.path e.num e.foot).isSome = _ := hfx
            obtain ⟨fb, hfb⟩ : ∃ z, (Lock.find b2.es e.path e.num e.foot).isSome = z := ⟨_, rfl⟩
            obtain ⟨fe, hfe⟩ : ∃ z, (Lock.find b2.es e.path e.num e.foot).getD Lock.nullE = z := ⟨_, rfl⟩
            simp only [hfb, hfe] at hfi
            rw [hfb] at hfx
            obtain ⟨xp, xn, xf, xm, xk, xs⟩ := fe
            obtain ⟨ep, en, ef, em, ek, es⟩ := e
            simp only [Lock.Ent.val] at hfi
            simp only at hfx
            have hfi' := Lib.hid hfi
            have hfx' := Lib.hid hfx
            have hrc' := Lib.hid (show ∀ (k : Nat) u, ([.string ep, .int .u64 en, .string ef, .int .i64 em, .int .u64 ek, .int .i64 es] : List Value)[k]? = some u → wr.cell? ⟨bl, ol + i * 6 + k, none⟩ = some u from hrc)
            clear hfi hfx hrc hfb hfe he hem heb q1 q2 q3 q4
            (try simp only [uA] at hA); have hF := hA.facts; (try simp only [fZ] at hF)
            go_upto_region 22 with (first | ((with_reducible refine gal ?_); refine wA 51 (.agg #[.string .empty, .int .u64 0, .string .empty, .int .i64 0, .int .u64 0, .int .i64 0]) [.string .empty, .int .u64 0, .string .empty, .int .i64 0, .int .u64 0, .int .i64 0] hA ?_; clear hF hA; intro b17 w1 hA hb17; (try simp only [uA] at hA); have hF := hA.facts; (try simp only [fZ] at hF)) | ((with_reducible show wpList _ _ _ ({ dst := some 70, op := Op.load _ _, type := _, pos := _, after := _, guard := _ } :: _) _ _); refine wpList_loadRow_at (vs := [.string ep, .int .u64 en, .string ef, .int .i64 em, .int .u64 ek, .int .i64 es]) rfl rfl (by (try simp only [Act.eval, eV]) <;> exact rfl) hrc'.out (by kernel_rfl) (by kernel_rfl) ?_) | ((with_reducible refine gst ?_); refine wS hA ?_; clear hF hA; intro w1 hA; (try simp only [uA] at hA); have hF := hA.facts; (try simp only [fZ] at hF)) | ((with_reducible refine gbx ?_); refine wB hA ?_; clear hF hA; intro b1 w1 hA hb1; (try simp only [uA] at hA); have hF := hA.facts; (try simp only [fZ] at hF)))
            try go_frame
            go_cut [18, 19] from 71 to 80 (CutF w ee TL t p m ss2 b2 b6 b9 b12 b14 b17 (.slice (some ⟨bl, ol, none⟩) L.length cap) L [.int .u64 num, .string foot] [.int .i64 8, .int .u64 num, .string foot, .int .u64 0, .string .empty, .int .i64 0, .int .u64 0, .int .i64 time] [.bool io, .bool idd, .int .i64 idl, .int .i64 itt, .int .i64 itl] [.string ep, .int .u64 en, .string ef, .int .i64 em, .int .u64 ek, .int .i64 es] fb)
            case first =>
              have hB := hA.drew
              clear hF hA; have hA := hB; clear hB
              refine wp_region_held (S := fun w' => BlockIs w' b17 [.string ep, .int .u64 en, .string ef, .int .i64 em, .int .u64 ek, .int .i64 es] 51) hm ?_
              change wpAnyH _ _ _ _ _ 13 _ _ (World.drew _)
              generalize World.drew _ = wd at *
              have hS0 := (hA.get (A := Part.cells b17 [.string ep, .int .u64 en, .string ef, .int .i64 em, .int .u64 ek, .int .i64 es] 51) sZ : (fun w' => BlockIs w' b17 [.string ep, .int .u64 en, .string ef, .int .i64 em, .int .u64 ek, .int .i64 es] 51) wd)
              refine tP 0 72 (.pointer (some ⟨t, 0, none⟩)) (s := hS0) (h := ?_)
              try go_frame
              refine tP 2 74 (.pointer (some ⟨b17, 0, none⟩)) (s := hS0) (h := ?_)
              try go_frame
              refine tZ 3 75 (.string ep) (r := (fun w' hS => run_load_one (ty := 9) (b := b17) (j := 0) rfl (by exact rfl) hS (by kernel_rfl) rfl)) (s := hS0) (h := ?_)
              try go_frame
              refine tP 4 76 (.pointer (some ⟨b17, 1, none⟩)) (s := hS0) (h := ?_)
              try go_frame
              refine tZ 5 77 (.agg #[.int .u64 en, .string ef]) (r := (fun w' hS => run_load_row (ty := 25) (n := 2) (b := b17) (j := 1) rfl (by exact rfl) hS (by kernel_rfl) (by kernel_rfl) rfl rfl)) (s := hS0) (h := ?_)
              try go_frame
              refine wpAnyH_two (i := 1) (j := 10) (by kernel_rfl) ?_ ?_
              · skip
                refine opCall_at (i := 1) (d := some 73) (R := fun u w' => u = .pointer (some ⟨b2.p, 0, none⟩) ∧ At [TabP t p m ss2 b2] _ [TabP t p m ss2 b2] w') rfl rfl (by kernel_rfl) (fn := 15) (args := #[.pointer (some ⟨t, 0, none⟩)]) (by simp [execOp, go_sem, Act.eval, Act.put]) ((locks_of_any (hA.sep1 (A := TabP t p m ss2 b2) sZ)).mono fun e w' ⟨he, hT⟩ => ⟨_, he, rfl, hT⟩) ?_
                rintro u w3 ⟨rfl, hT⟩
                have hB := hA.call1 (A := TabP t p m ss2 b2) sZ hT
                clear hT
                simp only [List.cons_append, List.nil_append] at hB
                have hS0 := (hB.get (A := Part.cells b17 [.string ep, .int .u64 en, .string ef, .int .i64 em, .int .u64 ek, .int .i64 es] 51) sZ : (fun w' => BlockIs w' b17 [.string ep, .int .u64 en, .string ef, .int .i64 em, .int .u64 ek, .int .i64 es] 51) w3)
                clear hA; have hA := hB; clear hB
                refine ⟨hS0, ?_⟩
                try go_frame
                refine wpAnyH_two (i := 6) (j := 10) (by kernel_rfl) ?_ ?_
                · skip
                  refine opCall_at (i := 6) (d := some 78) (R := fun u w' => u = .tuple #[.agg #[.string xp, .int .u64 xn, .string xf, .int .i64 xm, .int .u64 xk, .int .i64 xs], .bool fb] ∧ At [TabP t p m ss2 b2] _ [TabP t p m ss2 b2] w') rfl rfl (by kernel_rfl) (fn := 18) (args := #[.pointer (some ⟨b2.p, 0, none⟩), .string ep, .agg #[.int .u64 en, .string ef]]) (by simp [execOp, go_sem, Act.eval, Act.put]) ((hfi'.out _ (hA.sep1 (A := TabP t p m ss2 b2) sZ)).mono fun e w' ⟨he, hT⟩ => ⟨_, he, rfl, hT⟩) ?_
                  rintro u w3 ⟨rfl, hT⟩
                  have hB := hA.call1 (A := TabP t p m ss2 b2) sZ hT
                  clear hT
                  simp only [List.cons_append, List.nil_append] at hB
                  have hS0 := (hB.get (A := Part.cells b17 [.string ep, .int .u64 en, .string ef, .int .i64 em, .int .u64 ek, .int .i64 es] 51) sZ : (fun w' => BlockIs w' b17 [.string ep, .int .u64 en, .string ef, .int .i64 em, .int .u64 ek, .int .i64 es] 51) w3)
                  clear hA; have hA := hB; clear hB
                  refine ⟨hS0, ?_⟩
                  try go_frame
                  refine tP 7 71 (.tuple #[.agg #[.string xp, .int .u64 xn, .string xf, .int .i64 xm, .int .u64 xk, .int .i64 xs], .bool fb]) (s := hS0) (h := ?_)
                  try go_frame
                  refine tP 8 79 (.agg #[.string xp, .int .u64 xn, .string xf, .int .i64 xm, .int .u64 xk, .int .i64 xs]) (s := hS0) (h := ?_)
                  try go_frame
                  refine tP 9 80 (.bool fb) (s := hS0) (h := ?_)
                  try go_frame
                  refine wpAnyH_one (i := 10) (by kernel_rfl) ?_
                  refine opAlloc_at (i := 10) (d := some 18) rfl rfl (by kernel_rfl) (E := 51) rfl (z := .agg #[.string .empty, .int .u64 0, .string .empty, .int .i64 0, .int .u64 0, .int .i64 0]) (vs := [.string .empty, .int .u64 0, .string .empty, .int .i64 0, .int .u64 0, .int .i64 0]) (by kernel_rfl) (by exact rfl) hA ?_
                  intro b18 w3 hB
                  have hS0 := (hB.get (A := Part.cells b17 [.string ep, .int .u64 en, .string ef, .int .i64 em, .int .u64 ek, .int .i64 es] 51) sZ : (fun w' => BlockIs w' b17 [.string ep, .int .u64 en, .string ef, .int .i64 em, .int .u64 ek, .int .i64 es] 51) w3)
                  clear hA; have hA := hB; clear hB
                  refine ⟨hS0, ?_⟩
                  try go_frame
                  refine wpAnyH_one (i := 11) (by kernel_rfl) ?_
                  refine opStore_at (i := 11) (b := b18) (j := 0) (vs := [.string xp, .int .u64 xn, .string xf, .int .i64 xm, .int .u64 xk, .int .i64 xs]) rfl rfl (by kernel_rfl) rfl (by exact rfl) (by exact rfl) rfl hA sZ (by kernel_rfl) rfl (by simp) ?_
                  intro w3 hB
                  simp only [uA] at hB
                  have hS0 := (hB.get (A := Part.cells b17 [.string ep, .int .u64 en, .string ef, .int .i64 em, .int .u64 ek, .int .i64 es] 51) sZ : (fun w' => BlockIs w' b17 [.string ep, .int .u64 en, .string ef, .int .i64 em, .int .u64 ek, .int .i64 es] 51) w3)
                  clear hA; have hA := hB; clear hB
                  refine ⟨hS0, ?_⟩
                  try go_frame
                  refine tP 12 19 (.bool fb) (s := hS0) (h := ?_)
                  try go_frame
                  refine wpAnyH_done (by kernel_rfl) ?_ _
                  try go_frame
                  clear hS0
                  (try simp only [uA] at hA); have hF := hA.facts; (try simp only [fZ] at hF)
                  go_wp2_with fail
                  go_meet
                  case rel => exact ⟨rfl, hA.pick pZ⟩
                · skip
                  refine opAlloc_at (i := 10) (d := some 18) rfl rfl (by kernel_rfl) (E := 51) rfl (z := .agg #[.string .empty, .int .u64 0, .string .empty, .int .i64 0, .int .u64 0, .int .i64 0]) (vs := [.string .empty, .int .u64 0, .string .empty, .int .i64 0, .int .u64 0, .int .i64 0]) (by kernel_rfl) (by exact rfl) hA ?_
                  intro b18 w3 hB
                  have hS0 := (hB.get (A := Part.cells b17 [.string ep, .int .u64 en, .string ef, .int .i64 em, .int .u64 ek, .int .i64 es] 51) sZ : (fun w' => BlockIs w' b17 [.string ep, .int .u64 en, .string ef, .int .i64 em, .int .u64 ek, .int .i64 es] 51) w3)
                  clear hA; have hA := hB; clear hB
                  refine ⟨hS0, ?_⟩
                  try go_frame
                  refine wpAnyH_one (i := 6) (by kernel_rfl) ?_
                  refine opCall_at (i := 6) (d := some 78) (R := fun u w' => u = .tuple #[.agg #[.string xp, .int .u64 xn, .string xf, .int .i64 xm, .int .u64 xk, .int .i64 xs], .bool fb] ∧ At [TabP t p m ss2 b2] _ [TabP t p m ss2 b2] w') rfl rfl (by kernel_rfl) (fn := 18) (args := #[.pointer (some ⟨b2.p, 0, none⟩), .string ep, .agg #[.int .u64 en, .string ef]]) (by simp [execOp, go_sem, Act.eval, Act.put]) ((hfi'.out _ (hA.sep1 (A := TabP t p m ss2 b2) sZ)).mono fun e w' ⟨he, hT⟩ => ⟨_, he, rfl, hT⟩) ?_
                  rintro u w3 ⟨rfl, hT⟩
                  have hB := hA.call1 (A := TabP t p m ss2 b2) sZ hT
                  clear hT
                  simp only [List.cons_append, List.nil_append] at hB
                  have hS0 := (hB.get (A := Part.cells b17 [.string ep, .int .u64 en, .string ef, .int .i64 em, .int .u64 ek, .int .i64 es] 51) sZ : (fun w' => BlockIs w' b17 [.string ep, .int .u64 en, .string ef, .int .i64 em, .int .u64 ek, .int .i64 es] 51) w3)
                  clear hA; have hA := hB; clear hB
                  refine ⟨hS0, ?_⟩
                  try go_frame
                  refine tP 7 71 (.tuple #[.agg #[.string xp, .int .u64 xn, .string xf, .int .i64 xm, .int .u64 xk, .int .i64 xs], .bool fb]) (s := hS0) (h := ?_)
                  try go_frame
                  refine tP 8 79 (.agg #[.string xp, .int .u64 xn, .string xf, .int .i64 xm, .int .u64 xk, .int .i64 xs]) (s := hS0) (h := ?_)
                  try go_frame
                  refine tP 9 80 (.bool fb) (s := hS0) (h := ?_)
                  try go_frame
                  refine wpAnyH_one (i := 11) (by kernel_rfl) ?_
                  refine opStore_at (i := 11) (b := b18) (j := 0) (vs := [.string xp, .int .u64 xn, .string xf, .int .i64 xm, .int .u64 xk, .int .i64 xs]) rfl rfl (by kernel_rfl) rfl (by exact rfl) (by exact rfl) rfl hA sZ (by kernel_rfl) rfl (by simp) ?_
                  intro w3 hB
                  simp only [uA] at hB
                  have hS0 := (hB.get (A := Part.cells b17 [.string ep, .int .u64 en, .string ef, .int .i64 em, .int .u64 ek, .int .i64 es] 51) sZ : (fun w' => BlockIs w' b17 [.string ep, .int .u64 en, .string ef, .int .i64 em, .int .u64 ek, .int .i64 es] 51) w3)
                  clear hA; have hA := hB; clear hB
                  refine ⟨hS0, ?_⟩
                  try go_frame
                  refine tP 12 19 (.bool fb) (s := hS0) (h := ?_)
                  try go_frame
                  refine wpAnyH_done (by kernel_rfl) ?_ _
                  try go_frame
                  clear hS0
                  (try simp only [uA] at hA); have hF := hA.facts; (try simp only [fZ] at hF)
                  go_wp2_with fail
                  go_meet
                  case rel => exact ⟨rfl, hA.pick pZ⟩
              · skip
                refine opAlloc_at (i := 10) (d := some 18) rfl rfl (by kernel_rfl) (E := 51) rfl (z := .agg #[.string .empty, .int .u64 0, .string .empty, .int .i64 0, .int .u64 0, .int .i64 0]) (vs := [.string .empty, .int .u64 0, .string .empty, .int .i64 0, .int .u64 0, .int .i64 0]) (by kernel_rfl) (by exact rfl) hA ?_
                intro b18 w3 hB
                have hS0 := (hB.get (A := Part.cells b17 [.string ep, .int .u64 en, .string ef, .int .i64 em, .int .u64 ek, .int .i64 es] 51) sZ : (fun w' => BlockIs w' b17 [.string ep, .int .u64 en, .string ef, .int .i64 em, .int .u64 ek, .int .i64 es] 51) w3)
                clear hA; have hA := hB; clear hB
                refine ⟨hS0, ?_⟩
                try go_frame
                refine wpAnyH_one (i := 1) (by kernel_rfl) ?_
                refine opCall_at (i := 1) (d := some 73) (R := fun u w' => u = .pointer (some ⟨b2.p, 0, none⟩) ∧ At [TabP t p m ss2 b2] _ [TabP t p m ss2 b2] w') rfl rfl (by kernel_rfl) (fn := 15) (args := #[.pointer (some ⟨t, 0, none⟩)]) (by simp [execOp, go_sem, Act.eval, Act.put]) ((locks_of_any (hA.sep1 (A := TabP t p m ss2 b2) sZ)).mono fun e w' ⟨he, hT⟩ => ⟨_, he, rfl, hT⟩) ?_
                rintro u w3 ⟨rfl, hT⟩
                have hB := hA.call1 (A := TabP t p m ss2 b2) sZ hT
                clear hT
                simp only [List.cons_append, List.nil_append] at hB
                have hS0 := (hB.get (A := Part.cells b17 [.string ep, .int .u64 en, .string ef, .int .i64 em, .int .u64 ek, .int .i64 es] 51) sZ : (fun w' => BlockIs w' b17 [.string ep, .int .u64 en, .string ef, .int .i64 em, .int .u64 ek, .int .i64 es] 51) w3)
                clear hA; have hA := hB; clear hB
                refine ⟨hS0, ?_⟩
                try go_frame
                refine wpAnyH_one (i := 6) (by kernel_rfl) ?_
                refine opCall_at (i := 6) (d := some 78) (R := fun u w' => u = .tuple #[.agg #[.string xp, .int .u64 xn, .string xf, .int .i64 xm, .int .u64 xk, .int .i64 xs], .bool fb] ∧ At [TabP t p m ss2 b2] _ [TabP t p m ss2 b2] w') rfl rfl (by kernel_rfl) (fn := 18) (args := #[.pointer (some ⟨b2.p, 0, none⟩), .string ep, .agg #[.int .u64 en, .string ef]]) (by simp [execOp, go_sem, Act.eval, Act.put]) ((hfi'.out _ (hA.sep1 (A := TabP t p m ss2 b2) sZ)).mono fun e w' ⟨he, hT⟩ => ⟨_, he, rfl, hT⟩) ?_
                rintro u w3 ⟨rfl, hT⟩
                have hB := hA.call1 (A := TabP t p m ss2 b2) sZ hT
                clear hT
                simp only [List.cons_append, List.nil_append] at hB
                have hS0 := (hB.get (A := Part.cells b17 [.string ep, .int .u64 en, .string ef, .int .i64 em, .int .u64 ek, .int .i64 es] 51) sZ : (fun w' => BlockIs w' b17 [.string ep, .int .u64 en, .string ef, .int .i64 em, .int .u64 ek, .int .i64 es] 51) w3)
                clear hA; have hA := hB; clear hB
                refine ⟨hS0, ?_⟩
                try go_frame
                refine tP 7 71 (.tuple #[.agg #[.string xp, .int .u64 xn, .string xf, .int .i64 xm, .int .u64 xk, .int .i64 xs], .bool fb]) (s := hS0) (h := ?_)
                try go_frame
                refine tP 8 79 (.agg #[.string xp, .int .u64 xn, .string xf, .int .i64 xm, .int .u64 xk, .int .i64 xs]) (s := hS0) (h := ?_)
                try go_frame
                refine tP 9 80 (.bool fb) (s := hS0) (h := ?_)
                try go_frame
                refine wpAnyH_one (i := 11) (by kernel_rfl) ?_
                refine opStore_at (i := 11) (b := b18) (j := 0) (vs := [.string xp, .int .u64 xn, .string xf, .int .i64 xm, .int .u64 xk, .int .i64 xs]) rfl rfl (by kernel_rfl) rfl (by exact rfl) (by exact rfl) rfl hA sZ (by kernel_rfl) rfl (by simp) ?_
                intro w3 hB
                simp only [uA] at hB
                have hS0 := (hB.get (A := Part.cells b17 [.string ep, .int .u64 en, .string ef, .int .i64 em, .int .u64 ek, .int .i64 es] 51) sZ : (fun w' => BlockIs w' b17 [.string ep, .int .u64 en, .string ef, .int .i64 em, .int .u64 ek, .int .i64 es] 51) w3)
                clear hA; have hA := hB; clear hB
                refine ⟨hS0, ?_⟩
                try go_frame
                refine tP 12 19 (.bool fb) (s := hS0) (h := ?_)
                try go_frame
                refine wpAnyH_done (by kernel_rfl) ?_ _
                try go_frame
                clear hS0
                (try simp only [uA] at hA); have hF := hA.facts; (try simp only [fZ] at hF)
                go_wp2_with fail
                go_meet
                case rel => exact ⟨rfl, hA.pick pZ⟩
            case rest =>
              obtain ⟨rfl, hB⟩ := hcut
              clear hF hA; have hA := hB; clear hB
              (try simp only [uA] at hA); have hF := hA.facts; (try simp only [fZ] at hF)
              have g1 : wc.cell? ⟨b17, 1, none⟩ = some (.int .u64 en) := (hA.get (A := Part.cells b17 [.string ep, .int .u64 en, .string ef, .int .i64 em, .int .u64 ek, .int .i64 es] 51) sZ : BlockIs _ _ _ _).cell 1
              have g2 : wc.cell? ⟨b17, 2, none⟩ = some (.string ef) := (hA.get (A := Part.cells b17 [.string ep, .int .u64 en, .string ef, .int .i64 em, .int .u64 ek, .int .i64 es] 51) sZ : BlockIs _ _ _ _).cell 2
              have g3 : wc.cell? ⟨b6, 0, none⟩ = some (.int .u64 num) := (hA.get (A := Part.cells b6 [.int .u64 num, .string foot] 25) sZ : BlockIs _ _ _ _).cell 0
              have g4 : wc.cell? ⟨b6, 1, none⟩ = some (.string foot) := (hA.get (A := Part.cells b6 [.int .u64 num, .string foot] 25) sZ : BlockIs _ _ _ _).cell 1
              by_cases he0 : ee = 0
              · subst he0
                obtain ⟨sq, hsq⟩ : ∃ z, decide (en = num ∧ ef = foot) = z := ⟨_, rfl⟩
                have hfv : fb = !sq := by have := hfx'.out; rw [hsq] at this; simpa using this
                subst hfv
                have hnS := fun w => (neqSe en num ef foot w).trans (by rw [hsq])
                clear hsq hfx'
                cases sq
                all_goals
                  go_wp2_with (first | ((with_reducible refine gst ?_); refine wS hA ?_; clear hF hA; intro w1 hA; (try simp only [uA] at hA); have hF := hA.facts; (try simp only [fZ] at hF)) | ((with_reducible refine gbx ?_); refine wB hA ?_; clear hF hA; intro b1 w1 hA hb1; (try simp only [uA] at hA); have hF := hA.facts; (try simp only [fZ] at hF)))
                  go_roundg (gk - 1)
                  case measure => omega
                  case rel => exact ⟨i + 1, by simp, by omega, hA.pick pZ⟩
              · have hne : (ee != 0) = true := by simpa using he0
                have hfv : fb = true := by have := hfx'.out; simpa [he0] using this
                subst hfv
                clear hfx'
                go_wp2_with (first | ((with_reducible refine gst ?_); refine wS hA ?_; clear hF hA; intro w1 hA; (try simp only [uA] at hA); have hF := hA.facts; (try simp only [fZ] at hF)) | ((with_reducible refine gbx ?_); refine wB hA ?_; clear hF hA; intro b1 w1 hA hb1; (try simp only [uA] at hA); have hF := hA.facts; (try simp only [fZ] at hF)))
                go_roundg (gk - 1)
                case measure => omega
                case rel => exact ⟨i + 1, by simp, by omega, hA.pick pZ⟩
          · have hnf := fun (w1 : World) (q : Sep [TabP t p m ss2 b2] w1) => tinfo_any q n0 n1 (show foot.size ≤ maxLen by unfold maxLen; omega)
            have hed2 := hed'.out
            rw [hR2'.out.look] at hed2
            obtain ⟨io2, hio⟩ : ∃ z, (Lease.look ss2 num foot).op = z := ⟨_, rfl⟩
            obtain ⟨id2, hidd⟩ : ∃ z, (Lease.look ss2 num foot).dead = z := ⟨_, rfl⟩
            obtain ⟨idl2, hidl⟩ : ∃ z, (Lease.look ss2 num foot).dl = z := ⟨_, rfl⟩
            obtain ⟨itt2, hitt⟩ : ∃ z, (Lease.look ss2 num foot).ttl = z := ⟨_, rfl⟩
            obtain ⟨itl2, hitl⟩ : ∃ z : Int, (Lease.look ss2 num foot).told.length = z := ⟨_, rfl⟩
            have hed2 : id2 = (idd || decide (ee = 0)) := hidd.symm.trans hed2
            simp only [Lease.Ses.info, hio, hidd, hidl, hitt, hitl] at hnf
            have hnf' := Lib.hid hnf
            clear hnf hio hidd hidl hitt hitl
            (try simp only [uA] at hA); have hF := hA.facts; (try simp only [fZ] at hF)
            have g1 : wr.cell? ⟨b12, 1, none⟩ = some (.bool idd) := (hA.get (A := Part.cells b12 [.bool io, .bool idd, .int .i64 idl, .int .i64 itt, .int .i64 itl] 38) sZ : BlockIs _ _ _ _).cell 1
            go_upto_region 26 with (first | ((with_reducible refine gst ?_); refine wS hA ?_; clear hF hA; intro w1 hA; (try simp only [uA] at hA); have hF := hA.facts; (try simp only [fZ] at hF)) | ((with_reducible refine gbx ?_); refine wB hA ?_; clear hF hA; intro b1 w1 hA hb1; (try simp only [uA] at hA); have hF := hA.facts; (try simp only [fZ] at hF)))
            try go_frame
            rcases (show (idd = true ∧ id2 = true) ∨ (idd = false ∧ ee = 0 ∧ id2 = true) ∨ (idd = false ∧ ee ≠ 0 ∧ id2 = false) from by
              cases idd
              · by_cases q : ee = 0
                · exact .inr (.inl ⟨rfl, q, by simpa [q] using hed2⟩)
                · exact .inr (.inr ⟨rfl, q, by simpa [q] using hed2⟩)
              · exact .inl ⟨rfl, by simpa using hed2⟩) with ⟨rfl, rfl⟩ | ⟨rfl, rfl, rfl⟩ | ⟨rfl, hq, rfl⟩
            · clear hed2
              have hfd := fun w => (show (Instr.field 38 (.agg #[.bool io2, .bool true, .int .i64 idl2, .int .i64 itt2, .int .i64 itl2]) 1).run Tryz.prog w = .ok (.bool true) w from by kernel_rfl)
              (refine wp_region_all (Cl _ _ _) (by kernel_rfl) (by kernel_rfl) (Cl.drew hA) ?_); (have hn1 := Cl.none hA); (have hn2 := Cl.none2 hA); (repeat (first | go_big_quiet_skip | (go_big_quiet_want; (first | (refine quiet_loads_at (ty := 25) (n := 2) rfl rfl sR (by kernel_rfl) (by kernel_rfl) (by first | assumption | ((try simp only [List.drop_succ_cons, List.drop_zero, List.take_succ_cons, List.take_zero]) <;> exact rfl)) (by exact rfl) ?_; go_frame; go_big_quiet_on) | (refine quiet_load_at rfl rfl sR (by kernel_rfl) (by first | assumption | exact rfl) ?_; go_frame; go_big_quiet_on) | (go_big_quiet_op; (first | go_big_quiet_on | ((apply Exists.intro); (refine ⟨fun w1 hw => ?_, ?_⟩); (focus ((have hw := Cl.out hw); (first | exact through1 sZ hw (fun w q => sessions_any q) | exact through1 sZ hw (fun w q => hnf'.out w q)))); (go_big_quiet_on))))))))
              (refine wpQuiet_nil ?_); (intro w1 hB); (clear hF hA hn1 hn2); (have hA := Cl.out hB); (clear hB); (try simp only [uA] at hA); have hF := hA.facts; (try simp only [fZ] at hF)
              go_wp2_with (first | ((with_reducible refine gst ?_); refine wS hA ?_; clear hF hA; intro w1 hA; (try simp only [uA] at hA); have hF := hA.facts; (try simp only [fZ] at hF)) | ((with_reducible refine gbx ?_); refine wB hA ?_; clear hF hA; intro b1 w1 hA hb1; (try simp only [uA] at hA); have hF := hA.facts; (try simp only [fZ] at hF)))
              go_ret
              exact ⟨rfl, below_old hA sZ⟩
            · clear hed2
              have hfd := fun w => (show (Instr.field 38 (.agg #[.bool io2, .bool true, .int .i64 idl2, .int .i64 itt2, .int .i64 itl2]) 1).run Tryz.prog w = .ok (.bool true) w from by kernel_rfl)
              (refine wp_region_all (Cl _ _ _) (by kernel_rfl) (by kernel_rfl) (Cl.drew hA) ?_); (have hn1 := Cl.none hA); (have hn2 := Cl.none2 hA); (repeat (first | go_big_quiet_skip | (go_big_quiet_want; (first | (refine quiet_loads_at (ty := 25) (n := 2) rfl rfl sR (by kernel_rfl) (by kernel_rfl) (by first | assumption | ((try simp only [List.drop_succ_cons, List.drop_zero, List.take_succ_cons, List.take_zero]) <;> exact rfl)) (by exact rfl) ?_; go_frame; go_big_quiet_on) | (refine quiet_load_at rfl rfl sR (by kernel_rfl) (by first | assumption | exact rfl) ?_; go_frame; go_big_quiet_on) | (go_big_quiet_op; (first | go_big_quiet_on | ((apply Exists.intro); (refine ⟨fun w1 hw => ?_, ?_⟩); (focus ((have hw := Cl.out hw); (first | exact through1 sZ hw (fun w q => sessions_any q) | exact through1 sZ hw (fun w q => hnf'.out w q)))); (go_big_quiet_on))))))))
              (refine wpQuiet_nil ?_); (intro w1 hB); (clear hF hA hn1 hn2); (have hA := Cl.out hB); (clear hB); (try simp only [uA] at hA); have hF := hA.facts; (try simp only [fZ] at hF)
              go_wp2_with (first | ((with_reducible refine gst ?_); refine wS hA ?_; clear hF hA; intro w1 hA; (try simp only [uA] at hA); have hF := hA.facts; (try simp only [fZ] at hF)) | ((with_reducible refine gbx ?_); refine wB hA ?_; clear hF hA; intro b1 w1 hA hb1; (try simp only [uA] at hA); have hF := hA.facts; (try simp only [fZ] at hF)))
              go_ret
              exact ⟨rfl, below_old hA sZ⟩
            · clear hed2
              have hqd : (ee == 0) = false := by simpa using hq
              have hfd := fun w => (show (Instr.field 38 (.agg #[.bool io2, .bool false, .int .i64 idl2, .int .i64 itt2, .int .i64 itl2]) 1).run Tryz.prog w = .ok (.bool false) w from by kernel_rfl)
              (refine wp_region_all (Cl _ _ _) (by kernel_rfl) (by kernel_rfl) (Cl.drew hA) ?_); (have hn1 := Cl.none hA); (have hn2 := Cl.none2 hA); (repeat (first | go_big_quiet_skip | (go_big_quiet_want; (first | (refine quiet_loads_at (ty := 25) (n := 2) rfl rfl sR (by kernel_rfl) (by kernel_rfl) (by first | assumption | ((try simp only [List.drop_succ_cons, List.drop_zero, List.take_succ_cons, List.take_zero]) <;> exact rfl)) (by exact rfl) ?_; go_frame; go_big_quiet_on) | (refine quiet_load_at rfl rfl sR (by kernel_rfl) (by first | assumption | exact rfl) ?_; go_frame; go_big_quiet_on) | (go_big_quiet_op; (first | go_big_quiet_on | ((apply Exists.intro); (refine ⟨fun w1 hw => ?_, ?_⟩); (focus ((have hw := Cl.out hw); (first | exact through1 sZ hw (fun w q => sessions_any q) | exact through1 sZ hw (fun w q => hnf'.out w q)))); (go_big_quiet_on))))))))
              (refine wpQuiet_nil ?_); (intro w1 hB); (clear hF hA hn1 hn2); (have hA := Cl.out hB); (clear hB); (try simp only [uA] at hA); have hF := hA.facts; (try simp only [fZ] at hF)
              go_wp2_with (first | ((with_reducible refine gst ?_); refine wS hA ?_; clear hF hA; intro w1 hA; (try simp only [uA] at hA); have hF := hA.facts; (try simp only [fZ] at hF)) | ((with_reducible refine gbx ?_); refine wB hA ?_; clear hF hA; intro b1 w1 hA hb1; (try simp only [uA] at hA); have hF := hA.facts; (try simp only [fZ] at hF)))
              go_ret
              exact ⟨rfl, below_old hA sZ⟩
end Go.Proofs.YtpebabaigakagaaGreatDoor.Tab
end
