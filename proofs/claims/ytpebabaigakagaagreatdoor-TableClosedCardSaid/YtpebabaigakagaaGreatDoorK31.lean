/- TabS, TabT, joined. -/
import Derived.Test.YtpebabaigakagaaGreatDoorK29
import Derived.Test.YtpebabaigakagaaGreatDoorK30
section
namespace Go.Proofs.YtpebabaigakagaaGreatDoor.Tab
open Go.RowKit
open Path (bl rightB overB aboveB)
open Lease (Ses Ans fresh Turned)
open Lock (S3 Ent)
open Cmd (Cm rightC)
set_option linter.unusedSimpArgs false
set_option linter.unusedVariables false
attribute [-go_sem] run_eql_struct run_neq_struct run_eqGuard_agg

theorem run_slice_pre {P : Program} {t e : TypeId} {i : TypeInfo} {size : Nat} (ht : P.underlying t = some (.slice e)) (hi : P.info? e = some i) (hsize : i.size = size) (b off n cap k : Nat) (hk : k ≤ cap) (hc : 0 < cap) (w : World) :
    (Instr.sliceAt t (.slice (some ⟨b, off, none⟩) n cap) none (some (.int .i64 k)) none).run P w = .ok (.slice (some ⟨b, off, none⟩) k cap) w := by
  have hz : ∀ w, (sizeOf e).run P w = .ok size w := fun w => by simp [sizeOf, typeInfo, hi, hsize]
  simp [Instr.sliceAt, Instr.slice, run_underlying ht, Instr.sliceBounds, run_sliceBound, hz, Result.andThen, show (k : Int) ≤ cap by omega]
  intro _
  simp [Addr.add]
theorem take_reads {R : Part} {ax : Option Addr} {n cap i : Nat} {l : List Cm} (h : ReadsC R (.slice ax n cap) l) (hi : i ≤ l.length) : ReadsC R (.slice ax i cap) (l.take i) := by
  intro w hw
  obtain ⟨ax2, c2, e2, hn, hr⟩ := h w hw
  cases e2
  have hl : (l.take i).length = i := by rw [List.length_take]; omega
  refine ⟨ax, cap, by rw [hl], fun q => by have := hn q; omega, fun j u hj => hr j u ?_⟩
  have hlt := (List.getElem?_eq_some_iff.1 hj).1
  have e : l.flatMap Cm.cells = (l.take i).flatMap Cm.cells ++ (l.drop i).flatMap Cm.cells := by rw [← List.flatMap_append, List.take_append_drop]
  rw [e, List.getElem?_append_left hlt]
  exact hj
theorem infoCm : (Tryz.prog.info? 29).map (fun i => i.size) = some 8 := by kernel_rfl
/-- those that interfere with the i-th one, and stand ahead of it, are among them -/
def clAt (l : List Cm) (ins : List Bool) (i : Nat) : Prop := ∀ x, l[i]? = some x → hasB ins i = true → ∀ j y, j < i → l[j]? = some y → Cmd.clashB y x = true → hasB ins j = true
def ClP (w : World) (R : Part) (l : List Cm) (ins : List Bool) (e : Ending) (w' : World) : Prop := ∃ b : Bool, e = .returned (.bool b) ∧ (b = true → ∀ i, clAt l ins i) ∧ At [R] w [R] w'
def ClRel (w : World) (R : Part) (b3 : Nat) (v : Value) (l : List Cm) (ins : List Bool) (k : Nat) (u : Value) (wr : World) : Prop :=
  ∃ i : Nat, u = .int .i64 i ∧ i + k = l.length ∧ (∀ j, j < i → clAt l ins j) ∧ At [R] w [Part.cells b3 [v] 55, R] wr
def CkRel (w : World) (R : Part) (b3 : Nat) (v vk : Value) (ks : List Nat) (ins : List Bool) (k : Nat) (u : Value) (wr : World) : Prop :=
  ∃ i : Nat, u = .int .i64 i ∧ i + k = ks.length ∧ (∀ j ∈ ks.take i, hasB ins j = true) ∧ At [R] w [rowI vk ks, Part.cells b3 [v] 55, R] wr
set_option maxHeartbeats 4000000 in
theorem closed_any {w : World} {R : Part} (h : Sep [R] w) {ax : Option Addr} {cap : Nat} {l : List Cm} (hr : ReadsC R (.slice ax l.length cap) l) (hcap : l.length ≤ cap) (hl : l.length ≤ 1000) (hsz : ∀ x ∈ l, x.path.size ≤ 1000 ∧ x.foot.size ≤ 1000) {v : Value} {ins : List Bool} (hb : ReadsB R v ins) :
    Calls Tryz.prog 19 #[.slice ax l.length cap, v] w (ClP w R l ins) := by
  have hm : Tryz.prog.follows .mixedOrders = true := by kernel_rfl
  have hA := At.start h
  obtain ⟨bx, bcap, rfl, _, _⟩ := hb w (hA.get .here)
  have hr' := Lib.hid hr
  have hb' := Lib.hid hb
  have hsz' := Lib.hid hsz
  clear h hr hb hsz
  (try simp only [uA] at hA); have hF := hA.facts; (try simp only [fZ] at hF)
  go_enter Tryz.func19, Tryz.ntmps19
  go_wp2_with (first | ((with_reducible refine gbx ?_); refine wX 55 (.slice bx ins.length bcap) [.slice bx ins.length bcap] hA ?_; clear hF hA; intro b3 w1 hA hb3; (try simp only [uA] at hA); have hF := hA.facts; (try simp only [fZ] at hF)) | ((with_reducible refine gst ?_); refine wS hA ?_; clear hF hA; intro w1 hA; (try simp only [uA] at hA); have hF := hA.facts; (try simp only [fZ] at hF)) | ((with_reducible refine gbx ?_); refine wB hA ?_; clear hF hA; intro b1 w1 hA hb1; (try simp only [uA] at hA); have hF := hA.facts; (try simp only [fZ] at hF)))
  try go_frame
  go_loopg [13] l.length (ClRel w R b3 (.slice bx ins.length bcap) l ins)
  case atStart => exact ⟨0, rfl, by omega, fun j hj => by omega, hA.pick pZ⟩
  case round =>
    obtain ⟨i, rfl, hik, hcl, hB⟩ := hrel
    clear hF hA; have hA := hB; clear hB
    have hcl' := Lib.hid hcl
    clear hcl
    by_cases hi : i < l.length
    · obtain ⟨x, hx⟩ : ∃ x, l[i]? = some x := ⟨_, List.getElem?_eq_getElem hi⟩
      have hxs := hsz'.out x (List.mem_of_getElem? hx)
      obtain ⟨bl0, ofl, hax⟩ : ∃ b0 o0, ax = some ⟨b0, o0, none⟩ := by
        obtain ⟨ax2, c2, e2, _, hr2⟩ := hr'.out _ (hA.get (A := R) sZ)
        cases e2
        have hf := flat_at Cm.cells 8 (fun _ => rfl) l i x hx 0 (by omega)
        obtain ⟨b0, o0, e3, _⟩ := hr2 (i * 8 + 0) _ hf
        exact ⟨b0, o0, e3⟩
      subst hax
      have hrc := reads_cm hr'.out hx _ (hA.get (A := R) sZ)
      obtain ⟨ic, hic, hicz⟩ := Option.map_eq_some_iff.1 infoCm
      have hsl := fun w1 => run_slice_pre (P := Tryz.prog) (t := 23) Tryz.underlying23 hic hicz bl0 ofl l.length cap i (by omega) (by omega) w1
      have hx' := Lib.hid hx
      clear hx hic hicz
      obtain ⟨k2, n2, f2, r2, p2, m2, nn2, t2⟩ := x
      have hrc' := Lib.hid (show ∀ (k : Nat) u, ([.int .i64 k2, .int .u64 n2, .string f2, .int .u64 r2, .string p2, .int .i64 m2, .int .u64 nn2, .int .i64 t2] : List Value)[k]? = some u → wr.cell? ⟨bl0, ofl + i * 8 + k, none⟩ = some u from hrc)
      have ham := fun (w1 : World) (q : Sep [R] w1) => among_any q (take_reads (i := i) hr'.out (by omega)) (by rw [List.length_take]; omega) (fun x hx => hsz'.out x (List.take_subset _ _ hx)) k2 n2 f2 r2 p2 m2 nn2 t2 hxs.2 hxs.1
      have ham' := Lib.hid ham
      clear hrc ham hxs
      (try simp only [uA] at hA); have hF := hA.facts; (try simp only [fZ] at hF)
      go_wp2_with (first | (((with_reducible show wpList _ _ _ ({ dst := some 7, op := Op.alloc _, type := _, pos := _, after := _, guard := _ } :: _) _ _)); ((with_reducible refine gal ?_); refine wA 29 (.agg #[.int .i64 0, .int .u64 0, .string .empty, .int .u64 0, .string .empty, .int .i64 0, .int .u64 0, .int .i64 0]) [.int .i64 0, .int .u64 0, .string .empty, .int .u64 0, .string .empty, .int .i64 0, .int .u64 0, .int .i64 0] hA ?_; clear hF hA; intro b7 w1 hA hb7; (try simp only [uA] at hA); have hF := hA.facts; (try simp only [fZ] at hF))) | ((with_reducible show wpList _ _ _ ({ dst := some 17, op := Op.load _ _, type := _, pos := _, after := _, guard := _ } :: _) _ _); refine wpList_loadRow_at (vs := [.int .i64 k2, .int .u64 n2, .string f2, .int .u64 r2, .string p2, .int .i64 m2, .int .u64 nn2, .int .i64 t2]) rfl rfl (by (try simp only [Act.eval, eV]) <;> exact rfl) hrc'.out (by kernel_rfl) (by kernel_rfl) ?_) | ((with_reducible refine gst ?_); refine wS hA ?_; clear hF hA; intro w1 hA; (try simp only [uA] at hA); have hF := hA.facts; (try simp only [fZ] at hF)) | ((with_reducible refine gbx ?_); refine wB hA ?_; clear hF hA; intro b1 w1 hA hb1; (try simp only [uA] at hA); have hF := hA.facts; (try simp only [fZ] at hF)))
      refine (has_any (hA.sep2 (A := Part.cells b3 [.slice bx ins.length bcap] 55) (B := R) sZ sZ) hb'.out i (by omega)).mono ?_
      rintro e w1 ⟨rfl, hT⟩
      have hB := hA.call2 (A := Part.cells b3 [.slice bx ins.length bcap] 55) (B := R) sZ sZ hT
      clear hT
      clear hF hA; have hA := hB; clear hB
      try simp only [List.cons_append, List.nil_append] at hA
      (try simp only [uA] at hA); have hF := hA.facts; (try simp only [fZ] at hF)
      obtain ⟨hbi, hhb⟩ : ∃ z, hasB ins i = z := ⟨_, rfl⟩
      have hhb' := Lib.hid hhb
      rw [hhb]
      clear hhb
      cases hbi
      · go_wp2_with (first | ((with_reducible refine gst ?_); refine wS hA ?_; clear hF hA; intro w1 hA; (try simp only [uA] at hA); have hF := hA.facts; (try simp only [fZ] at hF)) | ((with_reducible refine gbx ?_); refine wB hA ?_; clear hF hA; intro b1 w1 hA hb1; (try simp only [uA] at hA); have hF := hA.facts; (try simp only [fZ] at hF)))
        go_roundg (gk - 1)
        case measure => omega
        case rel =>
          refine ⟨i + 1, by simp, by omega, fun j hj => ?_, hA.pick pZ⟩
          by_cases q : j < i
          · exact hcl'.out j q
          · obtain rfl : j = i := by omega
            intro x _ hh
            rw [hhb'.out] at hh
            cases hh
      · go_upto_region 6 with (first | ((with_reducible refine gst ?_); refine wS hA ?_; clear hF hA; intro w1 hA; (try simp only [uA] at hA); have hF := hA.facts; (try simp only [fZ] at hF)) | ((with_reducible refine gbx ?_); refine wB hA ?_; clear hF hA; intro b1 w1 hA hb1; (try simp only [uA] at hA); have hF := hA.facts; (try simp only [fZ] at hF)))
        try go_frame
        have hB := hA.drew
        clear hF hA; have hA := hB; clear hB
        refine wp_region_held (S := fun w' => BlockIs w' b7 [.int .i64 k2, .int .u64 n2, .string f2, .int .u64 r2, .string p2, .int .i64 m2, .int .u64 nn2, .int .i64 t2] 29) hm ?_
        change wpAnyH _ _ _ _ _ 7 _ _ (World.drew _)
        generalize World.drew _ = wd at *
        have hS0 := (hA.get (A := Part.cells b7 [.int .i64 k2, .int .u64 n2, .string f2, .int .u64 r2, .string p2, .int .i64 m2, .int .u64 nn2, .int .i64 t2] 29) sZ : (fun w' => BlockIs w' b7 [.int .i64 k2, .int .u64 n2, .string f2, .int .u64 r2, .string p2, .int .i64 m2, .int .u64 nn2, .int .i64 t2] 29) wd)
        refine tP 0 22 (.slice (some ⟨bl0, ofl, none⟩) l.length cap) (s := hS0) (h := ?_)
        try go_frame
        refine tP 1 23 (.int .i64 i) (s := hS0) (h := ?_)
        try go_frame
        refine tZ 2 24 (.slice (some ⟨bl0, ofl, none⟩) i cap) (r := (fun w' hS => by simp [execOp, go_sem, Act.eval, Act.put, hsl])) (s := hS0) (h := ?_)
        try go_frame
        refine tZ 3 25 (.agg #[.int .i64 k2, .int .u64 n2, .string f2, .int .u64 r2, .string p2, .int .i64 m2, .int .u64 nn2, .int .i64 t2]) (r := (fun w' hS => run_load_row (ty := 29) (n := 8) (b := b7) (j := 0) rfl (by exact rfl) hS (by kernel_rfl) (by kernel_rfl) rfl rfl)) (s := hS0) (h := ?_)
        try go_frame
        refine tP 6 28 (.int .i64 0) (s := hS0) (h := ?_)
        try go_frame
        refine wpAnyH_one (i := 4) (by kernel_rfl) ?_
        refine opCall_at (i := 4) (d := some 26) (R := fun u w' => ∃ (axk : Option Addr) (capk : Nat) (ks : List Nat), u = .slice axk ks.length capk ∧ (ks.length ≤ (l.take i).length ∧ (∀ j x, (l.take i)[j]? = some x → Cmd.clashB x ⟨k2, n2, f2, r2, p2, m2, nn2, t2⟩ = true → j ∈ ks) ∧ (∀ j ∈ ks, j < (l.take i).length)) ∧ At [R] _ [rowI (.slice axk ks.length capk) ks, R] w') rfl rfl (by kernel_rfl) (fn := 43) (args := #[.slice (some ⟨bl0, ofl, none⟩) i cap, .agg #[.int .i64 k2, .int .u64 n2, .string f2, .int .u64 r2, .string p2, .int .i64 m2, .int .u64 nn2, .int .i64 t2]]) (by simp [execOp, go_sem, Act.eval, Act.put]) ((ham'.out _ (hA.sep1 (A := R) sZ)).mono fun e w' ⟨v, ks, he, q1, q2, q3, hT⟩ => by
          obtain ⟨axk, capk, rfl, _, _, _⟩ := hT.row_form (e := 3) (size := 1) (n := ks.length) .here
          exact ⟨_, he, axk, capk, ks, rfl, ⟨q1, q2, q3⟩, hT⟩) ?_
        rintro u w3 ⟨axk, capk, ks, rfl, hks, hT⟩
        have hB := hA.call1 (A := R) sZ hT
        clear hT
        simp only [List.cons_append, List.nil_append] at hB
        have hS0 := (hB.get (A := Part.cells b7 [.int .i64 k2, .int .u64 n2, .string f2, .int .u64 r2, .string p2, .int .i64 m2, .int .u64 nn2, .int .i64 t2] 29) sZ : (fun w' => BlockIs w' b7 [.int .i64 k2, .int .u64 n2, .string f2, .int .u64 r2, .string p2, .int .i64 m2, .int .u64 nn2, .int .i64 t2] 29) w3)
        clear hA; have hA := hB; clear hB
        refine ⟨hS0, ?_⟩
        try go_frame
        refine tP 5 27 (.int .i64 ks.length) (s := hS0) (h := ?_)
        try go_frame
        refine wpAnyH_done (by kernel_rfl) ?_ _
        try go_frame
        clear hS0
        (try simp only [uA] at hA); have hF := hA.facts; (try simp only [fZ] at hF)
        go_wp2_with (first | ((with_reducible refine gst ?_); refine wS hA ?_; clear hF hA; intro w1 hA; (try simp only [uA] at hA); have hF := hA.facts; (try simp only [fZ] at hF)) | ((with_reducible refine gbx ?_); refine wB hA ?_; clear hF hA; intro b1 w1 hA hb1; (try simp only [uA] at hA); have hF := hA.facts; (try simp only [fZ] at hF)))
        try go_frame
        have hks' := Lib.hid hks
        have hkl : ks.length ≤ 1000 := by have h1 := hks.1; rw [List.length_take] at h1; omega
        clear hks
        go_loopg [28] ks.length (CkRel w R b3 (.slice bx ins.length bcap) (.slice axk ks.length capk) ks ins)
        case atStart => exact ⟨0, rfl, by omega, by simp, hA.pick pZ⟩
        case round =>
          obtain ⟨i2, rfl, hik2, hal, hB⟩ := hrel
          clear hF hA; have hA := hB; clear hB
          have hal' := Lib.hid hal
          clear hal
          by_cases hi2 : i2 < ks.length
          · obtain ⟨j, hj⟩ : ∃ x, ks[i2]? = some x := ⟨_, List.getElem?_eq_getElem hi2⟩
            obtain ⟨bk, ok, ck, hvk, hrk⟩ := row_at (enc := iC) (size := 1) (fun _ => rfl) (by omega) (hA.get (A := rowI (.slice axk ks.length capk) ks) sZ) hj
            cases hvk
            have hjl : j < 1000 := by have h1 := hks'.out.2.2 j (List.mem_of_getElem? hj); rw [List.length_take] at h1; omega
            have hc := hrk 0 (.int .i64 j) rfl
            rw [Nat.mul_one, Nat.add_zero] at hc
            have htk : ks.take (i2 + 1) = ks.take i2 ++ [j] := by rw [List.take_add_one, hj]; rfl
            have htk' := Lib.hid htk
            clear hrk hj htk
            (try simp only [uA] at hA); have hF := hA.facts; (try simp only [fZ] at hF)
            go_wp2_with (first | ((with_reducible refine gst ?_); refine wS hA ?_; clear hF hA; intro w1 hA; (try simp only [uA] at hA); have hF := hA.facts; (try simp only [fZ] at hF)) | ((with_reducible refine gbx ?_); refine wB hA ?_; clear hF hA; intro b1 w1 hA hb1; (try simp only [uA] at hA); have hF := hA.facts; (try simp only [fZ] at hF)))
            refine (has_any (hA.sep2 (A := Part.cells b3 [.slice bx ins.length bcap] 55) (B := R) sZ sZ) hb'.out j (by omega)).mono ?_
            rintro e w1 ⟨rfl, hT⟩
            have hB := hA.call2 (A := Part.cells b3 [.slice bx ins.length bcap] 55) (B := R) sZ sZ hT
            clear hT
            clear hF hA; have hA := hB; clear hB
            try simp only [List.cons_append, List.nil_append] at hA
            (try simp only [uA] at hA); have hF := hA.facts; (try simp only [fZ] at hF)
            obtain ⟨hbj, hhj⟩ : ∃ z, hasB ins j = z := ⟨_, rfl⟩
            have hhj' := Lib.hid hhj
            rw [hhj]
            clear hhj
            cases hbj
            · go_wp2_with (first | ((with_reducible refine gst ?_); refine wS hA ?_; clear hF hA; intro w1 hA; (try simp only [uA] at hA); have hF := hA.facts; (try simp only [fZ] at hF)) | ((with_reducible refine gbx ?_); refine wB hA ?_; clear hF hA; intro b1 w1 hA hb1; (try simp only [uA] at hA); have hF := hA.facts; (try simp only [fZ] at hF)))
              go_ret
              exact ⟨false, rfl, nofun, hA.pick pZ⟩
            · go_wp2_with (first | ((with_reducible refine gst ?_); refine wS hA ?_; clear hF hA; intro w1 hA; (try simp only [uA] at hA); have hF := hA.facts; (try simp only [fZ] at hF)) | ((with_reducible refine gbx ?_); refine wB hA ?_; clear hF hA; intro b1 w1 hA hb1; (try simp only [uA] at hA); have hF := hA.facts; (try simp only [fZ] at hF)))
              go_roundg (gk - 1)
              case measure => omega
              case rel =>
                refine ⟨i2 + 1, by simp, by omega, fun q hq => ?_, hA.pick pZ⟩
                rw [htk'.out] at hq
                rcases List.mem_append.1 hq with hq | hq
                · exact hal'.out q hq
                · rw [List.mem_singleton.1 hq]; exact hhj'.out
          · have hF := hA.facts
            (try simp only [uA] at hA); have hF := hA.facts; (try simp only [fZ] at hF)
            go_wp2_with (first | ((with_reducible refine gst ?_); refine wS hA ?_; clear hF hA; intro w1 hA; (try simp only [uA] at hA); have hF := hA.facts; (try simp only [fZ] at hF)) | ((with_reducible refine gbx ?_); refine wB hA ?_; clear hF hA; intro b1 w1 hA hb1; (try simp only [uA] at hA); have hF := hA.facts; (try simp only [fZ] at hF)))
            go_roundg (l.length - (i + 1))
            case measure => omega
            case rel =>
              refine ⟨i + 1, by simp, by omega, fun j hj => ?_, hA.pick pZ⟩
              by_cases q : j < i
              · exact hcl'.out j q
              · obtain rfl : j = i := by omega
                intro x hx _ q y hq hy hc
                rw [hx'.out] at hx
                cases hx
                have h1 := hks'.out.2.1 q y (by rw [List.getElem?_take_of_lt hq]; exact hy) hc
                exact hal'.out q (by rw [List.take_of_length_le (by omega)]; exact h1)
    · have hi2 : i = l.length := by omega
      subst hi2
      (try simp only [uA] at hA); have hF := hA.facts; (try simp only [fZ] at hF)
      go_wp2_with (first | ((with_reducible refine gst ?_); refine wS hA ?_; clear hF hA; intro w1 hA; (try simp only [uA] at hA); have hF := hA.facts; (try simp only [fZ] at hF)) | ((with_reducible refine gbx ?_); refine wB hA ?_; clear hF hA; intro b1 w1 hA hb1; (try simp only [uA] at hA); have hF := hA.facts; (try simp only [fZ] at hF)))
      go_ret
      refine ⟨true, rfl, fun _ j => ?_, hA.pick pZ⟩
      by_cases q : j < l.length
      · exact hcl'.out j q
      · intro x hx
        rw [List.getElem?_eq_none (by omega)] at hx
        cases hx
end Go.Proofs.YtpebabaigakagaaGreatDoor.Tab
end

section
namespace Go.Proofs.YtpebabaigakagaaGreatDoor.Tab
open Path (bl rightB overB aboveB)
open Lease (Ses Ans fresh)
open Lock (S3 Ent)
open Cmd (Cm rightC)
set_option linter.unusedSimpArgs false
set_option linter.unusedVariables false

theorem clash_same (a b : Cm) : Cmd.clashB a b = clashK a b := by
  unfold Cmd.clashB clashK Cmd.keyC
  cases (Cmd.footC a).2 <;> cases (Cmd.footC b).2 <;> simp
/-- those that are kept, with their places -/
def kz (ins : List Bool) (l : List Cm) : List (Cm × Nat) := l.zipIdx.filter (fun p => hasB ins p.2)
def somF (ins : List Bool) (l : List Cm) : List Cm := (kz ins l).map (·.1)
def idxF (ins : List Bool) (l : List Cm) : List Nat := (kz ins l).map (·.2)
theorem kz_snoc (ins : List Bool) (l : List Cm) (c : Cm) : kz ins (l ++ [c]) = kz ins l ++ if hasB ins l.length then [(c, l.length)] else [] := by
  unfold kz
  rw [List.zipIdx_append, List.filter_append]
  congr 1
  simp [List.filter_cons]
theorem kz_len (ins : List Bool) (l : List Cm) : (kz ins l).length ≤ l.length := by
  unfold kz
  have := List.length_filter_le (fun p => hasB ins p.2) l.zipIdx
  rwa [List.length_zipIdx] at this
theorem somF_len (ins : List Bool) (l : List Cm) : (somF ins l).length ≤ l.length := by unfold somF; rw [List.length_map]; exact kz_len ins l
theorem idxF_len (ins : List Bool) (l : List Cm) : (idxF ins l).length = (somF ins l).length := by unfold idxF somF; rw [List.length_map, List.length_map]
theorem somF_sub {ins : List Bool} {l : List Cm} {c : Cm} (h : c ∈ somF ins l) : c ∈ l := by
  obtain ⟨p, hp, rfl⟩ := List.mem_map.1 h
  exact (List.mem_zipIdx (List.mem_filter.1 hp).1).2.2 ▸ List.getElem_mem _
theorem idxF_lt {ins : List Bool} {l : List Cm} {j : Nat} (h : j ∈ idxF ins l) : j < l.length := by
  obtain ⟨p, hp, rfl⟩ := List.mem_map.1 h
  have := (List.mem_zipIdx (List.mem_filter.1 hp).1).2.1
  omega
def lbF (ins : List Bool) (l : List Cm) : List (Cm × Bool) := l.zipIdx.map (fun p => (p.1, hasB ins p.2))
theorem lb_fst (ins : List Bool) (l : List Cm) : (lbF ins l).map (·.1) = l := by
  unfold lbF
  rw [List.map_map]
  exact List.zipIdx_map_fst 0 l
theorem lb_som (ins : List Bool) (l : List Cm) : ((lbF ins l).filter (·.2)).map (·.1) = somF ins l := by
  unfold lbF somF kz
  rw [List.filter_map, List.map_map]
  rfl
theorem lb_told (ins : List Bool) : ∀ (l : List Cm) (A : List Ans) (n : Nat), A.length = l.length →
    ((((l.zipIdx n).map (fun p => (p.1, hasB ins p.2))).zip A).filter (fun q => q.1.2)).map (fun q => q.2) = ((l.zipIdx n).filter (fun p => hasB ins p.2)).map (fun p => A.getD (p.2 - n) ans0)
  | [], _, _, _ => rfl
  | c :: l, [], _, h => by cases h
  | c :: l, a :: A, n, h => by
    have ih := lb_told ins l A (n + 1) (by simpa using h)
    have hs : ((l.zipIdx (n + 1)).filter (fun p => hasB ins p.2)).map (fun p => (a :: A).getD (p.2 - n) ans0) = ((l.zipIdx (n + 1)).filter (fun p => hasB ins p.2)).map (fun p => A.getD (p.2 - (n + 1)) ans0) := by
      refine List.map_congr_left fun p hp => ?_
      have hle := (List.mem_zipIdx (List.mem_filter.1 hp).1).1
      rw [show p.2 - n = (p.2 - (n + 1)) + 1 from by omega]
      simp
    simp only [List.zipIdx_cons, List.map_cons, List.zip_cons_cons, List.filter_cons]
    cases hasB ins n with
    | false => simp only [Bool.false_eq_true, if_false]; rw [ih, hs]
    | true => simp only [if_true, List.map_cons]; rw [ih, hs]; simp
theorem lb_pair {ins : List Bool} {l : List Cm} (h : ∀ i, clAt l ins i) : (lbF ins l).Pairwise (fun y x => x.2 = true → y.2 = false → clashK y.1 x.1 = false) := by
  rw [List.pairwise_iff_getElem]
  intro i j hi hj hij h1 h2
  have hi' : i < l.length := by unfold lbF at hi; simpa using hi
  have hj' : j < l.length := by unfold lbF at hj; simpa using hj
  have e : ∀ k (hk : k < (lbF ins l).length) (hk' : k < l.length), (lbF ins l)[k] = (l[k], hasB ins k) := fun k hk hk' => by simp [lbF]
  rw [e j hj hj'] at h1 ⊢
  rw [e i hi hi'] at h2 ⊢
  cases hc : clashK l[i] l[j] with
  | false => rfl
  | true =>
    have := h j l[j] (List.getElem?_eq_getElem hj') h1 i l[i] hij (List.getElem?_eq_getElem hi') (by rw [clash_same]; exact hc)
    rw [this] at h2
    cases h2
/-- the plain law -/
theorem closed_told {ins : List Bool} {l : List Cm} (hok : ∀ c ∈ l, CmOk c) (hcl : ∀ i, clAt l ins i) {first : Int} (f0 : 0 ≤ first) (f1 : first < Lease.big64) {k j : Nat} (hk : (idxF ins l)[k]? = some j) :
    ∃ x : Ans, (toldT ⟨[], ⟨first, [], []⟩⟩ (somF ins l))[k]? = some x ∧ (toldT ⟨[], ⟨first, [], []⟩⟩ l)[j]? = some x := by
  have hg := good_new f0 f1
  have h := closed_run (l := lbF ins l) (us := []) (fun x hx => hok _ (by
    rw [← lb_fst ins l]
    exact List.mem_map.2 ⟨x, hx, rfl⟩)) nofun (lb_pair hcl) hg hg (TEq.refl _)
  rw [lb_fst, lb_som] at h
  have hlen : (toldT ⟨[], ⟨first, [], []⟩⟩ l).length = l.length := told_len l _
  have h2 := lb_told ins l (toldT ⟨[], ⟨first, [], []⟩⟩ l) 0 hlen
  rw [← h, show ((lbF ins l).zip (toldT ⟨[], ⟨first, [], []⟩⟩ l)).filter (fun x => x.1.2) = ((List.map (fun p => (p.1, hasB ins p.2)) (l.zipIdx 0)).zip (toldT ⟨[], ⟨first, [], []⟩⟩ l)).filter (fun q => q.1.2) from rfl, h2]
  have hj : j < (toldT ⟨[], ⟨first, [], []⟩⟩ l).length := by rw [hlen]; exact idxF_lt (List.mem_of_getElem? hk)
  refine ⟨(toldT ⟨[], ⟨first, [], []⟩⟩ l)[j], ?_, List.getElem?_eq_getElem hj⟩
  unfold idxF kz at hk
  rw [List.getElem?_map] at hk ⊢
  cases hq : ((l.zipIdx).filter (fun p => hasB ins p.2))[k]? with
  | none => rw [hq] at hk; cases hk
  | some p =>
    rw [hq] at hk
    simp only [Option.map_some, Option.some.injEq] at hk ⊢
    subst hk
    rw [Nat.sub_zero, List.getD_eq_getElem?_getD, List.getElem?_eq_getElem hj]
    rfl
end Go.Proofs.YtpebabaigakagaaGreatDoor.Tab
end
