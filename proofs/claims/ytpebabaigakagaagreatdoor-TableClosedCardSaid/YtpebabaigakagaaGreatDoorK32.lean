/- TabU, joined. -/
import Derived.Test.YtpebabaigakagaaGreatDoorK31
section
namespace Go.Proofs.YtpebabaigakagaaGreatDoor.Tab
open Go.RowKit
open Path (bl rightB overB aboveB)
open Lease (Ses Ans fresh Turned)
open Lock (S3 Ent)
open Cmd (Cm rightC)
set_option linter.unusedSimpArgs false
set_option linter.unusedVariables false
attribute [-go_sem] run_eql_struct run_neq_struct run_eqGuard_agg
attribute [local go_sem] guardAn neqAn
theorem cells_one (c : Cm) : ∀ u ∈ Cm.cells c, u.oneCell' = true := by
  intro u hu
  simp only [Cmd.Cm.cells, List.mem_cons, List.not_mem_nil, or_false] at hu
  rcases hu with rfl | rfl | rfl | rfl | rfl | rfl | rfl | rfl <;> rfl
theorem rowCm_snoc (v : Value) (l : List Cm) (a : Cm) : Part.row 29 8 v (l.length + 1) (l.flatMap Cm.cells ++ Cm.cells a) = rowCm v (l ++ [a]) := by
  unfold rowCm
  rw [List.length_append]
  simp
theorem infoC8 : (Tryz.prog.info? 29).map (fun i => (i.zero, i.size, i.bytes)) = some (some (.agg #[.int .i64 0, .int .u64 0, .string .empty, .int .u64 0, .string .empty, .int .i64 0, .int .u64 0, .int .i64 0]), 8, 80) := by kernel_rfl
theorem take_cells {α : Type} {enc : α → List Value} {size : Nat} (hs : ∀ x, (enc x).length = size) {c : List Value} {l : List α} (ht : c.take (l.length * size) = l.flatMap enc) {k : Nat} {x : α} (hx : l[k]? = some x) : (c.drop (k * size)).take size = enc x := by
  apply List.ext_getElem?
  intro j
  by_cases hj : j < size
  · rw [List.getElem?_take_of_lt hj, List.getElem?_drop]
    exact cells_at hs ht hx j hj
  · rw [List.getElem?_take_eq_none (by omega), List.getElem?_eq_none (by rw [hs]; omega)]
def KpRel (w : World) (ins : List Bool) (l : List Cm) (av : Value) (TL : List Ans) (t p m : Nat) (ss : List Ses) (b : Lock.Bk) (k : Nat) (u36 u9 u10 : Value) (wr : World) : Prop :=
  ∃ (i : Nat) (so : List Cm) (ki : List Nat), u36 = .int .i64 i ∧ i + k = l.length ∧ (so = somF ins (l.take i) ∧ ki = idxF ins (l.take i)) ∧ At [Part.old w] w [rowCm u9 so, rowI u10 ki, rowAn av TL, TabP t p m ss b, Part.old w] wr
def CmpRel (w : World) (a1 a2 a3 : Value) (T1 T2 : List Ans) (ki : List Nat) (k : Nat) (u68 : Value) (wr : World) : Prop :=
  ∃ i : Nat, u68 = .int .i64 i ∧ i + k = ki.length ∧ At [Part.old w] w [rowAn a2 T2, rowAn a1 T1, rowI a3 ki, Part.old w] wr
set_option maxRecDepth 100000 in
set_option maxHeartbeats 8000000 in
theorem closed_law {w : World} {ax : Option Addr} {cap : Nat} {l : List Cm} (hr : ReadsC (Part.old w) (.slice ax l.length cap) l) (hcap : l.length ≤ cap) (hcm : cap ≤ maxLen) (hv : ∀ c ∈ l, CmV c) {first : Int} (f0 : 0 ≤ first) (f1 : first < Lock.big64) {v2 : Value} {ins : List Bool} (hb : ReadsB (Part.old w) v2 ins) (hbl : ins.length ≤ maxLen) :
    Calls Tryz.prog 4 #[.int .u64 first, .slice ax l.length cap, v2] w fun e w' => e = .returned (.bool true) ∧ Below w.heap.size w w' := by
  have hm : Tryz.prog.follows .mixedOrders = true := by kernel_rfl
  obtain ⟨i0, hi0, hz0, hz1, hz2⟩ := info_parts infoC8
  obtain ⟨j0, hj0, hy0, hy1, hy2⟩ := info_parts infoI
  have hA : At [Part.old w] w [Part.old w] w := At.start ⟨fun _ _ => rfl, trivial, nofun⟩
  have hsm := fun (w1 : World) (q : Sep [Part.old w] w1) => small_any q hr (by unfold maxLen at hcm; omega) (fun c hc => ⟨(hv c hc).path, (hv c hc).foot⟩) 40
  have hcl := fun (hs : smallB l 40 = true) (w1 : World) (q : Sep [Part.old w] w1) => closed_any q hr hcap (by have := (small_in (k := 40) hs hv).1; omega) (fun x hx => by have := ((small_in (k := 40) hs hv).2 x hx).ok; exact ⟨Nat.le_trans this.path (by omega), Nat.le_trans this.foot (by omega)⟩) hb
  have hpl := fun (hs : smallB l 40 = true) (w1 : World) (q : Sep [Part.old w] w1) => play_any q f0 f1 hr (by have := (small_in (k := 40) hs hv).1; omega) (small_in (k := 40) hs hv).2
  have hp2 := fun (hs : smallB l 40 = true) (v : Value) (w1 : World) (q : Sep [rowCm v (somF ins l)] w1) => play_any q f0 f1 (reads_row v (somF ins l)) (by have := (small_in (k := 40) hs hv).1; have := somF_len ins l; omega) (fun c hc => (small_in (k := 40) hs hv).2 c (somF_sub hc))
  have htd := fun (hs : smallB l 40 = true) (hq : ∀ i, clAt l ins i) (k j : Nat) (hk : (idxF ins l)[k]? = some j) => closed_told (fun c hc => ((small_in (k := 40) hs hv).2 c hc).ok) hq f0 f1 hk
  have hln := fun (hs : smallB l 40 = true) => (small_in (k := 40) hs hv).1
  obtain ⟨bx, bcap, rfl, _, _⟩ := hb w (hA.get .here)
  obtain ⟨sb, hsb⟩ : ∃ z, smallB l 40 = z := ⟨_, rfl⟩
  rw [hsb] at hsm hcl hpl hp2 htd hln
  have hsm' := Lib.hid hsm
  have hcl' := Lib.hid hcl
  have hpl' := Lib.hid hpl
  have hp2' := Lib.hid hp2
  have htd' := Lib.hid htd
  have hln' := Lib.hid hln
  have hr' := Lib.hid hr
  have hb' := Lib.hid hb
  clear hsm hcl hpl hp2 htd hln hsb hv hr hb
  (try simp only [uA] at hA); have hF := hA.facts; (try simp only [fZ] at hF)
  go_enter Tryz.func4, Tryz.ntmps4
  go_wp2_with (first | ((with_reducible refine gst ?_); refine wS hA ?_; clear hF hA; intro w1 hA; (try simp only [uA] at hA); have hF := hA.facts; (try simp only [fZ] at hF)) | ((with_reducible refine gbx ?_); refine wB hA ?_; clear hF hA; intro b1 w1 hA hb1; (try simp only [uA] at hA); have hF := hA.facts; (try simp only [fZ] at hF)))
  refine (anchor_any _).mono ?_
  rintro e w1 ⟨rfl, hx⟩
  have hB := hA.ext hx
  clear hx
  clear hF hA; have hA := hB; clear hB
  try simp only [List.cons_append, List.nil_append] at hA
  (try simp only [uA] at hA); have hF := hA.facts; (try simp only [fZ] at hF)
  go_wp2_with (first | ((with_reducible refine gst ?_); refine wS hA ?_; clear hF hA; intro w1 hA; (try simp only [uA] at hA); have hF := hA.facts; (try simp only [fZ] at hF)) | ((with_reducible refine gbx ?_); refine wB hA ?_; clear hF hA; intro b1 w1 hA hb1; (try simp only [uA] at hA); have hF := hA.facts; (try simp only [fZ] at hF)))
  refine (hsm'.out _ (hA.sep1 (A := Part.old w) sZ)).mono ?_
  rintro e w1 ⟨rfl, hT⟩
  have hB := hA.call1 (A := Part.old w) sZ hT
  clear hT
  clear hF hA; have hA := hB; clear hB
  try simp only [List.cons_append, List.nil_append] at hA
  (try simp only [uA] at hA); have hF := hA.facts; (try simp only [fZ] at hF)
  clear hsm'
  cases sb
  · go_wp2_with (first | ((with_reducible refine gst ?_); refine wS hA ?_; clear hF hA; intro w1 hA; (try simp only [uA] at hA); have hF := hA.facts; (try simp only [fZ] at hF)) | ((with_reducible refine gbx ?_); refine wB hA ?_; clear hF hA; intro b1 w1 hA hb1; (try simp only [uA] at hA); have hF := hA.facts; (try simp only [fZ] at hF)))
    go_ret
    exact ⟨rfl, below_old hA sZ⟩
  have hl40 := hln'.out (by simp)
  clear hln'
  go_wp2_with (first | ((with_reducible refine gst ?_); refine wS hA ?_; clear hF hA; intro w1 hA; (try simp only [uA] at hA); have hF := hA.facts; (try simp only [fZ] at hF)) | ((with_reducible refine gbx ?_); refine wB hA ?_; clear hF hA; intro b1 w1 hA hb1; (try simp only [uA] at hA); have hF := hA.facts; (try simp only [fZ] at hF)))
  refine (hcl'.out (by simp) _ (hA.sep1 (A := Part.old w) sZ)).mono ?_
  clear hcl'
  rintro e w1 ⟨bc, rfl, hbc, hT⟩
  have hB := hA.call1 (A := Part.old w) sZ hT
  clear hT
  clear hF hA; have hA := hB; clear hB
  try simp only [List.cons_append, List.nil_append] at hA
  (try simp only [uA] at hA); have hF := hA.facts; (try simp only [fZ] at hF)
  cases bc
  · clear hbc
    go_wp2_with (first | ((with_reducible refine gst ?_); refine wS hA ?_; clear hF hA; intro w1 hA; (try simp only [uA] at hA); have hF := hA.facts; (try simp only [fZ] at hF)) | ((with_reducible refine gbx ?_); refine wB hA ?_; clear hF hA; intro b1 w1 hA hb1; (try simp only [uA] at hA); have hF := hA.facts; (try simp only [fZ] at hF)))
    go_ret
    exact ⟨rfl, below_old hA sZ⟩
  have hca := Lib.hid (hbc rfl)
  clear hbc
  go_wp2_with (first | ((with_reducible refine gst ?_); refine wS hA ?_; clear hF hA; intro w1 hA; (try simp only [uA] at hA); have hF := hA.facts; (try simp only [fZ] at hF)) | ((with_reducible refine gbx ?_); refine wB hA ?_; clear hF hA; intro b1 w1 hA hb1; (try simp only [uA] at hA); have hF := hA.facts; (try simp only [fZ] at hF)))
  refine (hpl'.out (by simp) _ (hA.sep1 (A := Part.old w) sZ)).mono ?_
  rintro e w1 ⟨t, p, m, ss, b, av, rfl, hR, hT⟩
  have hB := hA.call1 (A := Part.old w) sZ hT
  clear hT
  clear hF hA; have hA := hB; clear hB
  try simp only [List.cons_append, List.nil_append] at hA
  (try simp only [uA] at hA); have hF := hA.facts; (try simp only [fZ] at hF)
  clear hpl' hR
  have htl := told_len l ⟨[], ⟨first, [], []⟩⟩
  have htd2 := Lib.hid (htd'.out (by simp) hca.out)
  clear htd' hca
  generalize hTL : toldT ⟨[], ⟨first, [], []⟩⟩ l = TL at *
  clear hTL
  obtain ⟨axa, capa, rfl, _, _, _⟩ := hA.row_form (e := 48) (size := 3) (v := av) (n := TL.length) (xs := TL.flatMap ansL) sZ
  have htl' := Lib.hid htl
  clear htl
  (try simp only [uA] at hA); have hF := hA.facts; (try simp only [fZ] at hF)
  go_wp2_with (first | ((with_reducible refine gst ?_); refine wS hA ?_; clear hF hA; intro w1 hA; (try simp only [uA] at hA); have hF := hA.facts; (try simp only [fZ] at hF)) | ((with_reducible refine gbx ?_); refine wB hA ?_; clear hF hA; intro b1 w1 hA hb1; (try simp only [uA] at hA); have hF := hA.facts; (try simp only [fZ] at hF)))
  try go_frame
  have hB := (hA.row_nil 3 1).row_nil 29 8
  clear hF hA
  go_loopg [36, 9, 10] l.length (KpRel w ins l (.slice axa TL.length capa) TL t p m ss b)
  case atStart => exact ⟨0, [], [], rfl, by omega, ⟨rfl, rfl⟩, hB.pick pZ⟩
  case round =>
    obtain ⟨i, so, ki, rfl, hik, hkk, hA⟩ := hrel
    clear hB
    have hsl : so.length ≤ i := by rw [hkk.1]; have h1 := somF_len ins (l.take i); rw [List.length_take] at h1; omega
    have hkl : ki.length ≤ i := by rw [hkk.2, idxF_len]; have h1 := somF_len ins (l.take i); rw [List.length_take] at h1; omega
    obtain ⟨axs, caps, hvs, _, _, _⟩ := hA.row_form (e := 29) (size := 8) (n := so.length) (xs := so.flatMap Cm.cells) .here
    subst hvs
    obtain ⟨axk, capk, hvk, _, _, _⟩ := hA.row_form (e := 3) (size := 1) (n := ki.length) (xs := ki.flatMap iC) sZ
    subst hvk
    by_cases hi : i < l.length
    · obtain ⟨c, hc⟩ : ∃ c, l[i]? = some c := ⟨_, List.getElem?_eq_getElem hi⟩
      have htk : l.take (i + 1) = l.take i ++ [c] := by rw [List.take_add_one, hc]; rfl
      have hti : (l.take i).length = i := by rw [List.length_take]; omega
      have hs1 : somF ins (l.take (i + 1)) = somF ins (l.take i) ++ if hasB ins i then [c] else [] := by
        unfold somF
        rw [htk, kz_snoc, hti, List.map_append]
        congr 1
        split <;> rfl
      have hs2 : idxF ins (l.take (i + 1)) = idxF ins (l.take i) ++ if hasB ins i then [i] else [] := by
        unfold idxF
        rw [htk, kz_snoc, hti, List.map_append]
        congr 1
        split <;> rfl
      rw [← hkk.1] at hs1
      rw [← hkk.2] at hs2
      obtain ⟨bl0, ofl, hax⟩ : ∃ b0 o0, ax = some ⟨b0, o0, none⟩ := by
        obtain ⟨ax2, c2, e2, _, hr2⟩ := hr'.out _ (hA.get (A := Part.old w) sZ)
        cases e2
        have hf := flat_at Cm.cells 8 (fun _ => rfl) l i c hc 0 (by omega)
        obtain ⟨b0, o0, e3, _⟩ := hr2 (i * 8 + 0) _ hf
        exact ⟨b0, o0, e3⟩
      subst hax
      have hrc := reads_cm hr'.out hc _ (hA.get (A := Part.old w) sZ)
      obtain ⟨hbi, hhb⟩ : ∃ z, hasB ins i = z := ⟨_, rfl⟩
      rw [hhb] at hs1 hs2
      have hs1' := Lib.hid hs1
      have hs2' := Lib.hid hs2
      clear hkk htk hti hs1 hs2 hc
      obtain ⟨k2, n2, f2, r2, p2, m2, nn2, t2⟩ := c
      have hrc' := Lib.hid (show ∀ (k : Nat) u, ([.int .i64 k2, .int .u64 n2, .string f2, .int .u64 r2, .string p2, .int .i64 m2, .int .u64 nn2, .int .i64 t2] : List Value)[k]? = some u → wr.cell? ⟨bl0, ofl + i * 8 + k, none⟩ = some u from hrc)
      clear hrc
      (try simp only [uA] at hA); have hF := hA.facts; (try simp only [fZ] at hF)
      go_upto_region 11 with (first | (((with_reducible show wpList _ _ _ ({ dst := some 12, op := Op.alloc _, type := _, pos := _, after := _, guard := _ } :: _) _ _)); ((with_reducible refine gal ?_); refine wA 29 (.agg #[.int .i64 0, .int .u64 0, .string .empty, .int .u64 0, .string .empty, .int .i64 0, .int .u64 0, .int .i64 0]) [.int .i64 0, .int .u64 0, .string .empty, .int .u64 0, .string .empty, .int .i64 0, .int .u64 0, .int .i64 0] hA ?_; clear hF hA; intro b12 w1 hA hb12; (try simp only [uA] at hA); have hF := hA.facts; (try simp only [fZ] at hF))) | ((with_reducible show wpList _ _ _ ({ dst := some 40, op := Op.load _ _, type := _, pos := _, after := _, guard := _ } :: _) _ _); refine wpList_loadRow_at (vs := [.int .i64 k2, .int .u64 n2, .string f2, .int .u64 r2, .string p2, .int .i64 m2, .int .u64 nn2, .int .i64 t2]) rfl rfl (by (try simp only [Act.eval, eV]) <;> exact rfl) hrc'.out (by kernel_rfl) (by kernel_rfl) ?_) | ((with_reducible refine gst ?_); refine wS hA ?_; clear hF hA; intro w1 hA; (try simp only [uA] at hA); have hF := hA.facts; (try simp only [fZ] at hF)) | ((with_reducible refine gbx ?_); refine wB hA ?_; clear hF hA; intro b1 w1 hA hb1; (try simp only [uA] at hA); have hF := hA.facts; (try simp only [fZ] at hF)))
      by_cases hlt : i < ins.length
      · obtain ⟨x, hx⟩ : ∃ x, ins[i]? = some x := ⟨_, List.getElem?_eq_getElem hlt⟩
        obtain rfl : hbi = x := by rw [← hhb]; unfold hasB; rw [hx]; rfl
        obtain ⟨c0, d0, hax⟩ : ∃ b0 o0, bx = some ⟨b0, o0, none⟩ := by
          obtain ⟨ax2, c2, e2, _, hr2⟩ := hb'.out _ (hA.get (A := Part.old w) sZ)
          cases e2
          have hf := flat_at bC 1 (fun _ => rfl) ins i _ hx 0 (by omega)
          obtain ⟨b0, o0, e3, _⟩ := hr2 (i * 1 + 0) _ hf
          exact ⟨b0, o0, e3⟩
        subst hax
        have hxc := reads_b hb'.out hx _ (hA.get (A := Part.old w) sZ)
        have hd : decide ((i : Int) < (ins.length : Int)) = true := decide_eq_true (by omega)
        have hd2 : decide (i < ins.length) = true := decide_eq_true hlt
        clear hx hhb
        cases hbi
        · go_wp2_with (first | ((with_reducible refine gst ?_); refine wS hA ?_; clear hF hA; intro w1 hA; (try simp only [uA] at hA); have hF := hA.facts; (try simp only [fZ] at hF)) | ((with_reducible refine gbx ?_); refine wB hA ?_; clear hF hA; intro b1 w1 hA hb1; (try simp only [uA] at hA); have hF := hA.facts; (try simp only [fZ] at hF)))
          go_roundg (gk - 1)
          case measure => omega
          case rel => exact ⟨i + 1, so, ki, by simp, by omega, ⟨by have := hs1'.out; simpa using this.symm, by have := hs2'.out; simpa using this.symm⟩, hA.pick pZ⟩
        · go_wp2_with (first | ((with_reducible show wpList _ _ _ ({ dst := some 52, op := Op.load 29 _, type := _, pos := _, after := _, guard := _ } :: _) _ _); refine wpList_loadRow_at (vs := [.int .i64 k2, .int .u64 n2, .string f2, .int .u64 r2, .string p2, .int .i64 m2, .int .u64 nn2, .int .i64 t2]) rfl rfl (by (try simp only [Act.eval, eV]) <;> exact rfl) (fun k u hk => by rw [Nat.zero_add]; exact ((hA.get (A := Part.cells b12 [.int .i64 k2, .int .u64 n2, .string f2, .int .u64 r2, .string p2, .int .i64 m2, .int .u64 nn2, .int .i64 t2] 29) sZ : BlockIs _ _ _ _).cell k).trans hk) (by kernel_rfl) (by kernel_rfl) ?_) | ((with_reducible show wpList _ _ _ ({ dst := some 53, op := Op.buildSlice _ _ _, type := _, pos := _, after := _, guard := _ } :: _) _ _); refine wpList_one_at (e := 29) (vs := Cm.cells ⟨k2, n2, f2, r2, p2, m2, nn2, t2⟩) rfl rfl (by (try simp only [Act.eval, eV]) <;> exact rfl) (fun _ => by kernel_rfl) hA ?_; intro b22 w1 hB hb22; clear hF hA; have hA := hB; clear hB; (try simp only [uA] at hA); have hF := hA.facts; (try simp only [fZ] at hF)) | ((with_reducible show wpList _ _ _ ({ dst := some 54, op := Op.call { callee := Callee.builtin Builtin.append, args := _, argTypes := _ }, type := _, pos := _, after := _, guard := _ } :: _) _ _); refine wpList_append_at (e := 29) (size := 8) (v := .slice axs so.length caps) (xs := so.flatMap Cm.cells) (n := so.length) (m := 1) (news := Cm.cells ⟨k2, n2, f2, r2, p2, m2, nn2, t2⟩) rfl _ _ 23 rfl Tryz.underlying23 hi0 hz0 hz1 hz2 rfl (by omega) hA sZ (by (try simp only [Act.eval, eV]) <;> exact rfl) (by (try simp only [Act.eval, eV]) <;> exact rfl) rfl (hA.cells_reads sZ _ _) (cells_one _) (by unfold maxLen; omega) (by omega) ?_; intro v53 w1 hB; rw [rowCm_snoc] at hB; clear hF hA; have hA := hB; clear hB; (try simp only [uA] at hA); have hF := hA.facts; (try simp only [fZ] at hF)) | ((with_reducible show wpList _ _ _ ({ dst := some 57, op := Op.buildSlice _ _ _, type := _, pos := _, after := _, guard := _ } :: _) _ _); refine wpList_one_at (e := 3) (vs := iC i) rfl rfl (by (try simp only [Act.eval, eV]) <;> exact rfl) (fun _ => by kernel_rfl) hA ?_; intro b22 w1 hB hb22; clear hF hA; have hA := hB; clear hB; (try simp only [uA] at hA); have hF := hA.facts; (try simp only [fZ] at hF)) | ((with_reducible show wpList _ _ _ ({ dst := some 58, op := Op.call { callee := Callee.builtin Builtin.append, args := _, argTypes := _ }, type := _, pos := _, after := _, guard := _ } :: _) _ _); refine wpList_append_at (e := 3) (size := 1) (v := .slice axk ki.length capk) (xs := ki.flatMap iC) (n := ki.length) (m := 1) (news := iC i) rfl _ _ 57 rfl Tryz.underlying57 hj0 hy0 hy1 hy2 rfl (by omega) hA sZ (by (try simp only [Act.eval, eV]) <;> exact rfl) (by (try simp only [Act.eval, eV]) <;> exact rfl) rfl (hA.cells_reads sZ _ _) (iC_one _) (by unfold maxLen; omega) (by omega) ?_; intro v57 w1 hB; rw [rowI_snoc] at hB; clear hF hA; have hA := hB; clear hB; (try simp only [uA] at hA); have hF := hA.facts; (try simp only [fZ] at hF)) | ((with_reducible refine gst ?_); refine wS hA ?_; clear hF hA; intro w1 hA; (try simp only [uA] at hA); have hF := hA.facts; (try simp only [fZ] at hF)) | ((with_reducible refine gbx ?_); refine wB hA ?_; clear hF hA; intro b1 w1 hA hb1; (try simp only [uA] at hA); have hF := hA.facts; (try simp only [fZ] at hF)))
          go_roundg (gk - 1)
          case measure => omega
          case rel => exact ⟨i + 1, so ++ [⟨k2, n2, f2, r2, p2, m2, nn2, t2⟩], ki ++ [i], by simp, by omega, ⟨by have := hs1'.out; simpa using this.symm, by have := hs2'.out; simpa using this.symm⟩, hA.pick pZ⟩
      · obtain rfl : hbi = false := by rw [← hhb]; unfold hasB; rw [List.getElem?_eq_none (by omega)]; rfl
        have hd : decide ((i : Int) < (ins.length : Int)) = false := decide_eq_false (by omega)
        have hd2 : decide (i < ins.length) = false := decide_eq_false hlt
        clear hhb
        go_wp2_with (first | ((with_reducible refine gst ?_); refine wS hA ?_; clear hF hA; intro w1 hA; (try simp only [uA] at hA); have hF := hA.facts; (try simp only [fZ] at hF)) | ((with_reducible refine gbx ?_); refine wB hA ?_; clear hF hA; intro b1 w1 hA hb1; (try simp only [uA] at hA); have hF := hA.facts; (try simp only [fZ] at hF)))
        go_roundg (gk - 1)
        case measure => omega
        case rel => exact ⟨i + 1, so, ki, by simp, by omega, ⟨by have := hs1'.out; simpa using this.symm, by have := hs2'.out; simpa using this.symm⟩, hA.pick pZ⟩
    · have hi2 : i = l.length := by omega
      subst hi2
      rw [List.take_of_length_le (Nat.le_refl _)] at hkk
      obtain ⟨rfl, rfl⟩ := hkk
      have hp3 := Lib.hid (hp2'.out (by simp) (.slice axs (somF ins l).length caps))
      have hlk : (toldT ⟨[], ⟨first, [], []⟩⟩ (somF ins l)).length ≤ 40 := by rw [told_len]; omega
      have hjl := Lib.hid (fun j (hj : j ∈ idxF ins l) => idxF_lt hj)
      have htd3 := Lib.hid htd2.out
      clear htd2 hp2'
      (try simp only [uA] at hA); have hF := hA.facts; (try simp only [fZ] at hF)
      go_wp2_with (first | ((with_reducible refine gst ?_); refine wS hA ?_; clear hF hA; intro w1 hA; (try simp only [uA] at hA); have hF := hA.facts; (try simp only [fZ] at hF)) | ((with_reducible refine gbx ?_); refine wB hA ?_; clear hF hA; intro b1 w1 hA hb1; (try simp only [uA] at hA); have hF := hA.facts; (try simp only [fZ] at hF)))
      refine (hp3.out _ (hA.sep1 (A := rowCm (.slice axs (somF ins l).length caps) (somF ins l)) sZ)).mono ?_
      rintro e w1 ⟨t2, p2, m2, ss2, b2, av2, rfl, hR2, hT⟩
      have hB := hA.call1 (A := rowCm (.slice axs (somF ins l).length caps) (somF ins l)) sZ hT
      clear hT
      clear hF hA; have hA := hB; clear hB
      try simp only [List.cons_append, List.nil_append] at hA
      (try simp only [uA] at hA); have hF := hA.facts; (try simp only [fZ] at hF)
      clear hp3 hR2
      generalize toldT ⟨[], ⟨first, [], []⟩⟩ (somF ins l) = T2 at *
      generalize idxF ins l = ki at *
      obtain ⟨axb, capb, rfl, _, _, _⟩ := hA.row_form (e := 48) (size := 3) (v := av2) (n := T2.length) (xs := T2.flatMap ansL) sZ
      have hB := hA.pick (K := [rowAn (.slice axb T2.length capb) T2, rowAn (.slice axa TL.length capa) TL, rowI (.slice axk ki.length capk) ki, Part.old w]) pZ
      clear hF hA; have hA := hB; clear hB
      try simp only [List.cons_append, List.nil_append] at hA
      (try simp only [uA] at hA); have hF := hA.facts; (try simp only [fZ] at hF)
      go_wp2_with (first | ((with_reducible refine gst ?_); refine wS hA ?_; clear hF hA; intro w1 hA; (try simp only [uA] at hA); have hF := hA.facts; (try simp only [fZ] at hF)) | ((with_reducible refine gbx ?_); refine wB hA ?_; clear hF hA; intro b1 w1 hA hb1; (try simp only [uA] at hA); have hF := hA.facts; (try simp only [fZ] at hF)))
      try go_frame
      go_loopg [68] ki.length (CmpRel w (.slice axa TL.length capa) (.slice axb T2.length capb) (.slice axk ki.length capk) TL T2 ki)
      case atStart => exact ⟨0, rfl, by omega, hA.pick pZ⟩
      case round =>
        obtain ⟨i, rfl, hik2, hB⟩ := hrel
        clear hF hA; have hA := hB; clear hB
        by_cases hi3 : i < ki.length
        · obtain ⟨j, hj⟩ : ∃ j, ki[i]? = some j := ⟨_, List.getElem?_eq_getElem hi3⟩
          obtain ⟨x, hx2, hx1⟩ := htd3.out i j hj
          have hj1 : j < TL.length := (List.getElem?_eq_some_iff.1 hx1).1
          have hi4 : i < T2.length := (List.getElem?_eq_some_iff.1 hx2).1
          have hj5 : j < 1000 := by have := htl'.out; omega
          obtain ⟨bk, ok, ck, hvk, hrk⟩ := row_at (enc := iC) (size := 1) (fun _ => rfl) (by omega) (hA.get (A := rowI (.slice axk ki.length capk) ki) sZ) hj
          cases hvk
          have hc := hrk 0 (.int .i64 j) rfl
          rw [Nat.mul_one, Nat.add_zero] at hc
          clear hrk hj
          obtain ⟨g1, c1, rfl, hn1, hm1, hl1, ht1, hB⟩ := hA.row_open (e := 48) (size := 3) (ax := axa) (cap := capa) (n := TL.length) (xs := TL.flatMap ansL) sZ (by omega)
          clear hA
          obtain ⟨g2, c2, rfl, hn2, hm2, hl2, ht2, hA⟩ := hB.row_open (e := 48) (size := 3) (ax := axb) (cap := capb) (n := T2.length) (xs := T2.flatMap ansL) sZ (by omega)
          clear hB
          have e1 : (c1.drop (j * 3)).take 3 = ansL x := take_cells ansL_len ht1 hx1
          have e2 : (c2.drop (i * 3)).take 3 = ansL x := take_cells ansL_len ht2 hx2
          obtain ⟨xe, xn, xg⟩ := x
          simp only [ansL] at e1 e2
          have hq1 := Lib.hid (⟨hn1, hm1, hl1, ht1⟩ : _ ∧ _ ∧ _ ∧ _)
          have hq2 := Lib.hid (⟨hn2, hm2, hl2, ht2⟩ : _ ∧ _ ∧ _ ∧ _)
          clear hn1 hm1 hl1 ht1 hn2 hm2 hl2 ht2 hx1 hx2
          (try simp only [uA] at hA); have hF := hA.facts; (try simp only [fZ] at hF)
          go_upto_region 19 with (first | ((with_reducible refine gst ?_); refine wS hA ?_; clear hF hA; intro w1 hA; (try simp only [uA] at hA); have hF := hA.facts; (try simp only [fZ] at hF)) | ((with_reducible refine gbx ?_); refine wB hA ?_; clear hF hA; intro b1 w1 hA hb1; (try simp only [uA] at hA); have hF := hA.facts; (try simp only [fZ] at hF)))
          try go_frame
          (refine wp_region_all (Cl _ _ _) (by kernel_rfl) (by kernel_rfl) (Cl.drew hA) ?_); (have hn1 := Cl.none hA); (have hn2 := Cl.none2 hA); (repeat (first | go_big_quiet_skip | (go_big_quiet_want; (first | (refine quiet_loads_at (ty := 48) (n := 3) rfl rfl sR (by kernel_rfl) (by kernel_rfl) (by first | assumption | ((try simp only [List.drop_succ_cons, List.drop_zero, List.take_succ_cons, List.take_zero]) <;> exact rfl)) (by exact rfl) ?_; go_frame; go_big_quiet_on) | (refine quiet_load_at rfl rfl sR (by kernel_rfl) (by first | assumption | exact rfl) ?_; go_frame; go_big_quiet_on) | (go_big_quiet_op; (first | go_big_quiet_on))))))
          (refine wpQuiet_nil ?_); (intro w1 hB); (clear hF hA hn1 hn2); (have hA := Cl.out hB); (clear hB); (try simp only [uA] at hA); have hF := hA.facts; (try simp only [fZ] at hF)
          go_wp2_with (first | ((with_reducible refine gst ?_); refine wS hA ?_; clear hF hA; intro w1 hA; (try simp only [uA] at hA); have hF := hA.facts; (try simp only [fZ] at hF)) | ((with_reducible refine gbx ?_); refine wB hA ?_; clear hF hA; intro b1 w1 hA hb1; (try simp only [uA] at hA); have hF := hA.facts; (try simp only [fZ] at hF)))
          have hB := hA.row_shut (g := g1) (cap := capa) (c := c1) (n := TL.length) (xs := TL.flatMap ansL) (size := 3) sZ hq1.out.2.2.1 hq1.out.1 hq1.out.2.1 hq1.out.2.2.2
          clear hA
          have hA := hB.row_shut (g := g2) (cap := capb) (c := c2) (n := T2.length) (xs := T2.flatMap ansL) (size := 3) sZ hq2.out.2.2.1 hq2.out.1 hq2.out.2.1 hq2.out.2.2.2
          clear hB
          go_roundg (gk - 1)
          case measure => omega
          case rel => exact ⟨i + 1, by simp, by omega, hA.pick pZ⟩
        · have hF := hA.facts
          (try simp only [uA] at hA); have hF := hA.facts; (try simp only [fZ] at hF)
          go_wp2_with (first | ((with_reducible refine gst ?_); refine wS hA ?_; clear hF hA; intro w1 hA; (try simp only [uA] at hA); have hF := hA.facts; (try simp only [fZ] at hF)) | ((with_reducible refine gbx ?_); refine wB hA ?_; clear hF hA; intro b1 w1 hA hb1; (try simp only [uA] at hA); have hF := hA.facts; (try simp only [fZ] at hF)))
          go_ret
          exact ⟨rfl, below_old hA sZ⟩
end Go.Proofs.YtpebabaigakagaaGreatDoor.Tab
end
