/- TabSb, joined. -/
import Derived.Test.YtpebabaigakagaaGreatDoorP33
import Derived.Test.YtpebabaigakagaaGreatDoorP34
import Derived.Test.YtpebabaigakagaaGreatDoorP35
import Derived.Test.YtpebabaigakagaaGreatDoorP40
import Derived.Test.YtpebabaigakagaaGreatDoorP38
import Derived.Test.YtpebabaigakagaaGreatDoorP27
set_option linter.unusedSimpArgs false
set_option linter.unusedVariables false
set_option maxRecDepth 100000
set_option maxHeartbeats 16000000
section
namespace Go
open _root_.Go.Proofs.YtpebabaigakagaaGreatDoor
open Go.RowKit
theorem ext_grown {w w' : World} (h : w.grownBy w' none) : Ext w w' := by
 obtain ⟨h1, h2, h3, h4, h5⟩ := h
 exact ⟨h1, h2, h3, h4, fun k hk => h5 k hk nofun⟩
section
variable {P : Program} {ops : Array Oper} {rest : List Oper} {o : Oper} {a : Act} {Q : Exit → Act → World → Prop} {L0 L F : List Part} {w0 w : World}
theorem wpList_makeRow_at {t e : TypeId} {i : TypeInfo} {z : Value} {size : Nat} {kl kc : IntKind} (hg : o.guard = none) (l c : Operand) (hop : o.op = .makeSlice t l c) (ht : P.underlying t = some (.slice e)) (hi : P.info? e = some i) (hz : i.zero = some z) (hsize : i.size = size)
 (n : Nat) (hl : a.eval l = .int kl (n : Int)) (hc : a.eval c = .int kc (n : Int)) (hbytes : i.bytes * n ≤ 281474976710656) (h63 : n ≤ maxLen) (h : At L0 w0 L w)
 (hK : ∀ b w', At L0 w0 (Part.row e size (.slice (some ⟨b, 0, none⟩) n n) n (madeCells z.cells (n * size)).toList :: L) w' → wpList P ops Q rest (a.put o.dst (.slice (some ⟨b, 0, none⟩) n n)) w') : wpList P ops Q (o :: rest) a w := by
 obtain ⟨w', h1, h2, h3⟩ := run_make_full (P := P) w w.heap.size t e i z size ht hi hz hsize kl kc n hbytes h63 (Nat.le_refl _)
 refine wpList_val hg ?_ (hK _ w' (h.row_new (ext_grown h3) h2))
 simp [execOp, hop, hl, hc, h1, Result.andThen]
end
end Go
namespace Go.Proofs.YtpebabaigakagaaGreatDoor.Tab
open Go.RowKit
open Path (bl rightB overB aboveB)
open Lease (Ses Ans fresh Turned)
open Lock (S3 Ent)
open Cmd (Cm rightC)
attribute [-go_sem] run_eql_struct run_neq_struct run_eqGuard_agg
attribute [local go_sem] guardAn neqAn
theorem made_flat {α : Type} (enc : α → List Value) (size : Nat) (hs : ∀ x, (enc x).length = size) (x : α) (z : Array Value) (hz : enc x = z.toList) (n : Nat) : (madeCells z (n * size)).toList = (List.replicate n x).flatMap enc := by
 have hzs : z.size = size := by rw [← hs x, hz]; simp
 apply List.ext_getElem?
 intro j
 by_cases hj : j < n * size
 · have hs0 : 0 < size := by
    rcases Nat.eq_zero_or_pos size with q | q
    · subst q; omega
    · exact q
   have hq : j / size < n := Nat.div_lt_of_lt_mul (by rw [Nat.mul_comm]; exact hj)
   have hm : j % size < size := Nat.mod_lt _ hs0
   have h1 := flat_at enc size hs (List.replicate n x) (j / size) x (by rw [List.getElem?_replicate, if_pos hq]) (j % size) hm
   rw [show j / size * size + j % size = j from by rw [Nat.mul_comm]; exact Nat.div_add_mod j size] at h1
   rw [h1, hz]
   simp [madeCells, hj, hzs]
   rw [getElem!_pos z _ (by rw [hzs]; exact hm)]
   rw [Array.getElem?_eq_getElem (by rw [hzs]; exact hm)]
 · rw [List.getElem?_eq_none (by simp [size_madeCells]; omega), List.getElem?_eq_none (by rw [flat_len enc size hs]; simp; omega)]
structure StopP (p : Prop) : Prop where
 out : p
def zC (z : Int) : List Value := [.int .i64 z]
abbrev ReadsZ (R : Part) (v : Value) (l : List Int) : Prop := ∀ w, R.holds w → Reads w v l.length (l.flatMap zC)
theorem cells_one (c : Cm) : ∀ u ∈ Cm.cells c, u.oneCell' = true := by
 intro u hu
 simp only [Cmd.Cm.cells, List.mem_cons, List.not_mem_nil, or_false] at hu
 rcases hu with rfl | rfl | rfl | rfl | rfl | rfl | rfl | rfl <;> rfl
theorem flat_one {α : Type} {enc : α → List Value} (h : ∀ x, ∀ u ∈ enc x, u.oneCell' = true) (l : List α) : ∀ u ∈ l.flatMap enc, u.oneCell' = true := by
 intro u hu
 obtain ⟨x, _, hx⟩ := List.mem_flatMap.1 hu
 exact h x u hx
theorem infoC8 : (Tryz.prog.info? 29).map (fun i => (i.zero, i.size, i.bytes)) = some (some (.agg #[.int .i64 0, .int .u64 0, .string .empty, .int .u64 0, .string .empty, .int .i64 0, .int .u64 0, .int .i64 0]), 8, 80) := by kernel_rfl
def atF (n i : Nat) : List Nat := (List.range i) ++ List.replicate (n - i) 0
theorem atF_len {n i : Nat} (h : i ≤ n) : (atF n i).length = n := by unfold atF; rw [List.length_append, List.length_range, List.length_replicate]; omega
theorem atF_set {n i : Nat} (h : i < n) : (atF n i).set i i = atF n (i + 1) := by
 unfold atF
 rw [List.set_append_right _ _ (by simp), List.length_range, Nat.sub_self, List.range_succ, show n - i = (n - (i + 1)) + 1 from by omega, List.replicate_succ]
 simp
theorem atF_end (n : Nat) : atF n n = List.range n := by unfold atF; simp
abbrev rowM (n : Nat) (v : Value) (m : List Cm) : Part := Part.row 29 8 v n (m.flatMap Cm.cells)
abbrev rowK (n : Nat) (v : Value) (ks : List Nat) : Part := Part.row 3 1 v n (ks.flatMap iC)
def MkRel (w : World) (l : List Cm) (vm vk av : Value) (TL : List Ans) (t p m : Nat) (ss : List Ses) (b : Lock.Bk) (k : Nat) (u : Value) (wr : World) : Prop :=
 ∃ i : Nat, u = .int .i64 i ∧ i + k = l.length ∧ At [Part.old w] w [rowK l.length vk (atF l.length i), rowM l.length vm l, rowAn av TL, TabP t p m ss b, Part.old w] wr
theorem reads_z {w : World} {bx : Option Addr} {n bcap i : Nat} {zs : List Int} {z : Int} (h : Reads w (.slice bx n bcap) zs.length (zs.flatMap zC)) (hz : zs[i]? = some z) : ∃ c0 d0, bx = some ⟨c0, d0, none⟩ ∧ w.cell? ⟨c0, d0 + i, none⟩ = some (.int .i64 z) := by
 obtain ⟨ax2, c2, e2, _, hr2⟩ := h
 cases e2
 have hf := flat_at zC 1 (fun _ => rfl) zs i _ hz 0 (by omega)
 obtain ⟨b0, o0, e3, h4⟩ := hr2 (i * 1 + 0) _ hf
 refine ⟨b0, o0, e3, ?_⟩
 rw [Nat.mul_one, Nat.add_zero] at h4
 exact h4
theorem take_cells {α : Type} {enc : α → List Value} {size : Nat} (hs : ∀ x, (enc x).length = size) {c : List Value} {l : List α} (ht : c.take (l.length * size) = l.flatMap enc) {k : Nat} {x : α} (hx : l[k]? = some x) : (c.drop (k * size)).take size = enc x := by
 apply List.ext_getElem?
 intro j
 by_cases hj : j < size
 · rw [List.getElem?_take_of_lt hj, List.getElem?_drop]
   exact cells_at hs ht hx j hj
 · rw [List.getElem?_take_eq_none (by omega), List.getElem?_eq_none (by rw [hs]; omega)]
theorem swap_cells {α : Type} {enc : α → List Value} {size : Nat} (hs : ∀ x, (enc x).length = size) {c : List Value} {l : List α} {q : Nat} {x y : α} (ht : c.take (l.length * size) = l.flatMap enc) (hx : l[q]? = some x) (hy : l[q + 1]? = some y) :
 (setL (setL c (q * size) (enc y)) ((q + 1) * size) (enc x)).take (l.length * size) = (swN l q).flatMap enc := by
 have h1 := (List.getElem?_eq_some_iff.1 hx).1
 have h2 := (List.getElem?_eq_some_iff.1 hy).1
 have h3 := write_row hs ht h1 y
 have h4 := write_row hs h3 (i := q + 1) (by rw [List.length_set]; exact h2) x
 rw [List.length_set, List.length_set] at h4
 rw [h4]
 unfold swN
 rw [hx, hy]
def CmRel (w : World) (vk a1 a2 : Value) (n : Nat) (ks : List Nat) (T1 T2 : List Ans) (A B : Part) (k : Nat) (u : Value) (wr : World) : Prop :=
 ∃ i : Nat, u = .int .i64 i ∧ i + k = n ∧ At [Part.old w] w [rowAn a2 T2, rowAn a1 T1, rowK n vk ks, A, B, Part.old w] wr
def SwRel (w : World) (T0 : TS) (l : List Cm) (vm vk av : Value) (TL : List Ans) (t p m : Nat) (ss : List Ses) (b : Lock.Bk) (n : Nat) (k : Nat) (u : Value) (wr : World) : Prop :=
 ∃ (i : Nat) (ms : List Cm) (ks : List Nat), u = .int .i64 i ∧ i + k = n ∧ SwOk T0 l ms ks ∧ At [Part.old w] w [rowK l.length vk ks, rowM l.length vm ms, rowAn av TL, TabP t p m ss b, Part.old w] wr
theorem sorts_law {w : World} {ax : Option Addr} {cap : Nat} {l : List Cm} (hr : ReadsC (Part.old w) (.slice ax l.length cap) l) (hcm : cap ≤ maxLen) (hcap : l.length ≤ cap) (hv : ∀ c ∈ l, CmV c) {first : Int} (f0 : 0 ≤ first) (f1 : first < Lock.big64) {v2 : Value} {zs : List Int} (hz : ReadsZ (Part.old w) v2 zs) (hzl : zs.length ≤ maxLen) :
 Calls Tryz.prog 7 #[.int .u64 first, .slice ax l.length cap, v2] w fun e w' => e = .returned (.bool true) ∧ Below w.heap.size w w' := by
 have hm : Tryz.prog.follows .mixedOrders = true := by kernel_rfl
 obtain ⟨i0, hi0, hz0, hz1, hz2⟩ := info_parts infoC8
 obtain ⟨j0, hj0, hy0, hy1, hy2⟩ := info_parts infoI
 have hA : At [Part.old w] w [Part.old w] w := At.start ⟨fun _ _ => rfl, trivial, nofun⟩
 have hsm := fun (w1 : World) (q : Sep [Part.old w] w1) => small_any q hr (by unfold maxLen at hcm; omega) (fun c hc => ⟨(hv c hc).path, (hv c hc).foot⟩) 40
 have hpl := fun (hs : smallB l 40 = true) (w1 : World) (q : Sep [Part.old w] w1) => play_any q f0 f1 hr (by have := (small_in (k := 40) hs hv).1; omega) (small_in (k := 40) hs hv).2
 have hin := fun (hs : smallB l 40 = true) => small_in (k := 40) hs hv
 obtain ⟨bx, bcap, rfl, _, _⟩ := hz w (hA.get .here)
 obtain ⟨sb, hsb⟩ : ∃ z, smallB l 40 = z := ⟨_, rfl⟩
 rw [hsb] at hsm hpl hin
 have hsm' := Lib.hid hsm
 have hpl' := Lib.hid hpl
 have hin' := Lib.hid hin
 have hr' := Lib.hid hr
 have hz' := Lib.hid hz
 clear hsm hpl hin hsb hv hr hz
 have hF := hA.facts; (try simp only [uZ] at hA hF)
 go_enter Tryz.func7, Tryz.ntmps7
 go_wp2_with fail
 refine (anchor_any _).mono ?_
 rintro e w1 ⟨rfl, hx⟩
 have hB := hA.ext hx
 clear hx
 clear hF hA; have hA := hB; clear hB
 try simp only [uA] at hA
 have hF := hA.facts; (try simp only [uZ] at hA hF)
 go_wp2_with fail
 refine (hsm'.out _ (hA.sep1 (A := Part.old w) sZ)).mono ?_
 rintro e w1 ⟨rfl, hT⟩
 have hB := hA.call1 (A := Part.old w) sZ hT
 clear hT
 clear hF hA; have hA := hB; clear hB
 try simp only [uA] at hA
 have hF := hA.facts; (try simp only [uZ] at hA hF)
 clear hsm'
 cases sb
 · go_wp2_with fail
   go_ret
   exact ⟨rfl, below_old hA sZ⟩
 obtain ⟨hl40, hinl⟩ := hin'.out (by simp)
 have hinl' := Lib.hid hinl
 clear hin' hinl
 by_cases hzq : (200 : Int) < (zs.length : Int)
 · go_wp2_with fail
   go_ret
   exact ⟨rfl, below_old hA sZ⟩
 go_wp2_with fail
 refine (hpl'.out (by simp) _ (hA.sep1 (A := Part.old w) sZ)).mono ?_
 rintro e w1 ⟨t, p, m, ss, b, av, rfl, hR, hT⟩
 have hB := hA.call1 (A := Part.old w) sZ hT
 clear hT
 clear hF hA; have hA := hB; clear hB
 try simp only [uA] at hA
 have hF := hA.facts; (try simp only [uZ] at hA hF)
 clear hpl'
 have hg0 := (good_new f0 f1)
 have hs0 := play_all (l := l) (fun x hx => ⟨(hinl'.out x hx).ok, (hinl'.out x hx).r0, (hinl'.out x hx).r1⟩) hg0 (by intro s hs; cases hs)
 have htl := told_len l ⟨[], ⟨first, [], []⟩⟩
 obtain ⟨axa, capa, rfl, _, _, _⟩ := hA.row_form (e := 48) (size := 3) (v := av) (n := (toldT ⟨[], ⟨first, [], []⟩⟩ l).length) (xs := (toldT ⟨[], ⟨first, [], []⟩⟩ l).flatMap ansL) sZ
 have htl' := Lib.hid htl
 clear htl
 have hF := hA.facts; (try simp only [uZ] at hA hF)
 go_wp2_with (first
  | ((with_reducible show wpList _ _ _ ({ dst := some 34, op := Op.buildSlice _ _ _, type := _, pos := _, after := _, guard := _ } :: _) _ _); refine wpList_zero_at (e := 29) 8 rfl rfl (fun _ => by kernel_rfl) hA ?_; intro b34 w1 hB; clear hF hA; have hA := hB; clear hB; have hF := hA.facts; (try simp only [uZ] at hA hF))
  | ((with_reducible show wpList _ _ _ ({ dst := some 36, op := Op.call { callee := Callee.builtin Builtin.append, args := _, argTypes := _ }, type := _, pos := _, after := _, guard := _ } :: _) _ _); refine wpList_append_at (e := 29) (size := 8) (v := .slice (some ⟨b34, 0, none⟩) 0 0) (xs := []) (n := 0) (m := l.length) (news := l.flatMap Cm.cells) rfl _ _ 23 rfl Tryz.underlying23 hi0 hz0 hz1 hz2 rfl (by omega) hA sZ (by (try simp only [Act.eval, eV]) <;> exact rfl) (by (try simp only [Act.eval, eV]) <;> exact rfl) (flat_len Cm.cells 8 (fun _ => rfl) l) (hr'.out _ (hA.get (A := Part.old w) sZ)) (flat_one cells_one _) (by unfold maxLen; omega) (by omega) ?_; intro vm w1 hB; rw [Nat.zero_add, List.nil_append] at hB; clear hF hA; have hA := hB; clear hB; have hF := hA.facts; (try simp only [uZ] at hA hF))
  | ((with_reducible show wpList _ _ _ ({ dst := some 39, op := Op.makeSlice _ _ _, type := _, pos := _, after := _, guard := _ } :: _) _ _); refine wpList_makeRow_at (e := 3) rfl (.tmp 38) (.tmp 38) rfl Tryz.underlying57 hj0 hy0 hy1 l.length (by exact rfl) (by exact rfl) (by rw [hy2]; omega) (by unfold maxLen; omega) hA ?_; intro bk w1 hB; clear hF hA; have hA := hB; clear hB; have hF := hA.facts; (try simp only [uZ] at hA hF))
  | ((with_reducible refine gst ?_); refine wT hA ?_; clear hF hA; intro w1 hA hF; (try simp only [uZ] at hA hF)) | ((with_reducible refine gbx ?_); refine wC hA ?_; clear hF hA; intro b1 w1 hA hb1 hF; (try simp only [uZ] at hA hF)))
 try go_frame
 have hmk : (madeCells (Value.int .i64 0).cells (l.length * 1)).toList = (atF l.length 0).flatMap iC := by
  refine (made_flat iC 1 (fun _ => rfl) 0 (Value.int .i64 0).cells rfl l.length).trans ?_
  unfold atF
  simp
 rw [hmk] at hA
 clear hmk
 go_loopg [42] l.length (MkRel w l vm (.slice (some ⟨bk, 0, none⟩) l.length l.length) (.slice axa (toldT ⟨[], ⟨first, [], []⟩⟩ l).length capa) (toldT ⟨[], ⟨first, [], []⟩⟩ l) t p m ss b)
 case atStart => exact ⟨0, rfl, by omega, hA.pick pZ⟩
 case round =>
  obtain ⟨i, rfl, hik, hB⟩ := hrel
  clear hF hA; have hA := hB; clear hB
  by_cases hi : i < l.length
  · obtain ⟨g, c, hax, hcp, hcx, hcl, hct, hB⟩ := hA.row_open (e := 3) (size := 1) .here (by omega)
    cases hax
    have hnew := write_row (enc := iC) (size := 1) (fun _ => rfl) (l := atF l.length i) (by rw [atF_len (by omega)]; exact hct) (i := i) (by rw [atF_len (by omega)]; exact hi) i
    rw [atF_set hi, atF_len (by omega)] at hnew
    rw [Nat.mul_one i] at hnew
    have hnew' := Lib.hid hnew
    clear hA hct hnew; have hA := hB; clear hB
    have hF := hA.facts; (try simp only [uZ] at hA hF)
    go_wp2_with ((with_reducible show wpList _ _ _ ({ dst := none, op := Op.store _ _ _, type := _, pos := _, after := _, guard := _ } :: _) _ _); refine wpList_store_at (b := bk) (j := i) (c := c) (vs := iC i) rfl rfl (by (try simp only [Act.eval, eV]) <;> exact rfl) (by (try simp only [Act.eval, eV]) <;> exact rfl) (by exact rfl) hA sZ (by kernel_rfl) rfl (by show i + 1 ≤ c.length; omega) ?_; intro w1 hB; clear hF hA; have hA := hB; clear hB; have hF := hA.facts; have hF := hA.facts; (try simp only [uZ] at hA hF))
    have hB := hA.row_shut (e := 3) (size := 1) (n := l.length) (cap := l.length) sZ (by rw [setL_length, hcl]) hcp hcx hnew'.out
    clear hF hA; have hA := hB; clear hB
    go_roundg (gk - 1)
    case measure => omega
    case rel => exact ⟨i + 1, by simp, by omega, hA.pick pZ⟩
  · obtain rfl : i = l.length := by omega
    rw [atF_end] at hA
    clear hi hik
    have hF := hA.facts; (try simp only [uZ] at hA hF)
    go_wp2_with fail
    try go_frame
    go_loopg [52] zs.length (SwRel w ⟨[], ⟨first, [], []⟩⟩ l vm (.slice (some ⟨bk, 0, none⟩) l.length l.length) (.slice axa (toldT ⟨[], ⟨first, [], []⟩⟩ l).length capa) (toldT ⟨[], ⟨first, [], []⟩⟩ l) t p m ss b zs.length)
    case atStart => exact ⟨0, l, List.range l.length, rfl, by omega, SwOk.start _ _, hA.pick pZ⟩
    case round =>
     obtain ⟨i, ms, ks, rfl, hik, hsw, hB⟩ := hrel
     have hsw' := Lib.hid hsw
     clear hF hA hsw; have hA := hB; clear hB
     obtain ⟨axm, capm, rfl, _, _, _⟩ := hA.row_form (e := 29) (size := 8) (v := vm) (n := l.length) (xs := ms.flatMap Cm.cells) sZ
     by_cases hi : i < zs.length
     · obtain ⟨z, hzi⟩ : ∃ z, zs[i]? = some z := ⟨_, List.getElem?_eq_getElem hi⟩
       obtain ⟨bz, oz, rfl, hce⟩ := reads_z (hz'.out _ (hA.get (A := Part.old w) sZ)) hzi
       clear hzi
       have hF := hA.facts; (try simp only [uZ] at hA hF)
       by_cases hz0 : z < 0
       · have hz1 : decide (z < 0) = true := decide_eq_true hz0
         go_upto_region 16 with fail
         try go_frame
         (refine cA hA ?_); (have hn1 := Cl.none hA); (have hn2 := Cl.none2 hA); (repeat (first | go_big_quiet_skip | (go_big_quiet_want; (first | (refine qM 29 8 ?_; go_frame; go_big_quiet_on) | (refine qL ?_; go_frame; go_big_quiet_on) | (go_big_quiet_op; (first | go_big_quiet_on))))))
         (refine wpQuiet_nil ?_); (intro w1 hB); (clear hF hA hn1 hn2); (have hA := Cl.out hB); (clear hB); have hF := hA.facts; (try simp only [uZ] at hA hF)
         go_wp2_with fail
         go_roundg (gk - 1)
         case measure => omega
         case rel => exact ⟨i + 1, ms, ks, by simp, by omega, hsw'.out, hA.pick pZ⟩
       obtain ⟨q, rfl⟩ : ∃ q : Nat, z = q := ⟨z.toNat, by omega⟩
       clear hz0
       have hz1 : decide ((q : Int) < 0) = false := decide_eq_false (by omega)
       by_cases hq : q + 1 < l.length
       · have hq1 : decide ((l.length : Int) - 1 ≤ (q : Int)) = false := decide_eq_false (by omega)
         have hml := hsw'.out.lenl
         have hkl := hsw'.out.len
         obtain ⟨x, hx⟩ : ∃ x, ms[q]? = some x := ⟨_, List.getElem?_eq_getElem (by omega)⟩
         obtain ⟨y, hy⟩ : ∃ y, ms[q + 1]? = some y := ⟨_, List.getElem?_eq_getElem (by omega)⟩
         have okx := hinl'.out x (hsw'.out.mem x (List.mem_of_getElem? hx))
         have oky := hinl'.out y (hsw'.out.mem y (List.mem_of_getElem? hy))
         have hcl := fun w => Cmd.clashC_any x y w (Nat.le_trans okx.ok.foot (by show (100 : Nat) ≤ 1000; omega)) (Nat.le_trans okx.ok.path (by show (100 : Nat) ≤ 1000; omega)) (Nat.le_trans oky.ok.foot (by show (100 : Nat) ≤ 1000; omega)) (Nat.le_trans oky.ok.path (by show (100 : Nat) ≤ 1000; omega))
         rw [clash_same] at hcl
         obtain ⟨gm, cm, hax, hcp, hcx, hlm, htm, hB⟩ := hA.row_open (e := 29) (size := 8) (ax := axm) (cap := capm) (n := l.length) (xs := ms.flatMap Cm.cells) sZ (by omega)
         cases hax
         clear hA; have hA := hB; clear hB
         rw [← hml] at htm
         have e1 : (cm.drop (q * 8)).take 8 = Cm.cells x := take_cells (enc := Cm.cells) (size := 8) (fun _ => rfl) htm hx
         have e2 : (cm.drop ((q + 1) * 8)).take 8 = Cm.cells y := take_cells (enc := Cm.cells) (size := 8) (fun _ => rfl) htm hy
         have hnew := Lib.hid (swap_cells (enc := Cm.cells) (size := 8) (fun _ => rfl) htm hx hy)
         have hq' := Lib.hid (⟨hcp, hcx, hlm, htm⟩ : _ ∧ _ ∧ _ ∧ _)
         obtain ⟨cl, hcb⟩ : ∃ z, clashK x y = z := ⟨_, rfl⟩
         have hnx := Lib.hid (fun (h : cl = false) => hsw'.out.step hg0 (fun c hc => (hinl'.out c hc).ok) hx hy (hcb.trans h))
         rw [hcb] at hcl
         have hx' := Lib.hid hx
         have hy' := Lib.hid hy
         clear htm hcp hcx okx oky hcb hx hy
         obtain ⟨kx, nx, fx, rx, px, mx, nnx, tx⟩ := x
         obtain ⟨ky, ny, fy, ry, py, my, nny, ty⟩ := y
         simp only [Cmd.Cm.val] at hcl
         simp only [Cmd.Cm.cells] at e1 e2
         have hcl' := Lib.hid hcl
         have hml' := Lib.hid hml
         have hkl' := Lib.hid hkl
         clear hcl hml hkl
         have hF := hA.facts; (try simp only [uZ] at hA hF)
         go_upto_region 16 with fail
         try go_frame
         (refine cA hA ?_); (have hn1 := Cl.none hA); (have hn2 := Cl.none2 hA); (repeat (first | go_big_quiet_skip | (go_big_quiet_want; (first | (refine qM 29 8 ?_; go_frame; go_big_quiet_on) | (refine qL ?_; go_frame; go_big_quiet_on) | (go_big_quiet_op; (first | go_big_quiet_on | ((apply Exists.intro); (refine ⟨fun w1 hw => ?_, ?_⟩); (focus ((have hw := Cl.out hw); (exact Cmd.through0 hw (hcl'.out _)))); (go_big_quiet_on))))))))
         (refine wpQuiet_nil ?_); (intro w1 hB); (clear hF hA hn1 hn2); (have hA := Cl.out hB); (clear hB); have hF := hA.facts; (try simp only [uZ] at hA hF)
         clear hcl'
         cases cl
         · have hsn := Lib.hid (hnx.out rfl)
           have hwr : IntKind.i64.wrap ((q : Int) + 1) = (q : Int) + 1 := by rw [IntKind.wrap_i64] <;> omega
           clear hnx
           have hF := hA.facts; (try simp only [uZ] at hA hF)
           go_upto_region 17 with fail
           try go_frame
           have hB := hA.drew
           clear hF hA; have hA := hB; clear hB
           refine wp_region_held (S := fun _ => True) hm ?_
           change wpAnyH _ _ _ _ _ 18 _ _ (World.drew _)
           generalize World.drew _ = w2 at *
           refine tZ 0 77 (.slice (some ⟨gm, 0, none⟩) l.length capm) (r := (fun w' hS => by simp [execOp, go_sem, Act.eval, Act.put])) (s := trivial) (h := ?_)
           go_frame
           refine tZ 1 78 (.int .i64 q) (r := (fun w' hS => by simp [execOp, go_sem, Act.eval, Act.put])) (s := trivial) (h := ?_)
           go_frame
           refine tZ 2 79 (.slice (some ⟨gm, 0, none⟩) l.length capm) (r := (fun w' hS => by simp [execOp, go_sem, Act.eval, Act.put])) (s := trivial) (h := ?_)
           go_frame
           refine tZ 3 80 (.int .i64 q) (r := (fun w' hS => by simp [execOp, go_sem, Act.eval, Act.put])) (s := trivial) (h := ?_)
           go_frame
           refine tZ 4 81 (.int .i64 ((q : Int) + 1)) (r := (fun w' hS => by simp [execOp, go_sem, Act.eval, Act.put, hwr])) (s := trivial) (h := ?_)
           go_frame
           refine tZ 5 82 (.slice (some ⟨gm, 0, none⟩) l.length capm) (r := (fun w' hS => by simp [execOp, go_sem, Act.eval, Act.put])) (s := trivial) (h := ?_)
           go_frame
           refine tZ 6 83 (.int .i64 q) (r := (fun w' hS => by simp [execOp, go_sem, Act.eval, Act.put])) (s := trivial) (h := ?_)
           go_frame
           refine tZ 7 84 (.int .i64 ((q : Int) + 1)) (r := (fun w' hS => by simp [execOp, go_sem, Act.eval, Act.put, hwr])) (s := trivial) (h := ?_)
           go_frame
           refine tZ 8 85 (.pointer (some ⟨gm, (q + 1) * 8, none⟩)) (r := (fun w' hS => by simp [execOp, go_sem, Act.eval, Act.put]; intro h; have := h (by omega); omega)) (s := trivial) (h := ?_)
           go_frame
           refine tZ 10 87 (.slice (some ⟨gm, 0, none⟩) l.length capm) (r := (fun w' hS => by simp [execOp, go_sem, Act.eval, Act.put])) (s := trivial) (h := ?_)
           go_frame
           refine tZ 11 88 (.int .i64 q) (r := (fun w' hS => by simp [execOp, go_sem, Act.eval, Act.put])) (s := trivial) (h := ?_)
           go_frame
           refine tZ 12 89 (.pointer (some ⟨gm, q * 8, none⟩)) (r := (fun w' hS => by simp [execOp, go_sem, Act.eval, Act.put]; intro h; omega)) (s := trivial) (h := ?_)
           go_frame
           refine wpAnyH_two (i := 9) (j := 13) (by kernel_rfl) ?_ ?_
           · refine opLoadRow_at (d := some 86) (n := 8) (b := gm) (j := (q + 1) * 8) (vs := [.int .i64 ky, .int .u64 ny, .string fy, .int .u64 ry, .string py, .int .i64 my, .int .u64 nny, .int .i64 ty]) rfl rfl (by kernel_rfl) rfl (by exact rfl) hA .here (by kernel_rfl) (by kernel_rfl) e2 rfl ?_
             refine ⟨trivial, ?_⟩
             go_frame
             refine wpAnyH_one (i := 13) (by kernel_rfl) ?_
             refine opLoadRow_at (d := some 90) (n := 8) (b := gm) (j := q * 8) (vs := [.int .i64 kx, .int .u64 nx, .string fx, .int .u64 rx, .string px, .int .i64 mx, .int .u64 nnx, .int .i64 tx]) rfl rfl (by kernel_rfl) rfl (by exact rfl) hA .here (by kernel_rfl) (by kernel_rfl) e1 rfl ?_
             refine ⟨trivial, ?_⟩
             go_frame
             refine tZ 14 91 (.pointer (some ⟨gm, q * 8, none⟩)) (r := (fun w' hS => by simp [execOp, go_sem, Act.eval, Act.put]; intro h; omega)) (s := trivial) (h := ?_)
             go_frame
             refine wpAnyH_one (i := 15) (by kernel_rfl) ?_
             refine opStore_at (b := gm) (j := q * 8) (vs := [.int .i64 ky, .int .u64 ny, .string fy, .int .u64 ry, .string py, .int .i64 my, .int .u64 nny, .int .i64 ty]) rfl rfl (by kernel_rfl) rfl (by exact rfl) (by exact rfl) rfl hA .here (by kernel_rfl) rfl (by show q * 8 + 8 ≤ _; rw [hq'.out.2.2.1]; omega) ?_
             intro w3 hB
             clear hA; have hA := hB; clear hB
             refine ⟨trivial, ?_⟩
             go_frame
             refine tZ 16 92 (.pointer (some ⟨gm, (q + 1) * 8, none⟩)) (r := (fun w' hS => by simp [execOp, go_sem, Act.eval, Act.put]; intro h; have := h (by omega); omega)) (s := trivial) (h := ?_)
             go_frame
             refine wpAnyH_one (i := 17) (by kernel_rfl) ?_
             refine opStore_at (b := gm) (j := (q + 1) * 8) (vs := [.int .i64 kx, .int .u64 nx, .string fx, .int .u64 rx, .string px, .int .i64 mx, .int .u64 nnx, .int .i64 tx]) rfl rfl (by kernel_rfl) rfl (by exact rfl) (by exact rfl) rfl hA .here (by kernel_rfl) rfl (by show (q + 1) * 8 + 8 ≤ _; rw [setL_length, hq'.out.2.2.1]; omega) ?_
             intro w4 hB
             clear hA; have hA := hB; clear hB
             refine ⟨trivial, ?_⟩
             go_frame
             refine wpAnyH_done (by kernel_rfl) ?_ _
             try go_frame
             have hB := hA.row_shut (g := gm) (cap := capm) (n := l.length) (xs := (swN ms q).flatMap Cm.cells) (size := 8) .here (by rw [setL_length, setL_length]; exact hq'.out.2.2.1) hq'.out.1 hq'.out.2.1 (by rw [← hml'.out]; exact hnew.out)
             clear hA; have hA := hB; clear hB
             obtain ⟨g3, ck, hax, hcp, hcx, hlk, htk, hB⟩ := hA.row_open (e := 3) (size := 1) (ax := some ⟨bk, 0, none⟩) (cap := l.length) (n := l.length) (xs := ks.flatMap iC) sZ (by omega)
             cases hax
             clear hA; have hA := hB; clear hB
             rw [show l.length = ks.length from by rw [hkl'.out, hml'.out]] at htk
             obtain ⟨va, hva⟩ : ∃ z, ks[q]? = some z := ⟨_, List.getElem?_eq_getElem (by rw [hkl'.out, hml'.out]; omega)⟩
             obtain ⟨vb, hvb⟩ : ∃ z, ks[q + 1]? = some z := ⟨_, List.getElem?_eq_getElem (by rw [hkl'.out, hml'.out]; omega)⟩
             have ha1 := Lib.hid (cells_at (enc := iC) (size := 1) (fun _ => rfl) htk hva 0 (by omega))
             have hb1 := Lib.hid (cells_at (enc := iC) (size := 1) (fun _ => rfl) htk hvb 0 (by omega))
             rw [Nat.mul_one, Nat.add_zero] at ha1 hb1
             have hnk := swap_cells (enc := iC) (size := 1) (fun _ => rfl) htk hva hvb
             rw [Nat.mul_one, Nat.mul_one, Nat.mul_one] at hnk
             have hnk' := Lib.hid hnk
             have hk4 := Lib.hid (⟨hcp, hcx, hlk⟩ : _ ∧ _ ∧ _)
             clear hnk htk hva hvb hcp hcx hlk
             have hF := hA.facts; (try simp only [uZ] at hA hF)
             go_upto_region 18 with fail
             try go_frame
             have hB := hA.drew
             clear hF hA; have hA := hB; clear hB
             refine wp_region_held (S := fun _ => True) hm ?_
             change wpAnyH _ _ _ _ _ 18 _ _ (World.drew _)
             generalize World.drew _ = w2 at *
             refine tZ 0 93 (.slice (some ⟨bk, 0, none⟩) l.length l.length) (r := (fun w' hS => by simp [execOp, go_sem, Act.eval, Act.put])) (s := trivial) (h := ?_)
             go_frame
             refine tZ 1 94 (.int .i64 q) (r := (fun w' hS => by simp [execOp, go_sem, Act.eval, Act.put])) (s := trivial) (h := ?_)
             go_frame
             refine tZ 2 95 (.slice (some ⟨bk, 0, none⟩) l.length l.length) (r := (fun w' hS => by simp [execOp, go_sem, Act.eval, Act.put])) (s := trivial) (h := ?_)
             go_frame
             refine tZ 3 96 (.int .i64 q) (r := (fun w' hS => by simp [execOp, go_sem, Act.eval, Act.put])) (s := trivial) (h := ?_)
             go_frame
             refine tZ 4 97 (.int .i64 ((q : Int) + 1)) (r := (fun w' hS => by simp [execOp, go_sem, Act.eval, Act.put, hwr])) (s := trivial) (h := ?_)
             go_frame
             refine tZ 5 98 (.slice (some ⟨bk, 0, none⟩) l.length l.length) (r := (fun w' hS => by simp [execOp, go_sem, Act.eval, Act.put])) (s := trivial) (h := ?_)
             go_frame
             refine tZ 6 99 (.int .i64 q) (r := (fun w' hS => by simp [execOp, go_sem, Act.eval, Act.put])) (s := trivial) (h := ?_)
             go_frame
             refine tZ 7 100 (.int .i64 ((q : Int) + 1)) (r := (fun w' hS => by simp [execOp, go_sem, Act.eval, Act.put, hwr])) (s := trivial) (h := ?_)
             go_frame
             refine tZ 8 101 (.pointer (some ⟨bk, q + 1, none⟩)) (r := (fun w' hS => by simp [execOp, go_sem, Act.eval, Act.put]; intro h; have := h (by omega); omega)) (s := trivial) (h := ?_)
             go_frame
             refine tZ 10 103 (.slice (some ⟨bk, 0, none⟩) l.length l.length) (r := (fun w' hS => by simp [execOp, go_sem, Act.eval, Act.put])) (s := trivial) (h := ?_)
             go_frame
             refine tZ 11 104 (.int .i64 q) (r := (fun w' hS => by simp [execOp, go_sem, Act.eval, Act.put])) (s := trivial) (h := ?_)
             go_frame
             refine tZ 12 105 (.pointer (some ⟨bk, q, none⟩)) (r := (fun w' hS => by simp [execOp, go_sem, Act.eval, Act.put]; intro h; omega)) (s := trivial) (h := ?_)
             go_frame
             refine wpAnyH_two (i := 9) (j := 13) (by kernel_rfl) ?_ ?_
             · refine wpOp_val rfl (by kernel_rfl) (v := .int .i64 vb) (w' := w2) (by have hc : w2.cell? ⟨bk, q + 1, none⟩ = some (.int .i64 vb) := ((hA.get (A := Part.cells bk ck 3) .here : BlockIs _ _ _ _).cell (q + 1)).trans hb1.out; simp [execOp, go_sem, Act.eval, Act.put, hc]) ?_
               refine ⟨trivial, ?_⟩
               go_frame
               refine wpAnyH_one (i := 13) (by kernel_rfl) ?_
               refine wpOp_val rfl (by kernel_rfl) (v := .int .i64 va) (w' := w2) (by have hc : w2.cell? ⟨bk, q, none⟩ = some (.int .i64 va) := ((hA.get (A := Part.cells bk ck 3) .here : BlockIs _ _ _ _).cell (q)).trans ha1.out; simp [execOp, go_sem, Act.eval, Act.put, hc]) ?_
               refine ⟨trivial, ?_⟩
               go_frame
               refine tZ 14 107 (.pointer (some ⟨bk, q, none⟩)) (r := (fun w' hS => by simp [execOp, go_sem, Act.eval, Act.put]; intro h; omega)) (s := trivial) (h := ?_)
               go_frame
               refine wpAnyH_one (i := 15) (by kernel_rfl) ?_
               refine opStore_at (b := bk) (j := q) (vs := iC vb) rfl rfl (by kernel_rfl) rfl (by exact rfl) (by exact rfl) rfl hA .here (by kernel_rfl) rfl (by show q + 1 ≤ _; rw [hk4.out.2.2]; omega) ?_
               intro w3 hB
               clear hA; have hA := hB; clear hB
               refine ⟨trivial, ?_⟩
               go_frame
               refine tZ 16 108 (.pointer (some ⟨bk, q + 1, none⟩)) (r := (fun w' hS => by simp [execOp, go_sem, Act.eval, Act.put]; intro h; have := h (by omega); omega)) (s := trivial) (h := ?_)
               go_frame
               refine wpAnyH_one (i := 17) (by kernel_rfl) ?_
               refine opStore_at (b := bk) (j := q + 1) (vs := iC va) rfl rfl (by kernel_rfl) rfl (by exact rfl) (by exact rfl) rfl hA .here (by kernel_rfl) rfl (by show q + 1 + 1 ≤ _; rw [setL_length, hk4.out.2.2]; omega) ?_
               intro w4 hB
               clear hA; have hA := hB; clear hB
               refine ⟨trivial, ?_⟩
               go_frame
               refine wpAnyH_done (by kernel_rfl) ?_ _
               try go_frame
               have hB := hA.row_shut (g := bk) (cap := l.length) (n := l.length) (xs := (swN ks q).flatMap iC) (size := 1) .here (by rw [setL_length, setL_length]; exact hk4.out.2.2) hk4.out.1 hk4.out.2.1 (by rw [Nat.mul_one]; rw [hkl'.out, hml'.out] at hnk'; exact hnk'.out)
               clear hA; have hA := hB; clear hB
               have hF := hA.facts; (try simp only [uZ] at hA hF)
               go_wp2_with fail
               go_roundg (gk - 1)
               case measure => omega
               case rel => exact ⟨i + 1, swN ms q, swN ks q, by simp, by omega, hsn.out, hA.pick pZ⟩
             · refine wpOp_val rfl (by kernel_rfl) (v := .int .i64 va) (w' := w2) (by have hc : w2.cell? ⟨bk, q, none⟩ = some (.int .i64 va) := ((hA.get (A := Part.cells bk ck 3) .here : BlockIs _ _ _ _).cell (q)).trans ha1.out; simp [execOp, go_sem, Act.eval, Act.put, hc]) ?_
               refine ⟨trivial, ?_⟩
               go_frame
               refine wpAnyH_one (i := 9) (by kernel_rfl) ?_
               refine wpOp_val rfl (by kernel_rfl) (v := .int .i64 vb) (w' := w2) (by have hc : w2.cell? ⟨bk, q + 1, none⟩ = some (.int .i64 vb) := ((hA.get (A := Part.cells bk ck 3) .here : BlockIs _ _ _ _).cell (q + 1)).trans hb1.out; simp [execOp, go_sem, Act.eval, Act.put, hc]) ?_
               refine ⟨trivial, ?_⟩
               go_frame
               refine tZ 14 107 (.pointer (some ⟨bk, q, none⟩)) (r := (fun w' hS => by simp [execOp, go_sem, Act.eval, Act.put]; intro h; omega)) (s := trivial) (h := ?_)
               go_frame
               refine wpAnyH_one (i := 15) (by kernel_rfl) ?_
               refine opStore_at (b := bk) (j := q) (vs := iC vb) rfl rfl (by kernel_rfl) rfl (by exact rfl) (by exact rfl) rfl hA .here (by kernel_rfl) rfl (by show q + 1 ≤ _; rw [hk4.out.2.2]; omega) ?_
               intro w3 hB
               clear hA; have hA := hB; clear hB
               refine ⟨trivial, ?_⟩
               go_frame
               refine tZ 16 108 (.pointer (some ⟨bk, q + 1, none⟩)) (r := (fun w' hS => by simp [execOp, go_sem, Act.eval, Act.put]; intro h; have := h (by omega); omega)) (s := trivial) (h := ?_)
               go_frame
               refine wpAnyH_one (i := 17) (by kernel_rfl) ?_
               refine opStore_at (b := bk) (j := q + 1) (vs := iC va) rfl rfl (by kernel_rfl) rfl (by exact rfl) (by exact rfl) rfl hA .here (by kernel_rfl) rfl (by show q + 1 + 1 ≤ _; rw [setL_length, hk4.out.2.2]; omega) ?_
               intro w4 hB
               clear hA; have hA := hB; clear hB
               refine ⟨trivial, ?_⟩
               go_frame
               refine wpAnyH_done (by kernel_rfl) ?_ _
               try go_frame
               have hB := hA.row_shut (g := bk) (cap := l.length) (n := l.length) (xs := (swN ks q).flatMap iC) (size := 1) .here (by rw [setL_length, setL_length]; exact hk4.out.2.2) hk4.out.1 hk4.out.2.1 (by rw [Nat.mul_one]; rw [hkl'.out, hml'.out] at hnk'; exact hnk'.out)
               clear hA; have hA := hB; clear hB
               have hF := hA.facts; (try simp only [uZ] at hA hF)
               go_wp2_with fail
               go_roundg (gk - 1)
               case measure => omega
               case rel => exact ⟨i + 1, swN ms q, swN ks q, by simp, by omega, hsn.out, hA.pick pZ⟩
           · refine opLoadRow_at (d := some 90) (n := 8) (b := gm) (j := q * 8) (vs := [.int .i64 kx, .int .u64 nx, .string fx, .int .u64 rx, .string px, .int .i64 mx, .int .u64 nnx, .int .i64 tx]) rfl rfl (by kernel_rfl) rfl (by exact rfl) hA .here (by kernel_rfl) (by kernel_rfl) e1 rfl ?_
             refine ⟨trivial, ?_⟩
             go_frame
             refine wpAnyH_one (i := 9) (by kernel_rfl) ?_
             refine opLoadRow_at (d := some 86) (n := 8) (b := gm) (j := (q + 1) * 8) (vs := [.int .i64 ky, .int .u64 ny, .string fy, .int .u64 ry, .string py, .int .i64 my, .int .u64 nny, .int .i64 ty]) rfl rfl (by kernel_rfl) rfl (by exact rfl) hA .here (by kernel_rfl) (by kernel_rfl) e2 rfl ?_
             refine ⟨trivial, ?_⟩
             go_frame
             refine tZ 14 91 (.pointer (some ⟨gm, q * 8, none⟩)) (r := (fun w' hS => by simp [execOp, go_sem, Act.eval, Act.put]; intro h; omega)) (s := trivial) (h := ?_)
             go_frame
             refine wpAnyH_one (i := 15) (by kernel_rfl) ?_
             refine opStore_at (b := gm) (j := q * 8) (vs := [.int .i64 ky, .int .u64 ny, .string fy, .int .u64 ry, .string py, .int .i64 my, .int .u64 nny, .int .i64 ty]) rfl rfl (by kernel_rfl) rfl (by exact rfl) (by exact rfl) rfl hA .here (by kernel_rfl) rfl (by show q * 8 + 8 ≤ _; rw [hq'.out.2.2.1]; omega) ?_
             intro w3 hB
             clear hA; have hA := hB; clear hB
             refine ⟨trivial, ?_⟩
             go_frame
             refine tZ 16 92 (.pointer (some ⟨gm, (q + 1) * 8, none⟩)) (r := (fun w' hS => by simp [execOp, go_sem, Act.eval, Act.put]; intro h; have := h (by omega); omega)) (s := trivial) (h := ?_)
             go_frame
             refine wpAnyH_one (i := 17) (by kernel_rfl) ?_
             refine opStore_at (b := gm) (j := (q + 1) * 8) (vs := [.int .i64 kx, .int .u64 nx, .string fx, .int .u64 rx, .string px, .int .i64 mx, .int .u64 nnx, .int .i64 tx]) rfl rfl (by kernel_rfl) rfl (by exact rfl) (by exact rfl) rfl hA .here (by kernel_rfl) rfl (by show (q + 1) * 8 + 8 ≤ _; rw [setL_length, hq'.out.2.2.1]; omega) ?_
             intro w4 hB
             clear hA; have hA := hB; clear hB
             refine ⟨trivial, ?_⟩
             go_frame
             refine wpAnyH_done (by kernel_rfl) ?_ _
             try go_frame
             have hB := hA.row_shut (g := gm) (cap := capm) (n := l.length) (xs := (swN ms q).flatMap Cm.cells) (size := 8) .here (by rw [setL_length, setL_length]; exact hq'.out.2.2.1) hq'.out.1 hq'.out.2.1 (by rw [← hml'.out]; exact hnew.out)
             clear hA; have hA := hB; clear hB
             obtain ⟨g3, ck, hax, hcp, hcx, hlk, htk, hB⟩ := hA.row_open (e := 3) (size := 1) (ax := some ⟨bk, 0, none⟩) (cap := l.length) (n := l.length) (xs := ks.flatMap iC) sZ (by omega)
             cases hax
             clear hA; have hA := hB; clear hB
             rw [show l.length = ks.length from by rw [hkl'.out, hml'.out]] at htk
             obtain ⟨va, hva⟩ : ∃ z, ks[q]? = some z := ⟨_, List.getElem?_eq_getElem (by rw [hkl'.out, hml'.out]; omega)⟩
             obtain ⟨vb, hvb⟩ : ∃ z, ks[q + 1]? = some z := ⟨_, List.getElem?_eq_getElem (by rw [hkl'.out, hml'.out]; omega)⟩
             have ha1 := Lib.hid (cells_at (enc := iC) (size := 1) (fun _ => rfl) htk hva 0 (by omega))
             have hb1 := Lib.hid (cells_at (enc := iC) (size := 1) (fun _ => rfl) htk hvb 0 (by omega))
             rw [Nat.mul_one, Nat.add_zero] at ha1 hb1
             have hnk := swap_cells (enc := iC) (size := 1) (fun _ => rfl) htk hva hvb
             rw [Nat.mul_one, Nat.mul_one, Nat.mul_one] at hnk
             have hnk' := Lib.hid hnk
             have hk4 := Lib.hid (⟨hcp, hcx, hlk⟩ : _ ∧ _ ∧ _)
             clear hnk htk hva hvb hcp hcx hlk
             have hF := hA.facts; (try simp only [uZ] at hA hF)
             go_upto_region 18 with fail
             try go_frame
             have hB := hA.drew
             clear hF hA; have hA := hB; clear hB
             refine wp_region_held (S := fun _ => True) hm ?_
             change wpAnyH _ _ _ _ _ 18 _ _ (World.drew _)
             generalize World.drew _ = w2 at *
             refine tZ 0 93 (.slice (some ⟨bk, 0, none⟩) l.length l.length) (r := (fun w' hS => by simp [execOp, go_sem, Act.eval, Act.put])) (s := trivial) (h := ?_)
             go_frame
             refine tZ 1 94 (.int .i64 q) (r := (fun w' hS => by simp [execOp, go_sem, Act.eval, Act.put])) (s := trivial) (h := ?_)
             go_frame
             refine tZ 2 95 (.slice (some ⟨bk, 0, none⟩) l.length l.length) (r := (fun w' hS => by simp [execOp, go_sem, Act.eval, Act.put])) (s := trivial) (h := ?_)
             go_frame
             refine tZ 3 96 (.int .i64 q) (r := (fun w' hS => by simp [execOp, go_sem, Act.eval, Act.put])) (s := trivial) (h := ?_)
             go_frame
             refine tZ 4 97 (.int .i64 ((q : Int) + 1)) (r := (fun w' hS => by simp [execOp, go_sem, Act.eval, Act.put, hwr])) (s := trivial) (h := ?_)
             go_frame
             refine tZ 5 98 (.slice (some ⟨bk, 0, none⟩) l.length l.length) (r := (fun w' hS => by simp [execOp, go_sem, Act.eval, Act.put])) (s := trivial) (h := ?_)
             go_frame
             refine tZ 6 99 (.int .i64 q) (r := (fun w' hS => by simp [execOp, go_sem, Act.eval, Act.put])) (s := trivial) (h := ?_)
             go_frame
             refine tZ 7 100 (.int .i64 ((q : Int) + 1)) (r := (fun w' hS => by simp [execOp, go_sem, Act.eval, Act.put, hwr])) (s := trivial) (h := ?_)
             go_frame
             refine tZ 8 101 (.pointer (some ⟨bk, q + 1, none⟩)) (r := (fun w' hS => by simp [execOp, go_sem, Act.eval, Act.put]; intro h; have := h (by omega); omega)) (s := trivial) (h := ?_)
             go_frame
             refine tZ 10 103 (.slice (some ⟨bk, 0, none⟩) l.length l.length) (r := (fun w' hS => by simp [execOp, go_sem, Act.eval, Act.put])) (s := trivial) (h := ?_)
             go_frame
             refine tZ 11 104 (.int .i64 q) (r := (fun w' hS => by simp [execOp, go_sem, Act.eval, Act.put])) (s := trivial) (h := ?_)
             go_frame
             refine tZ 12 105 (.pointer (some ⟨bk, q, none⟩)) (r := (fun w' hS => by simp [execOp, go_sem, Act.eval, Act.put]; intro h; omega)) (s := trivial) (h := ?_)
             go_frame
             refine wpAnyH_two (i := 9) (j := 13) (by kernel_rfl) ?_ ?_
             · refine wpOp_val rfl (by kernel_rfl) (v := .int .i64 vb) (w' := w2) (by have hc : w2.cell? ⟨bk, q + 1, none⟩ = some (.int .i64 vb) := ((hA.get (A := Part.cells bk ck 3) .here : BlockIs _ _ _ _).cell (q + 1)).trans hb1.out; simp [execOp, go_sem, Act.eval, Act.put, hc]) ?_
               refine ⟨trivial, ?_⟩
               go_frame
               refine wpAnyH_one (i := 13) (by kernel_rfl) ?_
               refine wpOp_val rfl (by kernel_rfl) (v := .int .i64 va) (w' := w2) (by have hc : w2.cell? ⟨bk, q, none⟩ = some (.int .i64 va) := ((hA.get (A := Part.cells bk ck 3) .here : BlockIs _ _ _ _).cell (q)).trans ha1.out; simp [execOp, go_sem, Act.eval, Act.put, hc]) ?_
               refine ⟨trivial, ?_⟩
               go_frame
               refine tZ 14 107 (.pointer (some ⟨bk, q, none⟩)) (r := (fun w' hS => by simp [execOp, go_sem, Act.eval, Act.put]; intro h; omega)) (s := trivial) (h := ?_)
               go_frame
               refine wpAnyH_one (i := 15) (by kernel_rfl) ?_
               refine opStore_at (b := bk) (j := q) (vs := iC vb) rfl rfl (by kernel_rfl) rfl (by exact rfl) (by exact rfl) rfl hA .here (by kernel_rfl) rfl (by show q + 1 ≤ _; rw [hk4.out.2.2]; omega) ?_
               intro w3 hB
               clear hA; have hA := hB; clear hB
               refine ⟨trivial, ?_⟩
               go_frame
               refine tZ 16 108 (.pointer (some ⟨bk, q + 1, none⟩)) (r := (fun w' hS => by simp [execOp, go_sem, Act.eval, Act.put]; intro h; have := h (by omega); omega)) (s := trivial) (h := ?_)
               go_frame
               refine wpAnyH_one (i := 17) (by kernel_rfl) ?_
               refine opStore_at (b := bk) (j := q + 1) (vs := iC va) rfl rfl (by kernel_rfl) rfl (by exact rfl) (by exact rfl) rfl hA .here (by kernel_rfl) rfl (by show q + 1 + 1 ≤ _; rw [setL_length, hk4.out.2.2]; omega) ?_
               intro w4 hB
               clear hA; have hA := hB; clear hB
               refine ⟨trivial, ?_⟩
               go_frame
               refine wpAnyH_done (by kernel_rfl) ?_ _
               try go_frame
               have hB := hA.row_shut (g := bk) (cap := l.length) (n := l.length) (xs := (swN ks q).flatMap iC) (size := 1) .here (by rw [setL_length, setL_length]; exact hk4.out.2.2) hk4.out.1 hk4.out.2.1 (by rw [Nat.mul_one]; rw [hkl'.out, hml'.out] at hnk'; exact hnk'.out)
               clear hA; have hA := hB; clear hB
               have hF := hA.facts; (try simp only [uZ] at hA hF)
               go_wp2_with fail
               go_roundg (gk - 1)
               case measure => omega
               case rel => exact ⟨i + 1, swN ms q, swN ks q, by simp, by omega, hsn.out, hA.pick pZ⟩
             · refine wpOp_val rfl (by kernel_rfl) (v := .int .i64 va) (w' := w2) (by have hc : w2.cell? ⟨bk, q, none⟩ = some (.int .i64 va) := ((hA.get (A := Part.cells bk ck 3) .here : BlockIs _ _ _ _).cell (q)).trans ha1.out; simp [execOp, go_sem, Act.eval, Act.put, hc]) ?_
               refine ⟨trivial, ?_⟩
               go_frame
               refine wpAnyH_one (i := 9) (by kernel_rfl) ?_
               refine wpOp_val rfl (by kernel_rfl) (v := .int .i64 vb) (w' := w2) (by have hc : w2.cell? ⟨bk, q + 1, none⟩ = some (.int .i64 vb) := ((hA.get (A := Part.cells bk ck 3) .here : BlockIs _ _ _ _).cell (q + 1)).trans hb1.out; simp [execOp, go_sem, Act.eval, Act.put, hc]) ?_
               refine ⟨trivial, ?_⟩
               go_frame
               refine tZ 14 107 (.pointer (some ⟨bk, q, none⟩)) (r := (fun w' hS => by simp [execOp, go_sem, Act.eval, Act.put]; intro h; omega)) (s := trivial) (h := ?_)
               go_frame
               refine wpAnyH_one (i := 15) (by kernel_rfl) ?_
               refine opStore_at (b := bk) (j := q) (vs := iC vb) rfl rfl (by kernel_rfl) rfl (by exact rfl) (by exact rfl) rfl hA .here (by kernel_rfl) rfl (by show q + 1 ≤ _; rw [hk4.out.2.2]; omega) ?_
               intro w3 hB
               clear hA; have hA := hB; clear hB
               refine ⟨trivial, ?_⟩
               go_frame
               refine tZ 16 108 (.pointer (some ⟨bk, q + 1, none⟩)) (r := (fun w' hS => by simp [execOp, go_sem, Act.eval, Act.put]; intro h; have := h (by omega); omega)) (s := trivial) (h := ?_)
               go_frame
               refine wpAnyH_one (i := 17) (by kernel_rfl) ?_
               refine opStore_at (b := bk) (j := q + 1) (vs := iC va) rfl rfl (by kernel_rfl) rfl (by exact rfl) (by exact rfl) rfl hA .here (by kernel_rfl) rfl (by show q + 1 + 1 ≤ _; rw [setL_length, hk4.out.2.2]; omega) ?_
               intro w4 hB
               clear hA; have hA := hB; clear hB
               refine ⟨trivial, ?_⟩
               go_frame
               refine wpAnyH_done (by kernel_rfl) ?_ _
               try go_frame
               have hB := hA.row_shut (g := bk) (cap := l.length) (n := l.length) (xs := (swN ks q).flatMap iC) (size := 1) .here (by rw [setL_length, setL_length]; exact hk4.out.2.2) hk4.out.1 hk4.out.2.1 (by rw [Nat.mul_one]; rw [hkl'.out, hml'.out] at hnk'; exact hnk'.out)
               clear hA; have hA := hB; clear hB
               have hF := hA.facts; (try simp only [uZ] at hA hF)
               go_wp2_with fail
               go_roundg (gk - 1)
               case measure => omega
               case rel => exact ⟨i + 1, swN ms q, swN ks q, by simp, by omega, hsn.out, hA.pick pZ⟩
         · go_wp2_with fail
           have hB := hA.row_shut (g := gm) (cap := capm) (c := cm) (n := l.length) (xs := ms.flatMap Cm.cells) (size := 8) sZ hq'.out.2.2.1 hq'.out.1 hq'.out.2.1 (by rw [← hml'.out]; exact hq'.out.2.2.2)
           clear hA; have hA := hB; clear hB
           go_roundg (gk - 1)
           case measure => omega
           case rel => exact ⟨i + 1, ms, ks, by simp, by omega, hsw'.out, hA.pick pZ⟩
       · have hq1 : decide ((l.length : Int) - 1 ≤ (q : Int)) = true := decide_eq_true (by omega)
         go_upto_region 16 with fail
         try go_frame
         (refine cA hA ?_); (have hn1 := Cl.none hA); (have hn2 := Cl.none2 hA); (repeat (first | go_big_quiet_skip | (go_big_quiet_want; (first | (refine qM 29 8 ?_; go_frame; go_big_quiet_on) | (refine qL ?_; go_frame; go_big_quiet_on) | (go_big_quiet_op; (first | go_big_quiet_on))))))
         (refine wpQuiet_nil ?_); (intro w1 hB); (clear hF hA hn1 hn2); (have hA := Cl.out hB); (clear hB); have hF := hA.facts; (try simp only [uZ] at hA hF)
         go_wp2_with fail
         go_roundg (gk - 1)
         case measure => omega
         case rel => exact ⟨i + 1, ms, ks, by simp, by omega, hsw'.out, hA.pick pZ⟩
     · obtain rfl : i = zs.length := by omega
       have hml := hsw'.out.lenl
       have hkl := hsw'.out.len
       have okm : ∀ c ∈ ms, CmIn c := fun c hc => hinl'.out c (hsw'.out.mem c hc)
       have htd := fun i j h => hsw'.out.told i j h
       have hlt := hsw'.out.lt
       have hteq := hsw'.out.eq.symm
       have hp2 := Lib.hid (fun (w1 : World) (q : Sep [rowCm (.slice axm l.length capm) ms] w1) => play_any q f0 f1 (reads_row (.slice axm l.length capm) ms) (by omega) okm)
       have hB : At [Part.old w] w [rowCm (.slice axm l.length capm) ms, rowK l.length (.slice (some ⟨bk, 0, none⟩) l.length l.length) ks, rowAn (.slice axa (toldT ⟨[], ⟨first, [], []⟩⟩ l).length capa) (toldT ⟨[], ⟨first, [], []⟩⟩ l), TabP t p m ss b, Part.old w] wr := by
        have h1 := hA.pick (K := [rowM l.length (.slice axm l.length capm) ms, rowK l.length (.slice (some ⟨bk, 0, none⟩) l.length l.length) ks, rowAn (.slice axa (toldT ⟨[], ⟨first, [], []⟩⟩ l).length capa) (toldT ⟨[], ⟨first, [], []⟩⟩ l), TabP t p m ss b, Part.old w]) pZ
        unfold rowM at h1
        unfold rowCm
        rw [hml]
        exact h1
       have g12 := hg0.play (l := l) (fun x hx => (hinl'.out x hx).ok)
       have g21 := hg0.play (l := ms) (fun x hx => (okm x hx).ok)
       obtain ⟨LL, hL12⟩ := rel_some g12.inv.s.keys hs0
       have hL21 : Lease.Rel (playT ⟨[], ⟨first, [], []⟩⟩ ms).S LL := Rel.perm hL12 hteq.S
       have hby1 := Lib.hid (fun (w1 : World) (q : Sep [TabP t p m ss b] w1) => bytes_any q hR hL12 g12.inv (feet_ab g12.ab) (by omega))
       have hby2 := Lib.hid (fun (t2 p2 m2 : Nat) (ss2 : List Ses) (b2 : Lock.Bk) (hR2 : TRel ss2 b2 (playT ⟨[], ⟨first, [], []⟩⟩ ms)) (w1 : World) (q : Sep [TabP t2 p2 m2 ss2 b2] w1) => bytes_any q hR2 hL21 g21.inv (feet_ab g21.ab) (by omega))
       have htm := told_len ms ⟨[], ⟨first, [], []⟩⟩
       have hteq' := Lib.hid hteq
       have htd' := Lib.hid htd
       have hlt' := Lib.hid hlt
       have hml' := Lib.hid hml
       have hkl' := Lib.hid hkl
       have htm' := Lib.hid htm
       clear hA hsw' okm htd hlt hteq g12 g21 hL12 hL21 htm hml hkl hi hik; have hA := hB; clear hB
       have hF := hA.facts; (try simp only [uZ] at hA hF)
       go_wp2_with fail
       refine (hp2.out _ (hA.sep1 (A := rowCm (.slice axm l.length capm) ms) sZ)).mono ?_
       clear hp2
       rintro e w1 ⟨t2, p2, m2, ss2, b2, av2, rfl, hR2, hT⟩
       have hB := hA.call1 (A := rowCm (.slice axm l.length capm) ms) sZ hT
       clear hT
       clear hF hA; have hA := hB; clear hB
       try simp only [uA] at hA
       have hF := hA.facts; (try simp only [uZ] at hA hF)
       have hby3 := Lib.hid (hby2.out t2 p2 m2 ss2 b2 hR2)
       clear hR2 hby2
       generalize hT2 : toldT ⟨[], ⟨first, [], []⟩⟩ ms = T2 at *
       generalize hTL : toldT ⟨[], ⟨first, [], []⟩⟩ l = TL at *
       clear hT2 hTL
       obtain ⟨axb, capb, rfl, _, _, _⟩ := hA.row_form (e := 48) (size := 3) (v := av2) (n := T2.length) (xs := T2.flatMap ansL) sZ
       have hB := hA.pick (K := [rowAn (.slice axb T2.length capb) T2, rowAn (.slice axa TL.length capa) TL, rowK l.length (.slice (some ⟨bk, 0, none⟩) l.length l.length) ks, TabP t p m ss b, TabP t2 p2 m2 ss2 b2, Part.old w]) pZ
       clear hF hA; have hA := hB; clear hB
       try simp only [uA] at hA
       have hF := hA.facts; (try simp only [uZ] at hA hF)
       go_wp2_with fail
       try go_frame
       go_loopg [118] l.length (CmRel w (.slice (some ⟨bk, 0, none⟩) l.length l.length) (.slice axa TL.length capa) (.slice axb T2.length capb) l.length ks TL T2 (TabP t p m ss b) (TabP t2 p2 m2 ss2 b2))
       case atStart => exact ⟨0, rfl, by omega, hA.pick pZ⟩
       case round =>
        obtain ⟨i, rfl, hik2, hB⟩ := hrel
        clear hF hA; have hA := hB; clear hB
        by_cases hi3 : i < l.length
        · have hkn : ks.length = l.length := hkl'.out.trans hml'.out
          obtain ⟨j, hj⟩ : ∃ j, ks[i]? = some j := ⟨_, List.getElem?_eq_getElem (by omega)⟩
          have hj2 := hlt'.out j (List.mem_of_getElem? hj)
          have hj1 : j < TL.length := by rw [htl'.out]; exact hj2
          have hi4 : i < T2.length := by rw [htm'.out, hml'.out]; exact hi3
          obtain ⟨x, hx1⟩ : ∃ x, TL[j]? = some x := ⟨_, List.getElem?_eq_getElem hj1⟩
          have hx2 : T2[i]? = some x := (htd'.out i j hj).trans hx1
          have hj5 : j < 1000 := by omega
          have hc : wr.cell? ⟨bk, i, none⟩ = some (.int .i64 j) := by
           obtain ⟨g3, ck, hax, _, _, _, htk, hB⟩ := hA.row_open (e := 3) (size := 1) (ax := some ⟨bk, 0, none⟩) (cap := l.length) (n := l.length) (xs := ks.flatMap iC) sZ (by omega)
           cases hax
           rw [← hkn] at htk
           have h1 := cells_at (enc := iC) (size := 1) (fun _ => rfl) htk hj 0 (by omega)
           rw [Nat.mul_one, Nat.add_zero] at h1
           exact ((hB.get (A := Part.cells bk ck 3) .here : BlockIs _ _ _ _).cell i).trans h1
          clear hj hkn
          obtain ⟨g1, c1, rfl, hn1, hm1, hl1, ht1, hB⟩ := hA.row_open (e := 48) (size := 3) (ax := axa) (cap := capa) (n := TL.length) (xs := TL.flatMap ansL) sZ (by omega)
          clear hA
          obtain ⟨g2, c2, rfl, hn2, hm2, hl2, ht2, hA⟩ := hB.row_open (e := 48) (size := 3) (ax := axb) (cap := capb) (n := T2.length) (xs := T2.flatMap ansL) sZ (by omega)
          clear hB
          have e1 : (c1.drop (j * 3)).take 3 = ansL x := take_cells ansL_len ht1 hx1
          have e2 : (c2.drop (i * 3)).take 3 = ansL x := take_cells ansL_len ht2 hx2
          obtain ⟨xe, xn, xg⟩ := x
          simp only [ansL] at e1 e2
          have hq1 := Lib.hid (⟨hn1, hm1, hl1, ht1⟩ : _ ∧ _ ∧ _ ∧ _)
          have hq2 := Lib.hid (⟨hn2, hm2, hl2, ht2⟩ : _ ∧ _ ∧ _ ∧ _)
          clear hn1 hm1 hl1 ht1 hn2 hm2 hl2 ht2 hx1 hx2
          have hF := hA.facts; (try simp only [uZ] at hA hF)
          go_upto_region 24 with fail
          try go_frame
          (refine cA hA ?_); (have hn1 := Cl.none hA); (have hn2 := Cl.none2 hA); (repeat (first | go_big_quiet_skip | (go_big_quiet_want; (first | (refine qM 48 3 ?_; go_frame; go_big_quiet_on) | (refine qL ?_; go_frame; go_big_quiet_on) | (go_big_quiet_op; (first | go_big_quiet_on))))))
          (refine wpQuiet_nil ?_); (intro w1 hB); (clear hF hA hn1 hn2); (have hA := Cl.out hB); (clear hB); have hF := hA.facts; (try simp only [uZ] at hA hF)
          go_wp2_with fail
          have hB := hA.row_shut (g := g1) (cap := capa) (c := c1) (n := TL.length) (xs := TL.flatMap ansL) (size := 3) sZ hq1.out.2.2.1 hq1.out.1 hq1.out.2.1 hq1.out.2.2.2
          clear hA
          have hA := hB.row_shut (g := g2) (cap := capb) (c := c2) (n := T2.length) (xs := T2.flatMap ansL) (size := 3) sZ hq2.out.2.2.1 hq2.out.1 hq2.out.2.1 hq2.out.2.2.2
          clear hB
          go_roundg (gk - 1)
          case measure => omega
          case rel => exact ⟨i + 1, by simp, by omega, hA.pick pZ⟩
        · have hF := hA.facts
          have hF := hA.facts; (try simp only [uZ] at hA hF)
          go_wp2_with fail
          refine (hby1.out _ (hA.sep1 (A := TabP t p m ss b) sZ)).mono ?_
          rintro e w1 ⟨v1, l1, rfl, hb1, hl1, hT⟩
          have hB := hA.call1 (A := TabP t p m ss b) sZ hT
          clear hT
          clear hF hA; have hA := hB; clear hB
          try simp only [uA] at hA
          have hF := hA.facts; (try simp only [uZ] at hA hF)
          go_wp2_with fail
          refine (hby3.out _ (hA.sep1 (A := TabP t2 p2 m2 ss2 b2) sZ)).mono ?_
          rintro e w1 ⟨v2, l2, rfl, hb2, hl2, hT⟩
          have hB := hA.call1 (A := TabP t2 p2 m2 ss2 b2) sZ hT
          clear hT
          clear hF hA; have hA := hB; clear hB
          try simp only [uA] at hA
          have hF := hA.facts; (try simp only [uZ] at hA hF)
          have hll := bytes_same hteq'.out.L hb1 hb2
          subst hll
          clear hb1 hb2 hl2
          go_wp2_with fail
          refine (Wire.same_any (hA.sep2 (A := Wire.rowY v1 l1) (B := Wire.rowY v2 l1) sZ sZ) (by omega)).mono ?_
          rw [decide_eq_true (rfl : l1 = l1)]
          rintro e w1 ⟨rfl, hT⟩
          have hB := hA.call2 (A := Wire.rowY v1 l1) (B := Wire.rowY v2 l1) sZ sZ hT
          clear hT
          clear hF hA; have hA := hB; clear hB
          try simp only [uA] at hA
          have hF := hA.facts; (try simp only [uZ] at hA hF)
          go_wp2_with fail
          go_ret
          exact ⟨rfl, below_old hA sZ⟩
end Go.Proofs.YtpebabaigakagaaGreatDoor.Tab
end
