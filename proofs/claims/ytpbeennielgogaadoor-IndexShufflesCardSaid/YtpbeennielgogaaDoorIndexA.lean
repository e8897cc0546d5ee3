/- The walks of an index: Ask, Add. -/
import Derived.Test.YtpbeennielgogaaDoorIndexW
namespace Go.Proofs.YtpbeennielgogaaDoor.Ix
open Go.RowKit
open Go.Maps (Keyed)
open Path (bl rightB overB)
open Attr (A8 rightI)
open Cmd (Cm keyC footC through0)
set_option linter.unusedSimpArgs false
set_option linter.unusedVariables false
attribute [-go_sem] run_eql_struct run_neq_struct run_eqGuard_agg

def AkRel (w : World) (p m it b4 b5 b6 b7 b8 : Nat) (es : List En) (g : Bool) (ff : ByteArray) (kn r t kind num : Int) (foot : ByteArray) (req : Int) (path : ByteArray) (mode n time : Int) (k : Nat) (u : Value) (wr : World) : Prop :=
  ∃ (ds : List En) (a : A8), At [IxP p m es] w [Part.iter Tryd.prog 37 it m (ents es) (ents ds), headC p m, Part.cells b7 [.int .i64 a.s, .int .i64 a.d0, .int .i64 a.d1, .int .i64 a.d2, .int .i64 a.d3, .int .i64 a.d4, .int .i64 a.d5, .int .i64 a.d6] 40, Part.cells b8 [.string ff, .int .u64 kn] 37, Part.cells b6 [.int .i64 0, .int .i64 0, .int .i64 0, .int .i64 0, .int .i64 0, .int .i64 0, .int .i64 0, .int .i64 0] 40, Part.cells b5 [.int .i64 r, .int .i64 t] 30, Part.cells b4 [.int .i64 kind, .int .u64 num, .string foot, .int .u64 req, .string path, .int .i64 mode, .int .u64 n, .int .i64 time] 28] wr ∧ (∀ s ∈ ds, s ∈ es) ∧ a = askF g (ff, kn) ds ∧ ds.length + k = es.length
set_option maxRecDepth 100000 in
set_option maxHeartbeats 4000000 in
theorem ask_core {w : World} {p m : Nat} {es : List En} (h : Sep [IxP p m es] w) (kind num : Int) (foot : ByteArray) (req : Int) (path : ByteArray) (mode n time : Int) {ff : ByteArray} {kn : Int} {ok : Bool} (hof : ∀ w, Calls Tryd.prog 24 #[.agg #[.int .i64 kind, .int .u64 num, .string foot, .int .u64 req, .string path, .int .i64 mode, .int .u64 n, .int .i64 time]] w fun e w' => e = .returned (.tuple #[.agg #[.string ff, .int .u64 kn], .bool ok]) ∧ Ext w w')
    (hff : ff.size ≤ 1000) (hes : ∀ e ∈ es, e.foot.size ≤ 1000) (hl : es.length ≤ 1000000) (r t : Int) :
    Calls Tryd.prog 10 #[.pointer (some ⟨p, 0, none⟩), .agg #[.int .i64 kind, .int .u64 num, .string foot, .int .u64 req, .string path, .int .i64 mode, .int .u64 n, .int .i64 time], .agg #[.int .i64 r, .int .i64 t]] w fun e w' => e = .returned ((askF (ok && rightI r t) (ff, kn) es).own r t).val ∧ At [IxP p m es] w [IxP p m es] w' := by
  have hA := begin0 h
  have hF := hA.facts
  clear h
  have hri := fun w => Attr.idRight_any r t w
  have hown := fun (a : A8) w => Attr.own_any a r t w
  have hes' := Lib.hid hes
  clear hes
  obtain ⟨ri, hrid⟩ : ∃ ri, rightI r t = ri := ⟨_, rfl⟩
  rw [hrid] at hri
  rw [hrid]
  clear hrid
  (try simp only [uA] at hA); have hF := hA.facts; (try simp only [fA, and_true, true_and] at hF)
  go_enter Tryd.func10, Tryd.ntmps10
  go_wp2_with (first | ((with_reducible refine gbx ?_); refine wX 28 (.agg #[.int .i64 kind, .int .u64 num, .string foot, .int .u64 req, .string path, .int .i64 mode, .int .u64 n, .int .i64 time]) [.int .i64 kind, .int .u64 num, .string foot, .int .u64 req, .string path, .int .i64 mode, .int .u64 n, .int .i64 time] hA ?_; clear hF hA; intro b4 w1 hA hb4; (try simp only [uA] at hA); have hF := hA.facts; (try simp only [fA, and_true, true_and] at hF)) | ((with_reducible refine gbx ?_); refine wX 30 (.agg #[.int .i64 r, .int .i64 t]) [.int .i64 r, .int .i64 t] hA ?_; clear hF hA; intro b5 w1 hA hb5; (try simp only [uA] at hA); have hF := hA.facts; (try simp only [fA, and_true, true_and] at hF)) | ((with_reducible show wpList _ _ _ ({ dst := some 6, op := Op.alloc _, type := _, pos := _, after := _, guard := _ } :: _) _ _); ((with_reducible refine gal ?_); refine wA 40 (.agg #[.int .i64 0, .int .i64 0, .int .i64 0, .int .i64 0, .int .i64 0, .int .i64 0, .int .i64 0, .int .i64 0]) [.int .i64 0, .int .i64 0, .int .i64 0, .int .i64 0, .int .i64 0, .int .i64 0, .int .i64 0, .int .i64 0] hA ?_; clear hF hA; intro b6 w1 hA hb6; (try simp only [uA] at hA); have hF := hA.facts; (try simp only [fA, and_true, true_and] at hF))) | ((with_reducible show wpList _ _ _ ({ dst := some 7, op := Op.alloc _, type := _, pos := _, after := _, guard := _ } :: _) _ _); ((with_reducible refine gal ?_); refine wA 40 (.agg #[.int .i64 0, .int .i64 0, .int .i64 0, .int .i64 0, .int .i64 0, .int .i64 0, .int .i64 0, .int .i64 0]) [.int .i64 0, .int .i64 0, .int .i64 0, .int .i64 0, .int .i64 0, .int .i64 0, .int .i64 0, .int .i64 0] hA ?_; clear hF hA; intro b7 w1 hA hb7; (try simp only [uA] at hA); have hF := hA.facts; (try simp only [fA, and_true, true_and] at hF))) | ((with_reducible refine gst ?_); refine wS hA ?_; clear hF hA; intro w1 hA; (try simp only [uA] at hA); have hF := hA.facts; (try simp only [fA, and_true, true_and] at hF)) | ((with_reducible refine gbx ?_); refine wB hA ?_; clear hF hA; intro b1 w1 hA hb1; (try simp only [uA] at hA); have hF := hA.facts; (try simp only [fA, and_true, true_and] at hF)))
  refine (hof _).mono ?_
  clear hof
  rintro e w1 ⟨rfl, hx⟩
  have hB := hA.ext hx
  clear hF hA hx
  have hA := hB
  clear hB
  have hF := hA.facts
  (try simp only [uA] at hA); have hF := hA.facts; (try simp only [fA, and_true, true_and] at hF)
  go_wp2_with (first | ((with_reducible refine gal ?_); refine wA 37 (.agg #[.string .empty, .int .u64 0]) [.string .empty, .int .u64 0] hA ?_; clear hF hA; intro b8 w1 hA hb8; (try simp only [uA] at hA); have hF := hA.facts; (try simp only [fA, and_true, true_and] at hF)) | ((with_reducible refine gst ?_); refine wS hA ?_; clear hF hA; intro w1 hA; (try simp only [uA] at hA); have hF := hA.facts; (try simp only [fA, and_true, true_and] at hF)) | ((with_reducible refine gbx ?_); refine wB hA ?_; clear hF hA; intro b1 w1 hA hb1; (try simp only [uA] at hA); have hF := hA.facts; (try simp only [fA, and_true, true_and] at hF)) | (refine wpList_range_at rfl rfl rfl hA (by with_reducible repeat (first | exact Sel.here | apply Sel.there)) Tryd.underlying57 ?_; intro it w1 hB hit; clear hF hA; have hA := hB; clear hB; (try simp only [uA] at hA); have hF := hA.facts; (try simp only [fA, and_true, true_and] at hF)))
  try go_frame
  go_loopg [22] es.length (AkRel w p m it b4 b5 b6 b7 b8 es (ok && ri) ff kn r t kind num foot req path mode n time)
  case atStart => exact ⟨[], A8.zero, hA.pick (by repeat (first | exact Picks.nil | refine Picks.cons (by repeat (first | exact Sel.here | apply Sel.there)) ?_)), nofun, rfl, by simp⟩
  case round =>
    obtain ⟨ds, acc, hA2, hds, hacc, hk⟩ := hrel
    have hacc' := Lib.hid hacc
    clear hF hA hacc
    have hA := hA2
    clear hA2
    (try simp only [uA] at hA); have hF := hA.facts; (try simp only [fA, and_true, true_and] at hF)
    go_step
    go_step
    refine wpList_next_at rfl rfl rfl hA (by with_reducible repeat (first | exact Sel.here | apply Sel.there)) (fun hp => ?_) (fun q w1 hq hd hB => ?_)
    · have hc : acc = askF (ok && ri) (ff, kn) es := by rw [hacc'.out]; exact (askF_perm (ents_perm hp)).symm
      have hM := At.ranged hA (by with_reducible repeat (first | exact Sel.here | apply Sel.there))
      have hown2 := hown acc
      obtain ⟨ow, how⟩ : ∃ ow, acc.own r t = ow := ⟨_, rfl⟩
      rw [how] at hown2
      have hval := Lib.hid (show (askF (ok && ri) (ff, kn) es).own r t = ow from by rw [← hc]; exact how)
      clear hF hA hp hc hown how hacc'
      have hA := hM
      clear hM
      obtain ⟨a0, a1, a2, a3, a4, a5, a6, a7⟩ := acc
      obtain ⟨g0, g1, g2, g3, g4, g5, g6, g7⟩ := ow
      simp only [A8.val] at hown2
      simp only at hA
      have hF := hA.facts
      (try simp only [uA] at hA); have hF := hA.facts; (try simp only [fA, and_true, true_and] at hF)
      go_wp2_with (first | ((with_reducible refine gst ?_); refine wS hA ?_; clear hF hA; intro w1 hA; (try simp only [uA] at hA); have hF := hA.facts; (try simp only [fA, and_true, true_and] at hF)) | ((with_reducible refine gbx ?_); refine wB hA ?_; clear hF hA; intro b1 w1 hA hb1; (try simp only [uA] at hA); have hF := hA.facts; (try simp only [fA, and_true, true_and] at hF)))
      refine (hown2 _).mono ?_
      clear hown2
      rintro e w1 ⟨rfl, hx⟩
      have hB := hA.ext hx
      clear hF hA hx
      have hA := hB
      clear hB
      have hF := hA.facts
      (try simp only [uA] at hA); have hF := hA.facts; (try simp only [fA, and_true, true_and] at hF)
      go_wp2_with (first | ((with_reducible refine gst ?_); refine wS hA ?_; clear hF hA; intro w1 hA; (try simp only [uA] at hA); have hF := hA.facts; (try simp only [fA, and_true, true_and] at hF)) | ((with_reducible refine gbx ?_); refine wB hA ?_; clear hF hA; intro b1 w1 hA hb1; (try simp only [uA] at hA); have hF := hA.facts; (try simp only [fA, and_true, true_and] at hF)))
      refine bodyPost_ret (v := .agg #[.int .i64 g0, .int .i64 g1, .int .i64 g2, .int .i64 g3, .int .i64 g4, .int .i64 g5, .int .i64 g6, .int .i64 g7]) (by simp [results, Tryd.results10, go_sem, hF]) rfl ⟨by rw [hval.out]; rfl, close0 hA (by with_reducible repeat (first | exact Sel.here | apply Sel.there)) (by with_reducible repeat (first | exact Sel.here | apply Sel.there))⟩
    · obtain ⟨s, hs, rfl⟩ := List.mem_map.1 hq
      have hI : IterAt Tryd.prog 37 w1 it m (ents es) (ents ds ++ [ent s]) := hB.get (A := Part.iter _ _ it m (ents es) (ents ds ++ [ent s])) (by with_reducible repeat (first | exact Sel.here | apply Sel.there))
      have hen := hI.entry
      have hlen : (ds ++ [s]).length ≤ es.length := by have := hI.len; simpa [ents] using this
      have hsub : ∀ x ∈ ds ++ [s], x ∈ es := fun x hx => by
        rcases List.mem_append.1 hx with hx | hx
        · exact hds x hx
        · have : x = s := by simpa using hx
          rw [this]; exact hs
      rw [ents_snoc] at hB
      have hsz := hes'.out s hs
      clear hF hA
      have hA := hB
      have hk' := Lib.hid hk
      have hsub' := Lib.hid hsub
      have hcl := fun w => Cmd.clash_any ff kn s.foot s.num w hff hsz
      have hst := Lib.hid (show askStep (ok && ri) (ff, kn) acc s = askF (ok && ri) (ff, kn) (ds ++ [s]) from by rw [askF_snoc, hacc'.out])
      simp only [List.length_append, List.length_cons, List.length_nil, Nat.zero_add] at hlen
      clear hI hB hk hsub hds hq hd hs hacc' hsz
      (try simp only [uA] at hA); have hF := hA.facts; (try simp only [fA, and_true, true_and] at hF)
      simp only [ent, En.key, keyV] at hen
      obtain ⟨sf, sn, sa⟩ := s
      simp only at hcl hen
      unfold askStep clashK at hst
      simp only at hst
      generalize hcbd : ((kn == sn) || overB (bl ff) (bl sf)) = cb at *
      clear hcbd
      have hpa := fun w => Attr.past_any sa sa.s w
      obtain ⟨pa, hpad⟩ : ∃ pa, sa.past sa.s = pa := ⟨_, rfl⟩
      rw [hpad] at hpa hst
      have hmg := fun w => Attr.merge_any acc pa w
      obtain ⟨mg, hmgd⟩ : ∃ mg, acc.merge pa = mg := ⟨_, rfl⟩
      rw [hmgd] at hmg hst
      clear hpad hmgd
      obtain ⟨a0, a1, a2, a3, a4, a5, a6, a7⟩ := acc
      obtain ⟨c0, c1, c2, c3, c4, c5, c6, c7⟩ := sa
      obtain ⟨q0, q1, q2, q3, q4, q5, q6, q7⟩ := pa
      obtain ⟨g0, g1, g2, g3, g4, g5, g6, g7⟩ := mg
      simp only [A8.val] at hpa hmg hen
      simp only at hA
      have hF := hA.facts
      (try simp only [uA] at hA); have hF := hA.facts; (try simp only [fA, and_true, true_and] at hF)
      cases ok
      · simp only [Bool.false_and, Bool.false_eq_true, if_false] at hst
        go_wp2_with (first | ((with_reducible refine gal ?_); refine wA 37 (.agg #[.string .empty, .int .u64 0]) [.string .empty, .int .u64 0] hA ?_; clear hF hA; intro bK w1 hA hbK; (try simp only [uA] at hA); have hF := hA.facts; (try simp only [fA, and_true, true_and] at hF)) | ((with_reducible refine gal ?_); refine wA 40 (.agg #[.int .i64 0, .int .i64 0, .int .i64 0, .int .i64 0, .int .i64 0, .int .i64 0, .int .i64 0, .int .i64 0]) [.int .i64 0, .int .i64 0, .int .i64 0, .int .i64 0, .int .i64 0, .int .i64 0, .int .i64 0, .int .i64 0] hA ?_; clear hF hA; intro bA w1 hA hbA; (try simp only [uA] at hA); have hF := hA.facts; (try simp only [fA, and_true, true_and] at hF)) | ((with_reducible refine gst ?_); refine wS hA ?_; clear hF hA; intro w1 hA; (try simp only [uA] at hA); have hF := hA.facts; (try simp only [fA, and_true, true_and] at hF)) | ((with_reducible refine gbx ?_); refine wB hA ?_; clear hF hA; intro b1 w1 hA hb1; (try simp only [uA] at hA); have hF := hA.facts; (try simp only [fA, and_true, true_and] at hF)))
        go_roundg (gk - 1)
        case measure => have := hk'.out; omega
        case rel => exact ⟨ds ++ [⟨sf, sn, ⟨c0, c1, c2, c3, c4, c5, c6, c7⟩⟩], _, hA.pick (by with_reducible repeat (first | exact Picks.nil | refine Picks.cons (by with_reducible repeat (first | exact Sel.here | apply Sel.there)) ?_)), hsub'.out, hst.out, by have := hk'.out; simp; omega⟩
      · cases ri
        · simp only [Bool.and_false, Bool.false_and, Bool.false_eq_true, if_false] at hst
          go_wp2_with (first | ((with_reducible refine gal ?_); refine wA 37 (.agg #[.string .empty, .int .u64 0]) [.string .empty, .int .u64 0] hA ?_; clear hF hA; intro bK w1 hA hbK; (try simp only [uA] at hA); have hF := hA.facts; (try simp only [fA, and_true, true_and] at hF)) | ((with_reducible refine gal ?_); refine wA 40 (.agg #[.int .i64 0, .int .i64 0, .int .i64 0, .int .i64 0, .int .i64 0, .int .i64 0, .int .i64 0, .int .i64 0]) [.int .i64 0, .int .i64 0, .int .i64 0, .int .i64 0, .int .i64 0, .int .i64 0, .int .i64 0, .int .i64 0] hA ?_; clear hF hA; intro bA w1 hA hbA; (try simp only [uA] at hA); have hF := hA.facts; (try simp only [fA, and_true, true_and] at hF)) | ((with_reducible refine gst ?_); refine wS hA ?_; clear hF hA; intro w1 hA; (try simp only [uA] at hA); have hF := hA.facts; (try simp only [fA, and_true, true_and] at hF)) | ((with_reducible refine gbx ?_); refine wB hA ?_; clear hF hA; intro b1 w1 hA hb1; (try simp only [uA] at hA); have hF := hA.facts; (try simp only [fA, and_true, true_and] at hF)))
          refine (hri _).mono ?_
          rintro e w1 ⟨rfl, hx⟩
          have hB := hA.ext hx
          clear hF hA hx
          have hA := hB
          clear hB
          have hF := hA.facts
          (try simp only [uA] at hA); have hF := hA.facts; (try simp only [fA, and_true, true_and] at hF)
          go_wp2_with (first | ((with_reducible refine gst ?_); refine wS hA ?_; clear hF hA; intro w1 hA; (try simp only [uA] at hA); have hF := hA.facts; (try simp only [fA, and_true, true_and] at hF)) | ((with_reducible refine gbx ?_); refine wB hA ?_; clear hF hA; intro b1 w1 hA hb1; (try simp only [uA] at hA); have hF := hA.facts; (try simp only [fA, and_true, true_and] at hF)))
          go_roundg (gk - 1)
          case measure => have := hk'.out; omega
          case rel => exact ⟨ds ++ [⟨sf, sn, ⟨c0, c1, c2, c3, c4, c5, c6, c7⟩⟩], _, hA.pick (by with_reducible repeat (first | exact Picks.nil | refine Picks.cons (by with_reducible repeat (first | exact Sel.here | apply Sel.there)) ?_)), hsub'.out, hst.out, by have := hk'.out; simp; omega⟩
        · go_wp2_with (first | ((with_reducible refine gal ?_); refine wA 37 (.agg #[.string .empty, .int .u64 0]) [.string .empty, .int .u64 0] hA ?_; clear hF hA; intro bK w1 hA hbK; (try simp only [uA] at hA); have hF := hA.facts; (try simp only [fA, and_true, true_and] at hF)) | ((with_reducible refine gal ?_); refine wA 40 (.agg #[.int .i64 0, .int .i64 0, .int .i64 0, .int .i64 0, .int .i64 0, .int .i64 0, .int .i64 0, .int .i64 0]) [.int .i64 0, .int .i64 0, .int .i64 0, .int .i64 0, .int .i64 0, .int .i64 0, .int .i64 0, .int .i64 0] hA ?_; clear hF hA; intro bA w1 hA hbA; (try simp only [uA] at hA); have hF := hA.facts; (try simp only [fA, and_true, true_and] at hF)) | ((with_reducible refine gst ?_); refine wS hA ?_; clear hF hA; intro w1 hA; (try simp only [uA] at hA); have hF := hA.facts; (try simp only [fA, and_true, true_and] at hF)) | ((with_reducible refine gbx ?_); refine wB hA ?_; clear hF hA; intro b1 w1 hA hb1; (try simp only [uA] at hA); have hF := hA.facts; (try simp only [fA, and_true, true_and] at hF)))
          refine (hri _).mono ?_
          rintro e w1 ⟨rfl, hx⟩
          have hB := hA.ext hx
          clear hF hA hx
          have hA := hB
          clear hB
          have hF := hA.facts
          (try simp only [uA] at hA); have hF := hA.facts; (try simp only [fA, and_true, true_and] at hF)
          go_wp2_with (first | ((with_reducible refine gst ?_); refine wS hA ?_; clear hF hA; intro w1 hA; (try simp only [uA] at hA); have hF := hA.facts; (try simp only [fA, and_true, true_and] at hF)) | ((with_reducible refine gbx ?_); refine wB hA ?_; clear hF hA; intro b1 w1 hA hb1; (try simp only [uA] at hA); have hF := hA.facts; (try simp only [fA, and_true, true_and] at hF)))
          refine (hcl _).mono ?_
          rintro e w1 ⟨rfl, hx⟩
          have hB := hA.ext hx
          clear hF hA hx
          have hA := hB
          clear hB
          have hF := hA.facts
          (try simp only [uA] at hA); have hF := hA.facts; (try simp only [fA, and_true, true_and] at hF)
          cases cb
          · simp only [Bool.and_false, Bool.and_true, Bool.true_and, Bool.false_eq_true, if_false] at hst
            go_wp2_with (first | ((with_reducible refine gst ?_); refine wS hA ?_; clear hF hA; intro w1 hA; (try simp only [uA] at hA); have hF := hA.facts; (try simp only [fA, and_true, true_and] at hF)) | ((with_reducible refine gbx ?_); refine wB hA ?_; clear hF hA; intro b1 w1 hA hb1; (try simp only [uA] at hA); have hF := hA.facts; (try simp only [fA, and_true, true_and] at hF)))
            go_roundg (gk - 1)
            case measure => have := hk'.out; omega
            case rel => exact ⟨ds ++ [⟨sf, sn, ⟨c0, c1, c2, c3, c4, c5, c6, c7⟩⟩], _, hA.pick (by with_reducible repeat (first | exact Picks.nil | refine Picks.cons (by with_reducible repeat (first | exact Sel.here | apply Sel.there)) ?_)), hsub'.out, hst.out, by have := hk'.out; simp; omega⟩
          · simp only [Bool.and_true, Bool.true_and, if_true] at hst
            go_wp2_with (first | ((with_reducible refine gst ?_); refine wS hA ?_; clear hF hA; intro w1 hA; (try simp only [uA] at hA); have hF := hA.facts; (try simp only [fA, and_true, true_and] at hF)) | ((with_reducible refine gbx ?_); refine wB hA ?_; clear hF hA; intro b1 w1 hA hb1; (try simp only [uA] at hA); have hF := hA.facts; (try simp only [fA, and_true, true_and] at hF)))
            try go_frame
            (refine wp_region_head 6 (Cl _ _ _) (by kernel_rfl) (by kernel_rfl) (Cl.drew hA) ?_); (simp only [List.take_succ_cons, List.take_zero, List.drop_succ_cons, List.drop_zero]); (have hn1 := Cl.none hA); (have hn2 := Cl.none2 hA); (repeat (first | go_big_quiet_skip | (go_big_quiet_want; (first | (refine quiet_loads_at (ty := 40) (n := 8) rfl rfl (by with_reducible repeat (first | exact Sel.here | apply Sel.there)) (by kernel_rfl) (by kernel_rfl) (by first | assumption | ((try simp only [List.drop_succ_cons, List.drop_zero, List.take_succ_cons, List.take_zero]) <;> exact rfl)) (by exact rfl) ?_; go_frame; go_big_quiet_on) | (refine quiet_load_at rfl rfl (by with_reducible repeat (first | exact Sel.here | apply Sel.there)) (by kernel_rfl) (by first | assumption | exact rfl) ?_; go_frame; go_big_quiet_on) | (go_big_quiet_op; (first | go_big_quiet_on | ((apply Exists.intro); (refine ⟨fun w1 hw => ?_, ?_⟩); (focus ((have hw := Cl.out hw); (first | exact through0 hw (hpa _) | exact through0 hw (hmg _)))); (go_big_quiet_on))))))))
            (refine wpQuiet_nil ?_); (intro w1 hB); (clear hF hA hn1 hn2); (have hA := Cl.out hB); (clear hB); (try simp only [uA] at hA); have hF := hA.facts; (try simp only [fA, and_true, true_and] at hF)
            go_wp2_with (first | ((with_reducible refine gst ?_); refine wS hA ?_; clear hF hA; intro w1 hA; (try simp only [uA] at hA); have hF := hA.facts; (try simp only [fA, and_true, true_and] at hF)) | ((with_reducible refine gbx ?_); refine wB hA ?_; clear hF hA; intro b1 w1 hA hb1; (try simp only [uA] at hA); have hF := hA.facts; (try simp only [fA, and_true, true_and] at hF)))
            go_roundg (gk - 1)
            case measure => have := hk'.out; omega
            case rel => exact ⟨ds ++ [⟨sf, sn, ⟨c0, c1, c2, c3, c4, c5, c6, c7⟩⟩], _, hA.pick (by with_reducible repeat (first | exact Picks.nil | refine Picks.cons (by with_reducible repeat (first | exact Sel.here | apply Sel.there)) ?_)), hsub'.out, hst.out, by have := hk'.out; simp; omega⟩
theorem ask_any {w : World} {p m : Nat} {es : List En} (h : Sep [IxP p m es] w) (c : Cm) (hf : c.foot.size ≤ 1000) (hp : c.path.size ≤ 1000) (hes : ∀ e ∈ es, e.foot.size ≤ 1000) (hl : es.length ≤ 1000000) (r t : Int) :
    Calls Tryd.prog 10 #[.pointer (some ⟨p, 0, none⟩), c.val, .agg #[.int .i64 r, .int .i64 t]] w fun e w' => e = .returned (askE es (keyC c) r t).val ∧ At [IxP p m es] w [IxP p m es] w' := by
  have hof := fun w => Cmd.of_any c w hf hp
  have hsz := Cmd.foot_size c hf hp
  unfold askE keyC
  cases hb : (footC c).2 with
  | false =>
    rw [hb] at hof
    simp only [Bool.false_eq_true, if_false] at hof ⊢
    have := ask_core h c.kind c.num c.foot c.req c.path c.mode c.n c.time hof (by decide) hes hl r t
    rw [Bool.false_and, askF_false] at this
    exact this
  | true =>
    rw [hb] at hof
    simp only [if_true] at hof ⊢
    have := ask_core h c.kind c.num c.foot c.req c.path c.mode c.n c.time hof hsz hes hl r t
    rw [Bool.true_and] at this
    exact this
end Go.Proofs.YtpbeennielgogaaDoor.Ix
