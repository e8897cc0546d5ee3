/- WireA, RegE, joined. -/
import Derived.Test.YtgbpfgdjnhbcgaaGreatDoorR10
set_option linter.unusedSimpArgs false
set_option linter.unusedVariables false
set_option maxRecDepth 100000
set_option maxHeartbeats 16000000
section
namespace Go.Proofs.YtgbpfgdjnhbcgaaGreatDoor.Wire
open Go.RowKit
def encY (x : Int) : List Value := [.int .u8 x]
theorem encY_len (x : Int) : (encY x).length = 1 := rfl
theorem encY_one (x : Int) : ∀ v ∈ encY x, v.oneCell' = true := by intro u hu; simp only [encY, List.mem_cons, List.not_mem_nil, or_false] at hu; subst hu; rfl
abbrev flatY (l : List Int) : List Value := l.flatMap encY
abbrev rowY (v : Value) (l : List Int) : Part := .row 5 1 v l.length (flatY l)
theorem rowY_snoc (v : Value) (l : List Int) (x : Int) : Part.row 5 1 v (l.length + 1) (flatY l ++ encY x) = rowY v (l ++ [x]) := rows_snoc (enc := encY) _ v l x
theorem rowY_app (v : Value) (l r : List Int) : Part.row 5 1 v (l.length + r.length) (flatY l ++ flatY r) = rowY v (l ++ r) := rows_app (enc := encY) _ v l r
theorem rowY_nil {L0 L : List Part} {w0 w : World} (h : At L0 w0 L w) : At L0 w0 (rowY (.slice none 0 0) [] :: L) w := h.row_nil 5 1
theorem infoY : (Tryz.prog.info? 5).map (fun i => (i.zero, i.size, i.bytes)) = some (some (.int .u8 0), 1, 1) := by kernel_rfl
def shortN : Nat → List Int
 | v => if h : v < 128 then [(v : Int)] else ((v % 128 + 128 : Nat) : Int) :: shortN (v / 128)
termination_by v => v
decreasing_by omega
theorem short_lo {v : Nat} (h : v < 128) : shortN v = [(v : Int)] := by rw [shortN, dif_pos h]
theorem short_hi {v : Nat} (h : 128 ≤ v) : shortN v = ((v % 128 + 128 : Nat) : Int) :: shortN (v / 128) := by rw [shortN, dif_neg (by omega)]
theorem short_len : ∀ (k v : Nat), v < 128 ^ (k + 1) → (shortN v).length ≤ k + 1
 | 0, v, h => by rw [short_lo (by simpa using h)]; simp
 | k + 1, v, h => by
  by_cases q : v < 128
  · rw [short_lo q]; simp
  · rw [short_hi (by omega), List.length_cons]
    have := short_len k (v / 128) (by rw [Nat.pow_succ] at h; exact Nat.div_lt_of_lt_mul (by rw [Nat.mul_comm]; exact h))
    omega
theorem or_fin : ∀ n : Fin 256, bits .or .u8 (n.val : Int) 128 = ((n.val % 128 + 128 : Nat) : Int) := by decide +kernel
theorem or_more (x : Nat) : bits .or .u8 ((x : Int) % 256) 128 = ((x % 128 + 128 : Nat) : Int) := by
 have := or_fin ⟨x % 256, Nat.mod_lt _ (by omega)⟩
 simp only at this
 rw [show ((x : Int) % 256) = ((x % 256 : Nat) : Int) from by omega, this]
 omega
def ShRel (w : World) (v : Nat) (k : Nat) (u0 u3 : Value) (wr : World) : Prop :=
 ∃ (x : Nat) (pre : List Int), u0 = .int .u64 x ∧ x < 128 ^ k ∧ pre.length + k = 10 ∧ shortN v = pre ++ shortN x ∧ At [] w [rowY u3 pre] wr
theorem short_any (v : Nat) (w : World) (hv : v < 18446744073709551616) : Calls Tryz.prog 86 #[.int .u64 v] w fun e w' => ∃ u, e = .returned u ∧ At [] w [rowY u (shortN v)] w' := by
 obtain ⟨i0, hi0, hz0, hz1, hz2⟩ := info_parts infoY
 have hA : At [] w [] w := At.start (L0 := []) trivial
 have hB := rowY_nil hA
 clear hA; have hA := hB; clear hB
 have hF := hA.facts; (try simp only [uZ] at hA hF)
 go_enter Tryz.func86, Tryz.ntmps86
 go_wp2_with fail
 try go_frame
 go_loopg [0, 3] 10 (ShRel w v)
 case atStart => exact ⟨v, [], rfl, by omega, by simp, by simp, hA⟩
 case round =>
  obtain ⟨x, pre, rfl, hx, hk, hs, hB⟩ := hrel
  clear hF hA; have hA := hB; clear hB
  obtain ⟨ax, n, cap, hpv, hpn⟩ := hA.row_hid (v := u3) (n := pre.length) (xs := flatY pre) sR
  subst hpv
  have hpn2 := hpn.out
  subst hpn2
  clear hpn
  have hF := hA.facts; (try simp only [uZ] at hA hF)
  have hone : ∀ (y : Int) w, (Instr.buildSlice 62 1 #[(0, .int .u8 y)]).run Tryz.prog w = .ok (.slice (some ⟨w.heap.size, 0, none⟩) 1 1) (w.alloc (.cells (encY y).toArray 5)) := fun y w => by kernel_rfl
  have hpl : pre.length ≤ 10 := by omega
  by_cases hq : x < 128
  · have hq' : (x : Int) < 128 := by omega
    have hm : (x : Int) % 256 = x := by omega
    have hs' := Lib.hid (hs.trans (by rw [short_lo hq]))
    clear hs
    go_wp2_with (first
     | ((with_reducible show wpList _ _ _ ({ dst := _, op := Op.buildSlice _ _ _, type := _, pos := _, after := _, guard := _ } :: _) _ _); refine wpList_one_at (e := 5) (vs := encY x) rfl rfl (by (try simp only [Act.eval, eV]) <;> exact rfl) (hone x) hA ?_; intro b2 w5 hB hb2; clear hF hA; have hA := hB; clear hB; have hF := hA.facts; (try simp only [uZ] at hA hF))
     | ((with_reducible show wpList _ _ _ ({ dst := _, op := Op.call { callee := Callee.builtin Builtin.append, args := _, argTypes := _ }, type := _, pos := _, after := _, guard := _ } :: _) _ _); refine wpList_append_at (e := 5) (size := 1) (v := .slice ax pre.length cap) (xs := flatY pre) (n := pre.length) (m := 1) (news := encY x) rfl _ _ 62 rfl Tryz.underlying62 hi0 hz0 hz1 hz2 rfl (by omega) hA sR (by (try simp only [Act.eval, eV]) <;> exact rfl) (by (try simp only [Act.eval, eV]) <;> exact rfl) rfl (hA.cells_reads sR _ _) (encY_one _) (by unfold maxLen; omega) (by omega) ?_; intro v2 w7 hB; rw [rowY_snoc] at hB; clear hF hA; have hA := hB; clear hB; have hF := hA.facts; (try simp only [uZ] at hA hF)))
    go_ret
    exact ⟨v2, rfl, by rw [hs'.out]; exact hA.pick pZ⟩
  · have hq' : ¬ (x : Int) < 128 := by omega
    have hg0 : 0 < gk := by
     rcases Nat.eq_zero_or_pos gk with q | q
     · subst q; simp at hx; omega
     · exact q
    have hx' := Lib.hid hx
    clear hx
    have hor := or_more x
    have hs' := Lib.hid (hs.trans (by rw [short_hi (by omega)]))
    clear hs
    obtain ⟨y, hy⟩ : ∃ y : Int, ((x % 128 + 128 : Nat) : Int) = y := ⟨_, rfl⟩
    rw [hy] at hor hs'
    go_wp2_with (first
     | ((with_reducible show wpList _ _ _ ({ dst := _, op := Op.buildSlice _ _ _, type := _, pos := _, after := _, guard := _ } :: _) _ _); refine wpList_one_at (e := 5) (vs := encY y) rfl rfl (by (try simp only [Act.eval, eV]) <;> exact rfl) (hone y) hA ?_; intro b2 w5 hB hb2; clear hF hA; have hA := hB; clear hB; have hF := hA.facts; (try simp only [uZ] at hA hF))
     | ((with_reducible show wpList _ _ _ ({ dst := _, op := Op.call { callee := Callee.builtin Builtin.append, args := _, argTypes := _ }, type := _, pos := _, after := _, guard := _ } :: _) _ _); refine wpList_append_at (e := 5) (size := 1) (v := .slice ax pre.length cap) (xs := flatY pre) (n := pre.length) (m := 1) (news := encY y) rfl _ _ 62 rfl Tryz.underlying62 hi0 hz0 hz1 hz2 rfl (by omega) hA sR (by (try simp only [Act.eval, eV]) <;> exact rfl) (by (try simp only [Act.eval, eV]) <;> exact rfl) rfl (hA.cells_reads sR _ _) (encY_one _) (by unfold maxLen; omega) (by omega) ?_; intro v2 w7 hB; rw [rowY_snoc] at hB; clear hF hA; have hA := hB; clear hB; have hF := hA.facts; (try simp only [uZ] at hA hF)))
    go_roundg (gk - 1)
    case measure => omega
    case rel =>
     refine ⟨x / 128, pre ++ [y], by simp, ?_, by simp; omega, by rw [hs'.out]; simp, hA.pick pZ⟩
     have hx := hx'.out
     have hg1 : gk = (gk - 1) + 1 := by omega
     rw [hg1, Nat.pow_succ, Nat.mul_comm] at hx
     exact Nat.div_lt_of_lt_mul hx
def byteN (v k : Nat) : Int := ((v / 2 ^ k % 256 : Nat) : Int)
def fixL (v : Nat) : List Int := [byteN v 56, byteN v 48, byteN v 40, byteN v 32, byteN v 24, byteN v 16, byteN v 8, byteN v 0]
theorem wpList_make_at {P : Program} {ops : Array Oper} {rest : List Oper} {o : Oper} {a : Act} {Q : Exit → Act → World → Prop} {L0 L : List Part} {w0 w : World} {t e : TypeId} {i : TypeInfo} {z : Value} {kl kc : IntKind} (hg : o.guard = none) (l c : Operand) (hop : o.op = .makeSlice t l c)
 (ht : P.underlying t = some (.slice e)) (hi : P.info? e = some i) (hz : i.zero = some z) (hsize : i.size = 1) (hz1 : z.cells = #[z]) (n : Nat) (hl : a.eval l = .int kl (n : Int)) (hc : a.eval c = .int kc (n : Int)) (hbytes : i.bytes * n ≤ 281474976710656) (h63 : n ≤ 9223372036854775807)
 (h : At L0 w0 L w) (hK : ∀ b w', At L0 w0 (Part.cells b (List.replicate n z) e :: L) w' → w0.heap.size ≤ b → wpList P ops Q rest (a.put o.dst (.slice (some ⟨b, 0, none⟩) n n)) w') : wpList P ops Q (o :: rest) a w := by
 have hr := run_make_row t e i z ht hi hz hsize hz1 kl kc n hbytes h63 w
 have hA := h.alloc (List.replicate n z) e
 rw [show (List.replicate n z).toArray = madeCells #[z] n from by rw [← toList_madeCells_one z n]] at hA
 refine wpList_val hg ?_ (hK _ _ hA h.size)
 simp [execOp, hop, hl, hc, hr, Result.andThen]
def partL (v i : Nat) : List Int := (fixL v).take i ++ List.replicate (8 - i) 0
def ByRel (w : World) (g v : Nat) (k : Nat) (u : Value) (wr : World) : Prop := ∃ i : Nat, u = .int .i64 i ∧ i + k = 8 ∧ At [] w [Part.cells g (flatY (partL v i)) 5] wr
theorem bytes8_any (v : Nat) (w : World) (hv : v < 18446744073709551616) : Calls Tryz.prog 65 #[.int .u64 v, .int .i64 8] w fun e w' => ∃ u, e = .returned u ∧ At [] w [rowY u (fixL v)] w' := by
 obtain ⟨i0, hi0, hz0, hz1, hz2⟩ := info_parts infoY
 have hA : At [] w [] w := At.start (L0 := []) trivial
 have hF := hA.facts
 go_enter Tryz.func65, Tryz.ntmps65
 go_wp2_with (refine wpList_make_at rfl _ _ rfl Tryz.underlying62 hi0 hz0 hz1 rfl 8 (by (try simp only [Act.eval, eV]) <;> exact rfl) (by (try simp only [Act.eval, eV]) <;> exact rfl) (by rw [hz2]; omega) (by omega) hA ?_; intro g w1 hB hg; clear hF hA; have hA := hB; clear hB; have hF := hA.facts; (try simp only [uZ] at hA hF))
 try go_frame
 go_loopg [14] 8 (ByRel w g v)
 case atStart => exact ⟨0, rfl, by simp, hA⟩
 case round =>
  obtain ⟨i, rfl, hk, hB⟩ := hrel
  clear hF hA
  by_cases hi : i < 8
  · have hcase : i = 0 ∨ i = 1 ∨ i = 2 ∨ i = 3 ∨ i = 4 ∨ i = 5 ∨ i = 6 ∨ i = 7 := by omega
    rcases hcase with rfl | rfl | rfl | rfl | rfl | rfl | rfl | rfl
    · have hA : At [] w [Part.cells g [.int .u8 0, .int .u8 0, .int .u8 0, .int .u8 0, .int .u8 0, .int .u8 0, .int .u8 0, .int .u8 0] 5] wr := hB
      clear hB
      have hF := hA.facts
      have hmm : min (max (8 : Int) 0) 8 = 8 := by omega
      have hF := hA.facts; (try simp only [uZ] at hA hF)
      go_wp2_with (first | ((with_reducible refine gst ?_); refine wT hA ?_; clear hF hA; intro w1 hA hF; (try simp only [uZ] at hA hF)) | ((with_reducible refine gbx ?_); refine wC hA ?_; clear hF hA; intro b1 w1 hA hb1 hF; (try simp only [uZ] at hA hF)))
      have hbb : (v : Int) / 72057594037927936 = byteN v 56 := by unfold byteN; omega
      rw [hbb] at hA
      go_roundg (gk - 1)
      case measure => omega
      case rel => exact ⟨1, by simp, by omega, hA⟩
    · have hA : At [] w [Part.cells g [.int .u8 (byteN v 56), .int .u8 0, .int .u8 0, .int .u8 0, .int .u8 0, .int .u8 0, .int .u8 0, .int .u8 0] 5] wr := hB
      clear hB
      have hF := hA.facts
      have hmm : min (max (8 : Int) 0) 8 = 8 := by omega
      have hF := hA.facts; (try simp only [uZ] at hA hF)
      go_wp2_with (first | ((with_reducible refine gst ?_); refine wT hA ?_; clear hF hA; intro w1 hA hF; (try simp only [uZ] at hA hF)) | ((with_reducible refine gbx ?_); refine wC hA ?_; clear hF hA; intro b1 w1 hA hb1 hF; (try simp only [uZ] at hA hF)))
      have hbb : (v : Int) / 281474976710656 % 256 = byteN v 48 := by unfold byteN; omega
      rw [hbb] at hA
      go_roundg (gk - 1)
      case measure => omega
      case rel => exact ⟨2, by simp, by omega, hA⟩
    · have hA : At [] w [Part.cells g [.int .u8 (byteN v 56), .int .u8 (byteN v 48), .int .u8 0, .int .u8 0, .int .u8 0, .int .u8 0, .int .u8 0, .int .u8 0] 5] wr := hB
      clear hB
      have hF := hA.facts
      have hmm : min (max (8 : Int) 0) 8 = 8 := by omega
      have hF := hA.facts; (try simp only [uZ] at hA hF)
      go_wp2_with (first | ((with_reducible refine gst ?_); refine wT hA ?_; clear hF hA; intro w1 hA hF; (try simp only [uZ] at hA hF)) | ((with_reducible refine gbx ?_); refine wC hA ?_; clear hF hA; intro b1 w1 hA hb1 hF; (try simp only [uZ] at hA hF)))
      have hbb : (v : Int) / 1099511627776 % 256 = byteN v 40 := by unfold byteN; omega
      rw [hbb] at hA
      go_roundg (gk - 1)
      case measure => omega
      case rel => exact ⟨3, by simp, by omega, hA⟩
    · have hA : At [] w [Part.cells g [.int .u8 (byteN v 56), .int .u8 (byteN v 48), .int .u8 (byteN v 40), .int .u8 0, .int .u8 0, .int .u8 0, .int .u8 0, .int .u8 0] 5] wr := hB
      clear hB
      have hF := hA.facts
      have hmm : min (max (8 : Int) 0) 8 = 8 := by omega
      have hF := hA.facts; (try simp only [uZ] at hA hF)
      go_wp2_with (first | ((with_reducible refine gst ?_); refine wT hA ?_; clear hF hA; intro w1 hA hF; (try simp only [uZ] at hA hF)) | ((with_reducible refine gbx ?_); refine wC hA ?_; clear hF hA; intro b1 w1 hA hb1 hF; (try simp only [uZ] at hA hF)))
      have hbb : (v : Int) / 4294967296 % 256 = byteN v 32 := by unfold byteN; omega
      rw [hbb] at hA
      go_roundg (gk - 1)
      case measure => omega
      case rel => exact ⟨4, by simp, by omega, hA⟩
    · have hA : At [] w [Part.cells g [.int .u8 (byteN v 56), .int .u8 (byteN v 48), .int .u8 (byteN v 40), .int .u8 (byteN v 32), .int .u8 0, .int .u8 0, .int .u8 0, .int .u8 0] 5] wr := hB
      clear hB
      have hF := hA.facts
      have hmm : min (max (8 : Int) 0) 8 = 8 := by omega
      have hF := hA.facts; (try simp only [uZ] at hA hF)
      go_wp2_with (first | ((with_reducible refine gst ?_); refine wT hA ?_; clear hF hA; intro w1 hA hF; (try simp only [uZ] at hA hF)) | ((with_reducible refine gbx ?_); refine wC hA ?_; clear hF hA; intro b1 w1 hA hb1 hF; (try simp only [uZ] at hA hF)))
      have hbb : (v : Int) / 16777216 % 256 = byteN v 24 := by unfold byteN; omega
      rw [hbb] at hA
      go_roundg (gk - 1)
      case measure => omega
      case rel => exact ⟨5, by simp, by omega, hA⟩
    · have hA : At [] w [Part.cells g [.int .u8 (byteN v 56), .int .u8 (byteN v 48), .int .u8 (byteN v 40), .int .u8 (byteN v 32), .int .u8 (byteN v 24), .int .u8 0, .int .u8 0, .int .u8 0] 5] wr := hB
      clear hB
      have hF := hA.facts
      have hmm : min (max (8 : Int) 0) 8 = 8 := by omega
      have hF := hA.facts; (try simp only [uZ] at hA hF)
      go_wp2_with (first | ((with_reducible refine gst ?_); refine wT hA ?_; clear hF hA; intro w1 hA hF; (try simp only [uZ] at hA hF)) | ((with_reducible refine gbx ?_); refine wC hA ?_; clear hF hA; intro b1 w1 hA hb1 hF; (try simp only [uZ] at hA hF)))
      have hbb : (v : Int) / 65536 % 256 = byteN v 16 := by unfold byteN; omega
      rw [hbb] at hA
      go_roundg (gk - 1)
      case measure => omega
      case rel => exact ⟨6, by simp, by omega, hA⟩
    · have hA : At [] w [Part.cells g [.int .u8 (byteN v 56), .int .u8 (byteN v 48), .int .u8 (byteN v 40), .int .u8 (byteN v 32), .int .u8 (byteN v 24), .int .u8 (byteN v 16), .int .u8 0, .int .u8 0] 5] wr := hB
      clear hB
      have hF := hA.facts
      have hmm : min (max (8 : Int) 0) 8 = 8 := by omega
      have hF := hA.facts; (try simp only [uZ] at hA hF)
      go_wp2_with (first | ((with_reducible refine gst ?_); refine wT hA ?_; clear hF hA; intro w1 hA hF; (try simp only [uZ] at hA hF)) | ((with_reducible refine gbx ?_); refine wC hA ?_; clear hF hA; intro b1 w1 hA hb1 hF; (try simp only [uZ] at hA hF)))
      have hbb : (v : Int) / 256 % 256 = byteN v 8 := by unfold byteN; omega
      rw [hbb] at hA
      go_roundg (gk - 1)
      case measure => omega
      case rel => exact ⟨7, by simp, by omega, hA⟩
    · have hA : At [] w [Part.cells g [.int .u8 (byteN v 56), .int .u8 (byteN v 48), .int .u8 (byteN v 40), .int .u8 (byteN v 32), .int .u8 (byteN v 24), .int .u8 (byteN v 16), .int .u8 (byteN v 8), .int .u8 0] 5] wr := hB
      clear hB
      have hF := hA.facts
      have hmm : min (max (8 : Int) 0) 8 = 8 := by omega
      have hF := hA.facts; (try simp only [uZ] at hA hF)
      go_wp2_with (first | ((with_reducible refine gst ?_); refine wT hA ?_; clear hF hA; intro w1 hA hF; (try simp only [uZ] at hA hF)) | ((with_reducible refine gbx ?_); refine wC hA ?_; clear hF hA; intro b1 w1 hA hb1 hF; (try simp only [uZ] at hA hF)))
      have hbb : (v : Int) % 256 = byteN v 0 := by unfold byteN; omega
      rw [hbb] at hA
      go_roundg (gk - 1)
      case measure => omega
      case rel => exact ⟨8, by simp, by omega, hA⟩
  · have h8 : i = 8 := by omega
    subst h8
    have hA : At [] w [Part.cells g (flatY (fixL v)) 5] wr := hB
    clear hB
    have hA2 : At [] w [rowY (.slice (some ⟨g, 0, none⟩) 8 8) (fixL v)] wr := hA.row_shut (e := 5) (size := 1) (n := 8) (cap := 8) (xs := flatY (fixL v)) .here rfl (by omega) (by unfold maxLen; omega) rfl
    have hmm : min (max (8 : Int) 0) 8 = 8 := by omega
    go_wp2_with fail
    go_ret
    exact ⟨_, rfl, hA2⟩
end Go.Proofs.YtgbpfgdjnhbcgaaGreatDoor.Wire
end
section
namespace Go
open _root_.Go.Proofs.YtgbpfgdjnhbcgaaGreatDoor
open Go.RowKit
section
variable {P : Program} {ops : Array Oper} {Q : Exit → Act → World → Prop} {md : Region.Mode} {S : World → Prop} {L0 L F : List Part} {w0 w : World}
theorem wpAnyH_one {i fuel : Nat} {listed : Array Bool} {a : Act} (hr : Region.ready md ops listed = [i]) (h : wpOp P ops Q i (fun a' w' => S w' ∧ wpAnyH P md ops Q S fuel (listed.setIfInBounds i true) a' w') a w) : wpAnyH P md ops Q S (fuel + 1) listed a w :=
 wpAnyH_all hr (by simp) (fun k hk => by rw [List.mem_singleton.1 hk]; exact h)
theorem wpAnyH_two {i j fuel : Nat} {listed : Array Bool} {a : Act} (hr : Region.ready md ops listed = [i, j]) (h1 : wpOp P ops Q i (fun a' w' => S w' ∧ wpAnyH P md ops Q S fuel (listed.setIfInBounds i true) a' w') a w)
 (h2 : wpOp P ops Q j (fun a' w' => S w' ∧ wpAnyH P md ops Q S fuel (listed.setIfInBounds j true) a' w') a w) : wpAnyH P md ops Q S (fuel + 1) listed a w :=
 wpAnyH_all hr (by simp) (fun k hk => by
  rcases List.mem_cons.1 hk with rfl | hk
  · exact h1
  · rw [List.mem_singleton.1 hk]; exact h2)
theorem wpAnyH_takeD {i : Nat} {oi : Oper} {v : Value} {d : Option Tmp} {fuel : Nat} {listed : Array Bool} {a : Act} (hi : ops[i]? = some oi) (hd : oi.dst = d)
 (hs : Region.noSelect ops = true) (hf : Region.free md ops listed i = true) (hr : (Region.ready md ops listed).contains i = true)
 (hQ : ∀ c a w, Q (.panic c) (a.put oi.dst v) w → Q (.panic c) a w) (hw : Region.wanted oi (yielded ops a.tmps) = true) (hrun : ∀ w, S w → (execOp a.eval oi).run P w = .ok (.value v) w) (hS : S w)
 (h : wpAnyH P md ops Q S fuel (listed.setIfInBounds i true) (a.put d v) w) : wpAnyH P md ops Q S (fuel + 1) listed a w := by
 subst hd
 exact wpAnyH_take hi hs hf hr hQ (.inl ⟨hw, hrun⟩) hS h
theorem opOne_at {i : Nat} {d : Option Tmp} {o : Oper} {a : Act} {K : Act → World → Prop} {t : TypeId} {x : Operand} {e : TypeId} (ho : ops[i]? = some o) (hd : o.dst = d) (hw : Region.wanted o (yielded ops a.tmps) = true) (hop : o.op = .buildSlice t 1 #[(0, x)]) {xv : Value} (hx : a.eval x = xv) {vs : List Value}
 (hrun : ∀ w, (Instr.buildSlice t 1 #[(0, xv)]).run P w = .ok (.slice (some ⟨w.heap.size, 0, none⟩) 1 1) (w.alloc (.cells vs.toArray e))) (h : At L0 w0 L w)
 (hK : ∀ b w', At L0 w0 (Part.cells b vs e :: L) w' → K (a.put d (.slice (some ⟨b, 0, none⟩) 1 1)) w') : wpOp P ops Q i K a w := by
 subst hd
 exact wpOp_val ho hw (v := .slice (some ⟨w.heap.size, 0, none⟩) 1 1) (w' := w.alloc (.cells vs.toArray e)) (by simp [execOp, hop, hx, hrun, Result.andThen]) (hK _ _ (h.alloc vs e))
theorem opAppend_at {k : Nat} {d : Option Tmp} {o : Oper} {a : Act} {K : Act → World → Prop} {e : TypeId} {size n : Nat} {v : Value} {xs : List Value} {i : TypeInfo} {z : Value} {bytes : Nat} (hok : ops[k]? = some o) (hd : o.dst = d) (hw : Region.wanted o (yielded ops a.tmps) = true) (hg : o.guard = none) (s' x : Operand) (t : TypeId) (ho : o.op = .call { callee := .builtin .append, args := #[s', x], argTypes := #[t, t] })
 (ht : P.underlying t = some (.slice e)) (hi : P.info? e = some i) (hz : i.zero = some z) (hsize : i.size = size) (hby : i.bytes = bytes) (hzs : z.cells.size = size) (hsz : 0 < size)
 (h : At L0 w0 L w) (s : Sel (Part.row e size v n xs) L F) (hs : a.eval s' = v) {xv : Value} {m : Nat} {news : List Value} (hxv : a.eval x = xv) (hl : news.length = m * size) (hx : Reads w xv m news) (h1 : ∀ u ∈ news, u.oneCell' = true)
 (h63 : n + m ≤ maxLen) (hbytes : (n + m) * bytes ≤ 140737488355328)
 (hK : ∀ v' w', At L0 w0 (Part.row e size v' (n + m) (xs ++ news) :: F) w' → K (a.put d v') w') : wpOp P ops Q k K a w := by
 subst hd
 have hst := step_append_all w (K := K) (Q := Q) (E := True) (ops := ops) (a := a) (o := o) hg s' x t ho 0 e i z size bytes ht hi hz hsize hby hzs hsz v n xs hs (h.get s) xv m news hxv hl hx h1 h63 hbytes (Nat.zero_le _) (fun v' w' h2 h3 h4 =>
  hK v' w' (h.turn s _ h2 (fun b hb => by
   rcases h4 with h4 | h4
   · exact .inl (show v.ownBlock = some b from by rw [← h4]; exact hb)
   · right
     have hb' : v'.ownBlock = some b := hb
     rw [h4] at hb'
     cases hb'
     exact Nat.le_refl _) (exc_grown h3)))
 rw [if_pos hw] at hst
 unfold wpOp
 simp only [hok, hw, if_true]
 exact .inl hst
theorem opCall_at {i : Nat} {d : Option Tmp} {o : Oper} {a : Act} {K : Act → World → Prop} (ho : ops[i]? = some o) (hd : o.dst = d) (hw : Region.wanted o (yielded ops a.tmps) = true) {fn : FuncId} {args : Array Value} (hrun : (execOp a.eval o).run P w = .ok (.enter fn args) w)
 {R : Value → World → Prop} (hc : Calls P fn args w fun e w' => ∃ u, e = .returned u ∧ R u w') (hK : ∀ u w', R u w' → K (a.put d u) w') : wpOp P ops Q i K a w := by
 subst hd
 exact wpOp_call ho hw hrun hc (fun e w' ⟨u, he, hr⟩ => ⟨u, he, hK u w' hr⟩)
theorem opStore_at {i : Nat} {o : Oper} {a : Act} {K : Act → World → Prop} (ho : ops[i]? = some o) (hd : o.dst = none) (hw : Region.wanted o (yielded ops a.tmps) = true) {ty : TypeId} {x y : Operand} (hop : o.op = .store ty x y) {b j : Nat} (hx : a.eval x = .pointer (some ⟨b, j, none⟩)) {v : Value} (hy : a.eval y = v) {vs : List Value} (hv : v.cells = vs.toArray)
 (h : At L0 w0 L w) {c : List Value} {T : TypeId} (s : Sel (Part.cells b c T) L F) (hi : (P.info? ty).map (·.size) = some vs.length) (h1 : vs.all (·.oneCell') = true) (hj : j + vs.length ≤ c.length)
 (hK : ∀ w', At L0 w0 (Part.cells b (setL c j vs) T :: F) w' → K (a.put none undef) w') : wpOp P ops Q i K a w := by
 have hb : BlockIs w b c T := h.get s
 have hs : v.cells.size = vs.length := by rw [hv]; simp
 have h1' : v.cells.all (·.oneCell') = true := by
  rw [hv, Array.all_eq_true_iff_forall_mem]
  intro u hu
  exact List.all_eq_true.1 h1 u (by simpa using hu)
 have hrun := run_storeAt_cells (P := P) w b j ty v (hb.there j _ (by omega)) (by rw [hs]; exact hi) h1'
 rw [show v.cells.toList = vs from by rw [hv]] at hrun
 refine wpOp_unit ho hw (w' := _) ?_ (by rw [hd]; exact hK _ (h.stores s j vs))
 simp [execOp, hop, hx, hy, hrun, Result.andThen]
end
end Go
end
section
namespace Go
open _root_.Go.Proofs.YtgbpfgdjnhbcgaaGreatDoor
open Go.RowKit
theorem tZ {P : Program} {ops : Array Oper} {Q : Exit → Act → World → Prop} {md : Region.Mode} {S : World → Prop} {w : World} {fuel : Nat} {listed : Array Bool} {a : Act} {oi : Oper} (i d : Nat) (v : Value) (hi : ops[i]? = some oi := by exact rfl) (hd : oi.dst = some d := by exact rfl) (hs : Region.noSelect ops = true := by kernel_rfl) (hf : Region.free md ops listed i = true := by kernel_rfl) (hr : (Region.ready md ops listed).contains i = true := by kernel_rfl) (hQ : ∀ c a w, Q (.panic c) (a.put oi.dst v) w → Q (.panic c) a w := by exact fun _ _ _ h => h) (hw : Region.wanted oi (yielded ops a.tmps) = true := by exact rfl) (r : ∀ w, S w → (execOp a.eval oi).run P w = .ok (.value v) w) (s : S w) (h : wpAnyH P md ops Q S fuel (listed.setIfInBounds i true) (a.put (some d) v) w) : wpAnyH P md ops Q S (fuel + 1) listed a w := wpAnyH_takeD hi hd hs hf hr hQ hw r s h
theorem tP {P : Program} {ops : Array Oper} {Q : Exit → Act → World → Prop} {md : Region.Mode} {S : World → Prop} {w : World} {fuel : Nat} {listed : Array Bool} {a : Act} {oi : Oper} (i d : Nat) (v : Value) (hi : ops[i]? = some oi := by exact rfl) (hd : oi.dst = some d := by exact rfl) (hs : Region.noSelect ops = true := by kernel_rfl) (hf : Region.free md ops listed i = true := by kernel_rfl) (hr : (Region.ready md ops listed).contains i = true := by kernel_rfl) (hQ : ∀ c a w, Q (.panic c) (a.put oi.dst v) w → Q (.panic c) a w := by exact fun _ _ _ h => h) (hw : Region.wanted oi (yielded ops a.tmps) = true := by exact rfl) (r : ∀ w, S w → (execOp a.eval oi).run P w = .ok (.value v) w := by intro _ _; first | (simp [execOp, go_sem, Act.eval, Act.put]; done) | kernel_rfl) (s : S w) (h : wpAnyH P md ops Q S fuel (listed.setIfInBounds i true) (a.put (some d) v) w) : wpAnyH P md ops Q S (fuel + 1) listed a w := wpAnyH_takeD hi hd hs hf hr hQ hw r s h
end Go
end
section
namespace Go
open _root_.Go.Proofs.YtgbpfgdjnhbcgaaGreatDoor
open Go.RowKit
end Go
end
