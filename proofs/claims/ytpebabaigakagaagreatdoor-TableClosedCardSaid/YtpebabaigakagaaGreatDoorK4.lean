/- LeaseW7, LeaseW9, LeaseQa, RegT, joined. -/
import Derived.Test.YtpebabaigakagaaGreatDoorK3
import Derived.Test.YtpebabaigakagaaGreatDoorK1
section
namespace Go.Proofs.YtpebabaigakagaaGreatDoor.Lease
open Go.RowKit
open Go.Maps (Keyed)
set_option linter.unusedSimpArgs false
set_option linter.unusedVariables false

set_option maxRecDepth 100000 in
theorem end_no {w : World} {p m : Nat} {ss : List Ses} (h : Sep [BookP p m ss] w) {n : Int} {f : ByteArray} (h0 : 0 ≤ n) (h1 : n < big64) (hf : f.size ≤ maxLen) (ho : (look ss n f).op = false) :
    Calls Tryz.prog 65 #[.pointer (some ⟨p, 0, none⟩), .agg #[.int .u64 n, .string f]] w fun e w' => e = .returned (.int .i64 50) ∧ At [BookP p m ss] w [BookP p m ss] w' := by
  have hA := At.start h
  have hF := hA.facts
  clear h
  have hfd : ∀ a b c d e w, (Instr.field 38 (.agg #[a, b, c, d, e]) 0).run Tryz.prog w = .ok a w := fun _ _ _ _ _ _ => by kernel_rfl
  go_enter Tryz.func65, Tryz.ntmps65
  go_wp2_with (first | ((with_reducible refine gst ?_); refine wS hA ?_; clear hF hA; intro w1 hA; (try simp only [uA] at hA); have hF := hA.facts; (try simp only [fA, and_true, true_and] at hF)) | ((with_reducible refine gbx ?_); refine wB hA ?_; clear hF hA; intro b1 w1 hA hb1; (try simp only [uA] at hA); have hF := hA.facts; (try simp only [fA, and_true, true_and] at hF)))
  refine (info_any (hA.sep1 sR) h0 h1 hf).mono ?_
  unfold Ses.info
  rw [ho]
  rintro e w1 ⟨rfl, hT⟩; have hB := hA.call1 sR hT; clear hF hA hT; have hA := hB; clear hB; (try simp only [uA] at hA); have hF := hA.facts; (try simp only [fA, and_true, true_and] at hF)
  go_wp2_with (first | ((with_reducible refine gst ?_); refine wS hA ?_; clear hF hA; intro w1 hA; (try simp only [uA] at hA); have hF := hA.facts; (try simp only [fA, and_true, true_and] at hF)) | ((with_reducible refine gbx ?_); refine wB hA ?_; clear hF hA; intro b1 w1 hA hb1; (try simp only [uA] at hA); have hF := hA.facts; (try simp only [fA, and_true, true_and] at hF)))
  go_ret
  exact ⟨rfl, hA.only1 sR⟩
set_option maxRecDepth 100000 in
theorem end_yes {w : World} {p m : Nat} {l1 l2 : List Ses} {s : Ses} (h : Sep [BookP p m (l1 ++ s :: l2)] w) {n : Int} {f : ByteArray} (h0 : 0 ≤ n) (h1 : n < big64) (hf : f.size ≤ maxLen) (hn : find (l1 ++ s :: l2) n f = some s) (hso : s.op = true) :
    Calls Tryz.prog 65 #[.pointer (some ⟨p, 0, none⟩), .agg #[.int .u64 n, .string f]] w fun e w' => e = .returned (.int .i64 0) ∧ At [BookP p m (l1 ++ s :: l2)] w [BookP p m (l1 ++ s.ended :: l2)] w' := by
  obtain ⟨kl, hk⟩ := keyS h0 h1 hf
  have hmem := Lib.hid (find_mem hn)
  have hA := At.start h
  have hF := hA.facts
  clear h
  have hk' : look (l1 ++ s :: l2) n f = s := by unfold look; rw [hn]; rfl
  have ho : (look (l1 ++ s :: l2) n f).op = true := by rw [hk']; exact hso
  clear hk' hso
  unfold keyV at *
  have hfd : ∀ a b c d e w, (Instr.field 38 (.agg #[a, b, c, d, e]) 0).run Tryz.prog w = .ok a w := fun _ _ _ _ _ _ => by kernel_rfl
  go_enter Tryz.func65, Tryz.ntmps65
  go_wp2_with (first | ((with_reducible refine gst ?_); refine wS hA ?_; clear hF hA; intro w1 hA; (try simp only [uA] at hA); have hF := hA.facts; (try simp only [fA, and_true, true_and] at hF)) | ((with_reducible refine gbx ?_); refine wB hA ?_; clear hF hA; intro b1 w1 hA hb1; (try simp only [uA] at hA); have hF := hA.facts; (try simp only [fA, and_true, true_and] at hF)))
  refine (info_any (hA.sep1 sR) h0 h1 hf).mono ?_
  unfold Ses.info
  rw [ho]
  rintro e w1 ⟨rfl, hT⟩; have hB := hA.call1 sR hT; clear hF hA hT; have hA := hB; clear hB; (try simp only [uA] at hA); have hF := hA.facts; (try simp only [fA, and_true, true_and] at hF)
  go_wp2_with (first | ((with_reducible refine gst ?_); refine wS hA ?_; clear hF hA; intro w1 hA; (try simp only [uA] at hA); have hF := hA.facts; (try simp only [fA, and_true, true_and] at hF)) | ((with_reducible refine gbx ?_); refine wB hA ?_; clear hF hA; intro b1 w1 hA hb1; (try simp only [uA] at hA); have hF := hA.facts; (try simp only [fA, and_true, true_and] at hF)))
  have hA := open1 hA sR
  simp only [Ses.cells] at hA
  (try simp only [uA] at hA); have hF := hA.facts; (try simp only [fA, and_true, true_and] at hF)
  have hl : ∀ q, (Instr.lookup 78 (.map (some m)) (.agg #[.int .u64 n, .string f]) false).run Tryz.prog (w1.drewN q) = .ok s.ptr (w1.drewN q) := fun q =>
    MapAt.look_some (w := w1.drewN q) ((hA.drewN q).get (A := mapC m (ents (l1 ++ s :: l2))) sR) lawS Tryz.underlying78 hk hmem.out false
  unfold Ses.ptr at hl
  (refine wp_region_head 9 (fun w' => ∃ n, w' = World.drewN _ n) (by kernel_rfl) (by kernel_rfl) ⟨1, rfl⟩ ?_); (simp only [List.take_succ_cons, List.take_zero, List.drop_succ_cons, List.drop_zero]); (repeat (first | go_big_quiet_step (fail) | quiet_step (fail))); (refine wpQuiet_nil ?_); (rintro _ ⟨nq, rfl⟩)
  have hA := hA.drewN nq; generalize World.drewN _ nq = w1 at *; clear hF; (try simp only [uA] at hA); have hF := hA.facts; (try simp only [fA, and_true, true_and] at hF)
  go_wp2_with (first | ((with_reducible refine gst ?_); refine wS hA ?_; clear hF hA; intro w1 hA; (try simp only [uA] at hA); have hF := hA.facts; (try simp only [fA, and_true, true_and] at hF)) | ((with_reducible refine gbx ?_); refine wB hA ?_; clear hF hA; intro b1 w1 hA hb1; (try simp only [uA] at hA); have hF := hA.facts; (try simp only [fA, and_true, true_and] at hF)))
  go_ret
  refine ⟨rfl, ?_⟩
  have e2 : ents (l1 ++ s :: l2) = ents (l1 ++ s.ended :: l2) := by simp [ents, ent, Ses.key, Ses.ptr, Ses.ended]
  rw [e2] at hA
  exact close1 (m := m) (s := s.ended) hA sR sZ sZ sZ sZ


set_option maxRecDepth 100000 in
theorem expire_early {w : World} {p m : Nat} {ss : List Ses} (h : Sep [BookP p m ss] w) {n : Int} {f : ByteArray} (h0 : 0 ≤ n) (h1 : n < big64) (hf : f.size ≤ maxLen) (time : Int) (ho : (look ss n f).op = true) (ht : time < (look ss n f).dl) :
    Calls Tryz.prog 38 #[.pointer (some ⟨p, 0, none⟩), .agg #[.int .u64 n, .string f], .int .i64 time] w fun e w' => e = .returned (.int .i64 54) ∧ At [BookP p m ss] w [BookP p m ss] w' := by
  have hA := At.start h
  have hF := hA.facts
  clear h
  go_enter Tryz.func38, Tryz.ntmps38
  go_wp2_with (first | ((with_reducible refine gst ?_); refine wS hA ?_; clear hF hA; intro w1 hA; (try simp only [uA] at hA); have hF := hA.facts; (try simp only [fA, and_true, true_and] at hF)) | ((with_reducible refine gbx ?_); refine wB hA ?_; clear hF hA; intro b1 w1 hA hb1; (try simp only [uA] at hA); have hF := hA.facts; (try simp only [fA, and_true, true_and] at hF)) | ((with_reducible refine gal ?_); refine wA 38 (.agg #[.bool false, .bool false, .int .i64 0, .int .i64 0, .int .i64 0]) [.bool false, .bool false, .int .i64 0, .int .i64 0, .int .i64 0] hA ?_; clear hF hA; intro b1 w1 hA hb1; (try simp only [uA] at hA); have hF := hA.facts; (try simp only [fA, and_true, true_and] at hF)))
  refine (info_any (hA.sep1 sR) h0 h1 hf).mono ?_
  unfold Ses.info
  rw [ho]
  rintro e w1 ⟨rfl, hT⟩; have hB := hA.call1 sR hT; clear hF hA hT; have hA := hB; clear hB; (try simp only [uA] at hA); have hF := hA.facts; (try simp only [fA, and_true, true_and] at hF)
  go_wp2_with (first | ((with_reducible refine gst ?_); refine wS hA ?_; clear hF hA; intro w1 hA; (try simp only [uA] at hA); have hF := hA.facts; (try simp only [fA, and_true, true_and] at hF)) | ((with_reducible refine gbx ?_); refine wB hA ?_; clear hF hA; intro b1 w1 hA hb1; (try simp only [uA] at hA); have hF := hA.facts; (try simp only [fA, and_true, true_and] at hF)) | ((with_reducible refine gal ?_); refine wA 38 (.agg #[.bool false, .bool false, .int .i64 0, .int .i64 0, .int .i64 0]) [.bool false, .bool false, .int .i64 0, .int .i64 0, .int .i64 0] hA ?_; clear hF hA; intro b1 w1 hA hb1; (try simp only [uA] at hA); have hF := hA.facts; (try simp only [fA, and_true, true_and] at hF)))
  go_ret
  exact ⟨rfl, hA.only1 sR⟩
set_option maxRecDepth 100000 in
theorem expire_no {w : World} {p m : Nat} {ss : List Ses} (h : Sep [BookP p m ss] w) {n : Int} {f : ByteArray} (h0 : 0 ≤ n) (h1 : n < big64) (hf : f.size ≤ maxLen) (time : Int) (ho : (look ss n f).op = false) :
    Calls Tryz.prog 38 #[.pointer (some ⟨p, 0, none⟩), .agg #[.int .u64 n, .string f], .int .i64 time] w fun e w' => e = .returned (.int .i64 50) ∧ At [BookP p m ss] w [BookP p m ss] w' := by
  have hA := At.start h
  have hF := hA.facts
  clear h
  go_enter Tryz.func38, Tryz.ntmps38
  go_wp2_with (first | ((with_reducible refine gst ?_); refine wS hA ?_; clear hF hA; intro w1 hA; (try simp only [uA] at hA); have hF := hA.facts; (try simp only [fA, and_true, true_and] at hF)) | ((with_reducible refine gbx ?_); refine wB hA ?_; clear hF hA; intro b1 w1 hA hb1; (try simp only [uA] at hA); have hF := hA.facts; (try simp only [fA, and_true, true_and] at hF)) | ((with_reducible refine gal ?_); refine wA 38 (.agg #[.bool false, .bool false, .int .i64 0, .int .i64 0, .int .i64 0]) [.bool false, .bool false, .int .i64 0, .int .i64 0, .int .i64 0] hA ?_; clear hF hA; intro b1 w1 hA hb1; (try simp only [uA] at hA); have hF := hA.facts; (try simp only [fA, and_true, true_and] at hF)))
  refine (info_any (hA.sep1 sR) h0 h1 hf).mono ?_
  unfold Ses.info
  rw [ho]
  rintro e w1 ⟨rfl, hT⟩; have hB := hA.call1 sR hT; clear hF hA hT; have hA := hB; clear hB; (try simp only [uA] at hA); have hF := hA.facts; (try simp only [fA, and_true, true_and] at hF)
  go_wp2_with (first | ((with_reducible refine gst ?_); refine wS hA ?_; clear hF hA; intro w1 hA; (try simp only [uA] at hA); have hF := hA.facts; (try simp only [fA, and_true, true_and] at hF)) | ((with_reducible refine gbx ?_); refine wB hA ?_; clear hF hA; intro b1 w1 hA hb1; (try simp only [uA] at hA); have hF := hA.facts; (try simp only [fA, and_true, true_and] at hF)) | ((with_reducible refine gal ?_); refine wA 38 (.agg #[.bool false, .bool false, .int .i64 0, .int .i64 0, .int .i64 0]) [.bool false, .bool false, .int .i64 0, .int .i64 0, .int .i64 0] hA ?_; clear hF hA; intro b1 w1 hA hb1; (try simp only [uA] at hA); have hF := hA.facts; (try simp only [fA, and_true, true_and] at hF)))
  refine (end_no (hA.sep1 sR) h0 h1 hf ho).mono ?_
  rintro e w1 ⟨rfl, hT⟩; have hB := hA.call1 sR hT; clear hF hA hT; have hA := hB; clear hB; (try simp only [uA] at hA); have hF := hA.facts; (try simp only [fA, and_true, true_and] at hF)
  go_wp2_with fail
  go_ret
  exact ⟨rfl, hA.only1 sR⟩
set_option maxRecDepth 100000 in
theorem expire_yes {w : World} {p m : Nat} {l1 l2 : List Ses} {s : Ses} (h : Sep [BookP p m (l1 ++ s :: l2)] w) {n : Int} {f : ByteArray} (h0 : 0 ≤ n) (h1 : n < big64) (hf : f.size ≤ maxLen) (time : Int) (hn : find (l1 ++ s :: l2) n f = some s) (hso : s.op = true) (ht : s.dl ≤ time) :
    Calls Tryz.prog 38 #[.pointer (some ⟨p, 0, none⟩), .agg #[.int .u64 n, .string f], .int .i64 time] w fun e w' => e = .returned (.int .i64 0) ∧ At [BookP p m (l1 ++ s :: l2)] w [BookP p m (l1 ++ s.ended :: l2)] w' := by
  have hA := At.start h
  have hF := hA.facts
  clear h
  have hk' : look (l1 ++ s :: l2) n f = s := by unfold look; rw [hn]; rfl
  have ho : (look (l1 ++ s :: l2) n f).op = true := by rw [hk']; exact hso
  have ht' : decide (time < (look (l1 ++ s :: l2) n f).dl) = false := by rw [hk']; simp; omega
  clear hk'
  go_enter Tryz.func38, Tryz.ntmps38
  go_wp2_with (first | ((with_reducible refine gst ?_); refine wS hA ?_; clear hF hA; intro w1 hA; (try simp only [uA] at hA); have hF := hA.facts; (try simp only [fA, and_true, true_and] at hF)) | ((with_reducible refine gbx ?_); refine wB hA ?_; clear hF hA; intro b1 w1 hA hb1; (try simp only [uA] at hA); have hF := hA.facts; (try simp only [fA, and_true, true_and] at hF)) | ((with_reducible refine gal ?_); refine wA 38 (.agg #[.bool false, .bool false, .int .i64 0, .int .i64 0, .int .i64 0]) [.bool false, .bool false, .int .i64 0, .int .i64 0, .int .i64 0] hA ?_; clear hF hA; intro b1 w1 hA hb1; (try simp only [uA] at hA); have hF := hA.facts; (try simp only [fA, and_true, true_and] at hF)))
  refine (info_any (hA.sep1 sR) h0 h1 hf).mono ?_
  unfold Ses.info
  rw [ho]
  rintro e w1 ⟨rfl, hT⟩; have hB := hA.call1 sR hT; clear hF hA hT; have hA := hB; clear hB; (try simp only [uA] at hA); have hF := hA.facts; (try simp only [fA, and_true, true_and] at hF)
  go_wp2_with (first | ((with_reducible refine gst ?_); refine wS hA ?_; clear hF hA; intro w1 hA; (try simp only [uA] at hA); have hF := hA.facts; (try simp only [fA, and_true, true_and] at hF)) | ((with_reducible refine gbx ?_); refine wB hA ?_; clear hF hA; intro b1 w1 hA hb1; (try simp only [uA] at hA); have hF := hA.facts; (try simp only [fA, and_true, true_and] at hF)) | ((with_reducible refine gal ?_); refine wA 38 (.agg #[.bool false, .bool false, .int .i64 0, .int .i64 0, .int .i64 0]) [.bool false, .bool false, .int .i64 0, .int .i64 0, .int .i64 0] hA ?_; clear hF hA; intro b1 w1 hA hb1; (try simp only [uA] at hA); have hF := hA.facts; (try simp only [fA, and_true, true_and] at hF)))
  refine (end_yes (hA.sep1 sR) h0 h1 hf hn hso).mono ?_
  rintro e w1 ⟨rfl, hT⟩; have hB := hA.call1 sR hT; clear hF hA hT; have hA := hB; clear hB; (try simp only [uA] at hA); have hF := hA.facts; (try simp only [fA, and_true, true_and] at hF)
  go_wp2_with fail
  go_ret
  exact ⟨rfl, hA.only1 sR⟩
end Go.Proofs.YtpebabaigakagaaGreatDoor.Lease
end

section
namespace Go.Proofs.YtpebabaigakagaaGreatDoor.Lease
open Go.RowKit
open Go.Maps (Keyed)
set_option linter.unusedSimpArgs false
set_option linter.unusedVariables false

def Ses.kept (s : Ses) (time : Int) : Ses := { s with dl := if s.dl < endI time s.ttl then endI time s.ttl else s.dl }
set_option maxRecDepth 100000 in
theorem keep_no {w : World} {p m : Nat} {ss : List Ses} (h : Sep [BookP p m ss] w) {n : Int} {f : ByteArray} (h0 : 0 ≤ n) (h1 : n < big64) (hf : f.size ≤ maxLen) (time : Int) (ho : (look ss n f).op = false) :
    Calls Tryz.prog 67 #[.pointer (some ⟨p, 0, none⟩), .agg #[.int .u64 n, .string f], .int .i64 time] w fun e w' => e = .returned (.int .i64 50) ∧ At [BookP p m ss] w [BookP p m ss] w' := by
  have hA := At.start h
  have hF := hA.facts
  clear h
  have hfd : ∀ a b c d e w, (Instr.field 38 (.agg #[a, b, c, d, e]) 0).run Tryz.prog w = .ok a w := fun _ _ _ _ _ _ => by kernel_rfl
  go_enter Tryz.func67, Tryz.ntmps67
  go_wp2_with (first | ((with_reducible refine gst ?_); refine wS hA ?_; clear hF hA; intro w1 hA; (try simp only [uA] at hA); have hF := hA.facts; (try simp only [fA, and_true, true_and] at hF)) | ((with_reducible refine gbx ?_); refine wB hA ?_; clear hF hA; intro b1 w1 hA hb1; (try simp only [uA] at hA); have hF := hA.facts; (try simp only [fA, and_true, true_and] at hF)))
  refine (info_any (hA.sep1 sR) h0 h1 hf).mono ?_
  unfold Ses.info
  rw [ho]
  rintro e w1 ⟨rfl, hT⟩; have hB := hA.call1 sR hT; clear hF hA hT; have hA := hB; clear hB; (try simp only [uA] at hA); have hF := hA.facts; (try simp only [fA, and_true, true_and] at hF)
  go_wp2_with (first | ((with_reducible refine gst ?_); refine wS hA ?_; clear hF hA; intro w1 hA; (try simp only [uA] at hA); have hF := hA.facts; (try simp only [fA, and_true, true_and] at hF)) | ((with_reducible refine gbx ?_); refine wB hA ?_; clear hF hA; intro b1 w1 hA hb1; (try simp only [uA] at hA); have hF := hA.facts; (try simp only [fA, and_true, true_and] at hF)))
  go_ret
  exact ⟨rfl, hA.only1 sR⟩
set_option maxRecDepth 100000 in
theorem keep_yes {w : World} {p m : Nat} {l1 l2 : List Ses} {s : Ses} (h : Sep [BookP p m (l1 ++ s :: l2)] w) {n : Int} {f : ByteArray} (h0 : 0 ≤ n) (h1 : n < big64) (hf : f.size ≤ maxLen) (time : Int) (hn : find (l1 ++ s :: l2) n f = some s) (hso : s.op = true) :
    Calls Tryz.prog 67 #[.pointer (some ⟨p, 0, none⟩), .agg #[.int .u64 n, .string f], .int .i64 time] w fun e w' => e = .returned (.int .i64 0) ∧ At [BookP p m (l1 ++ s :: l2)] w [BookP p m (l1 ++ s.kept time :: l2)] w' := by
  obtain ⟨kl, hk⟩ := keyS h0 h1 hf
  have hmem := Lib.hid (find_mem hn)
  have hA := At.start h
  have hF := hA.facts
  clear h
  have hk' : look (l1 ++ s :: l2) n f = s := by unfold look; rw [hn]; rfl
  have ho : (look (l1 ++ s :: l2) n f).op = true := by rw [hk']; exact hso
  clear hk' hso
  unfold keyV at *
  have hfd : ∀ a b c d e w, (Instr.field 38 (.agg #[a, b, c, d, e]) 0).run Tryz.prog w = .ok a w := fun _ _ _ _ _ _ => by kernel_rfl
  go_enter Tryz.func67, Tryz.ntmps67
  go_wp2_with (first | ((with_reducible refine gst ?_); refine wS hA ?_; clear hF hA; intro w1 hA; (try simp only [uA] at hA); have hF := hA.facts; (try simp only [fA, and_true, true_and] at hF)) | ((with_reducible refine gbx ?_); refine wB hA ?_; clear hF hA; intro b1 w1 hA hb1; (try simp only [uA] at hA); have hF := hA.facts; (try simp only [fA, and_true, true_and] at hF)))
  refine (info_any (hA.sep1 sR) h0 h1 hf).mono ?_
  unfold Ses.info
  rw [ho]
  rintro e w1 ⟨rfl, hT⟩; have hB := hA.call1 sR hT; clear hF hA hT; have hA := hB; clear hB; (try simp only [uA] at hA); have hF := hA.facts; (try simp only [fA, and_true, true_and] at hF)
  go_wp2_with (first | ((with_reducible refine gst ?_); refine wS hA ?_; clear hF hA; intro w1 hA; (try simp only [uA] at hA); have hF := hA.facts; (try simp only [fA, and_true, true_and] at hF)) | ((with_reducible refine gbx ?_); refine wB hA ?_; clear hF hA; intro b1 w1 hA hb1; (try simp only [uA] at hA); have hF := hA.facts; (try simp only [fA, and_true, true_and] at hF)))
  have hA := open1 hA sR
  simp only [Ses.cells] at hA
  (try simp only [uA] at hA); have hF := hA.facts; (try simp only [fA, and_true, true_and] at hF)
  have hl : ∀ q, (Instr.lookup 78 (.map (some m)) (.agg #[.int .u64 n, .string f]) false).run Tryz.prog (w1.drewN q) = .ok s.ptr (w1.drewN q) := fun q =>
    MapAt.look_some (w := w1.drewN q) ((hA.drewN q).get (A := mapC m (ents (l1 ++ s :: l2))) sR) lawS Tryz.underlying78 hk hmem.out false
  unfold Ses.ptr at hl
  go_quiet (fail)
  have hA := hA.drewN nq; generalize World.drewN _ nq = w1 at *; clear hF; (try simp only [uA] at hA); have hF := hA.facts; (try simp only [fA, and_true, true_and] at hF)
  go_wp2_with (first | ((with_reducible refine gst ?_); refine wS hA ?_; clear hF hA; intro w1 hA; (try simp only [uA] at hA); have hF := hA.facts; (try simp only [fA, and_true, true_and] at hF)) | ((with_reducible refine gbx ?_); refine wB hA ?_; clear hF hA; intro b1 w1 hA hb1; (try simp only [uA] at hA); have hF := hA.facts; (try simp only [fA, and_true, true_and] at hF)))
  have hd : s.dl < endI time s.ttl ∨ ¬ s.dl < endI time s.ttl := by omega
  have e2 : ents (l1 ++ s :: l2) = ents (l1 ++ s.kept time :: l2) := by simp [ents, ent, Ses.key, Ses.ptr, Ses.kept]
  have e2' := Lib.hid e2
  clear e2
  rcases hd with hd | hd
  · have hkc : s.kept time = { s with dl := endI time s.ttl } := by unfold Ses.kept; rw [if_pos hd]
    have hkc' := Lib.hid hkc
    clear hkc
    (refine wp_region_head 14 (fun w' => ∃ n, w' = World.drewN _ n) (by kernel_rfl) (by kernel_rfl) ⟨1, rfl⟩ ?_); (simp only [List.take_succ_cons, List.take_zero, List.drop_succ_cons, List.drop_zero]); (repeat (first | go_big_quiet_step (exact (end_any _ _ _).mono fun _ _ ⟨he, hw⟩ => ⟨he, _, hw.symm⟩) | quiet_step (exact (end_any _ _ _).mono fun _ _ ⟨he, hw⟩ => ⟨he, _, hw.symm⟩))); (refine wpQuiet_nil ?_); (rintro _ ⟨nq, rfl⟩)
    have hA := hA.drewN nq; generalize World.drewN _ nq = w1 at *; clear hF; (try simp only [uA] at hA); have hF := hA.facts; (try simp only [fA, and_true, true_and] at hF)
    go_wp2_with (first | ((with_reducible refine gst ?_); refine wS hA ?_; clear hF hA; intro w1 hA; (try simp only [uA] at hA); have hF := hA.facts; (try simp only [fA, and_true, true_and] at hF)) | ((with_reducible refine gbx ?_); refine wB hA ?_; clear hF hA; intro b1 w1 hA hb1; (try simp only [uA] at hA); have hF := hA.facts; (try simp only [fA, and_true, true_and] at hF)))
    go_ret
    refine ⟨rfl, ?_⟩
    rw [e2'.out, hkc'.out] at hA
    rw [hkc'.out]
    exact close1 (m := m) (s := { s with dl := endI time s.ttl }) hA sR sZ sZ sZ sZ
  · have hkc : s.kept time = s := by unfold Ses.kept; rw [if_neg hd]
    have hd' : endI time s.ttl ≤ s.dl := by omega
    have hkc' := Lib.hid hkc
    clear hkc
    (refine wp_region_head 14 (fun w' => ∃ n, w' = World.drewN _ n) (by kernel_rfl) (by kernel_rfl) ⟨1, rfl⟩ ?_); (simp only [List.take_succ_cons, List.take_zero, List.drop_succ_cons, List.drop_zero]); (repeat (first | go_big_quiet_step (exact (end_any _ _ _).mono fun _ _ ⟨he, hw⟩ => ⟨he, _, hw.symm⟩) | quiet_step (exact (end_any _ _ _).mono fun _ _ ⟨he, hw⟩ => ⟨he, _, hw.symm⟩))); (refine wpQuiet_nil ?_); (rintro _ ⟨nq, rfl⟩)
    have hA := hA.drewN nq; generalize World.drewN _ nq = w1 at *; clear hF; (try simp only [uA] at hA); have hF := hA.facts; (try simp only [fA, and_true, true_and] at hF)
    go_wp2_with (first | ((with_reducible refine gst ?_); refine wS hA ?_; clear hF hA; intro w1 hA; (try simp only [uA] at hA); have hF := hA.facts; (try simp only [fA, and_true, true_and] at hF)) | ((with_reducible refine gbx ?_); refine wB hA ?_; clear hF hA; intro b1 w1 hA hb1; (try simp only [uA] at hA); have hF := hA.facts; (try simp only [fA, and_true, true_and] at hF)))
    go_ret
    refine ⟨rfl, ?_⟩
    rw [e2'.out, hkc'.out] at hA
    rw [hkc'.out]
    exact close1 (m := m) (s := s) hA sR sZ sZ sZ sZ
end Go.Proofs.YtpebabaigakagaaGreatDoor.Lease
end

section
namespace Go.Proofs.YtpebabaigakagaaGreatDoor.Lease
open Go.RowKit
set_option linter.unusedSimpArgs false
set_option linter.unusedVariables false

/-- what was told to a request -/
def toldV (o : Option Ans) : Value := match o with
  | some a => .tuple #[.agg #[.int .i64 a.e, .int .u64 a.n, .bool a.g], .bool true]
  | none => .tuple #[.agg #[.int .i64 0, .int .u64 0, .bool false], .bool false]
theorem told_any {w : World} {p m : Nat} {ss : List Ses} (h : Sep [BookP p m ss] w) {n r : Int} {f : ByteArray} (h0 : 0 ≤ n) (h1 : n < big64) (hf : f.size ≤ maxLen) (r0 : 0 ≤ r) (r1 : r < big64) :
    Calls Tryz.prog 23 #[.pointer (some ⟨p, 0, none⟩), .agg #[.int .u64 n, .string f], .int .u64 r] w fun e w' => e = .returned (toldV (said (look ss n f).told r)) ∧ At [BookP p m ss] w [BookP p m ss] w' := by
  cases hn : find ss n f with
  | none =>
    have hlk : look ss n f = fresh n f 0 0 := by unfold look; rw [hn]; rfl
    rw [hlk, show said (fresh n f 0 0).told r = none from rfl]
    exact told_none h h0 h1 hf hn
  | some s =>
    have hlk : look ss n f = s := by unfold look; rw [hn]; rfl
    rw [hlk]
    cases hr : said s.told r with
    | none => exact told_new h h0 h1 hf hn r0 r1 hr
    | some a => exact told_old h h0 h1 hf hn r0 r1 hr
end Go.Proofs.YtpebabaigakagaaGreatDoor.Lease
end

section
namespace Go
set_option linter.unusedVariables false
set_option linter.unusedSimpArgs false

section
variable {P : Program} {ops : Array Oper} {md : Region.Mode} {C : Bool → World → Prop} {k : Nat}

/-- does operation i wait for operation k? -/
def waitsB (md : Region.Mode) (ops : Array Oper) (k : Nat) : Nat → Nat → Bool
  | 0, _ => false
  | f + 1, i => match ops[i]? with
    | some o => o.after.any fun e => Region.binds md e && (e.on == k || waitsB md ops k f e.on)
    | none => false
/-- from which class to which class an operation may lead -/
def leg (md : Region.Mode) (ops : Array Oper) (k i : Nat) (c c' : Bool) : Prop :=
  if i = k then c = false ∧ c' = true else if waitsB md ops k ops.size i = true then c = true ∧ c' = true else c = c'

/-- it yields v in the world that it got, which is of the class; or a call that hands back v and leaves a world of the class -/
def Oper.turnUpon (P : Program) (C : World → Prop) (w : World) (v : Value) : Result Next → Prop
  | .ok (.value u) w' => w' = w ∧ u = v ∧ C w
  | .ok .skip w' => w' = w ∧ v = undef ∧ C w
  | .ok (.enter f args) w' => w' = w ∧ Calls P f args w (fun e w'' => e = .returned v ∧ C w'')
  | _ => False
def Oper.turnAt (P : Program) (o : Oper) (a : Act) (C : World → Prop) (w : World) (v : Value) : Prop := Oper.turnUpon P C w v ((execOp a.eval o).run P w)
def Oper.quietL (P : Program) (o : Oper) (a : Act) (C : Bool → World → Prop) (R : Bool → Bool → Prop) (next : Act → Prop) : Prop :=
  ∃ v, (∀ c c', R c c' → ∀ w, C c w → o.turnAt P a (C c') w v) ∧ next (a.put o.dst v)

def wpQuietL (P : Program) (md : Region.Mode) (ops : Array Oper) (C : Bool → World → Prop) (k : Nat) (Q : Act → Prop) : Nat → List Oper → Act → Prop
  | _, [], a => Q a
  | n, o :: rest, a => if Region.wanted o (yielded ops a.tmps) then o.quietL P a C (leg md ops k n) (wpQuietL P md ops C k Q (n + 1) rest) else n ≠ k ∧ wpQuietL P md ops C k Q (n + 1) rest (a.put o.dst undef)
theorem wpQuietL_nil {Q : Act → Prop} {n : Nat} {a : Act} (h : Q a) : wpQuietL P md ops C k Q n [] a := h
theorem wpQuietL_step {Q : Act → Prop} {n : Nat} {a : Act} {o : Oper} {rest : List Oper}
    (h : ∀ K : Act → Prop, (∀ a, wpQuietL P md ops C k Q (n + 1) rest a → K a) → if Region.wanted o (yielded ops a.tmps) then o.quietL P a C (leg md ops k n) K else n ≠ k ∧ K (a.put o.dst undef)) : wpQuietL P md ops C k Q n (o :: rest) a := h _ (fun _ h => h)

def qOpL (P : Program) (md : Region.Mode) (ops : Array Oper) (C : Bool → World → Prop) (k i : Nat) (K : Act → Prop) (a : Act) : Prop :=
  match ops[i]? with
  | none => i ≠ k ∧ K a
  | some o => if Region.wanted o (yielded ops a.tmps) then o.quietL P a C (leg md ops k i) K else i ≠ k ∧ K (a.put o.dst undef)
theorem Oper.quietL_mono {o : Oper} {a : Act} {R : Bool → Bool → Prop} {K K' : Act → Prop} (h : ∀ a, K a → K' a) (hh : o.quietL P a C R K) : o.quietL P a C R K' :=
  let ⟨v, h1, h2⟩ := hh
  ⟨v, h1, h _ h2⟩
theorem qOpL_mono {i : Nat} {a : Act} {K K' : Act → Prop} (h : ∀ a, K a → K' a) (hh : qOpL P md ops C k i K a) : qOpL P md ops C k i K' a := by
  unfold qOpL at *
  split
  · rename_i ho
    simp only [ho] at hh
    exact ⟨hh.1, h _ hh.2⟩
  · rename_i o ho
    simp only [ho] at hh
    split
    · rename_i hw; simp only [hw, if_true] at hh; exact Oper.quietL_mono h hh
    · rename_i hw; simp only [hw] at hh; exact ⟨hh.1, h _ hh.2⟩
def YieldsL (P : Program) (md : Region.Mode) (ops : Array Oper) (C : Bool → World → Prop) (k i : Nat) (o : Oper) (v : Value) (a : Act) : Prop :=
  (Region.wanted o (yielded ops a.tmps) = true ∧ ∀ c c', leg md ops k i c c' → ∀ w, C c w → o.turnAt P a (C c') w v) ∨
  (Region.wanted o (yielded ops a.tmps) = false ∧ i ≠ k ∧ v = undef)
theorem YieldsL.qOp {i : Nat} {o : Oper} {v : Value} {a : Act} (hi : ops[i]? = some o) (hy : YieldsL P md ops C k i o v a) {K : Act → Prop} (h : K (a.put o.dst v)) : qOpL P md ops C k i K a := by
  unfold qOpL
  simp only [hi]
  rcases hy with ⟨hw, hv⟩ | ⟨hw, hik, rfl⟩
  · simp only [hw, if_true]; exact ⟨v, hv, h⟩
  · simp only [hw, Bool.false_eq_true, if_false]; exact ⟨hik, h⟩
theorem YieldsL.of_same {i : Nat} {o : Oper} {v : Value} {a a' : Act} (hy : YieldsL P md ops C k i o v a) (he : execOp a'.eval o = execOp a.eval o)
    (hw : Region.wanted o (yielded ops a'.tmps) = Region.wanted o (yielded ops a.tmps)) : YieldsL P md ops C k i o v a' := by
  unfold YieldsL Oper.turnAt at *
  rw [he, hw]
  exact hy
theorem yieldsL_of_qOp {i : Nat} {o : Oper} {a : Act} {K : Act → Prop} (hi : ops[i]? = some o) (h : qOpL P md ops C k i K a) : ∃ v, YieldsL P md ops C k i o v a ∧ K (a.put o.dst v) := by
  unfold qOpL at h
  simp only [hi] at h
  by_cases hw : Region.wanted o (yielded ops a.tmps) = true
  · simp only [hw, if_true] at h
    obtain ⟨v, h1, h2⟩ := h
    exact ⟨v, .inl ⟨hw, h1⟩, h2⟩
  · simp only [hw] at h
    exact ⟨undef, .inr ⟨by simpa using hw, h.1, rfl⟩, h.2⟩
theorem qOpL_put {i j : Nat} {oi oj : Oper} {v : Value} (hj : ops[j]? = some oj) (hap : oi.apart ops oj = true)
    (hsi : ∀ cs b, oi.op ≠ .select cs b) (hsj : ∀ cs b, oj.op ≠ .select cs b) {K : Act → Prop} {a : Act}
    (hy : YieldsL P md ops C k i oi v a) (h : qOpL P md ops C k j K (a.put oi.dst v)) :
    qOpL P md ops C k j (fun a' => YieldsL P md ops C k i oi v a' ∧ K (a'.put oi.dst v)) a := by
  obtain ⟨h1, h2, h3⟩ := Oper.apart_spec hap
  have keep : ∀ (a : Act), YieldsL P md ops C k i oi v a → ∀ u, YieldsL P md ops C k i oi v (a.put oj.dst u) := fun a hy u =>
    hy.of_same (execOp_put oi hsi a oj.dst u h3) (wanted_put oi a oj.dst u h3)
  unfold qOpL at *
  simp only [hj] at *
  rw [wanted_put oj a oi.dst v h1] at h
  split
  · rename_i hw
    simp only [hw, if_true] at h
    obtain ⟨u, hu, hn⟩ := h
    refine ⟨u, fun c c' hR w hw' => ?_, keep a hy u, by rw [← Act.put_comm a v u h2]; exact hn⟩
    have := hu c c' hR w hw'
    unfold Oper.turnAt at *
    rwa [execOp_put oj hsj a oi.dst v h1] at this
  · rename_i hw
    simp only [hw] at h
    exact ⟨h.1, keep a hy _, by rw [← Act.put_comm a v undef h2]; exact h.2⟩

/-- whoever waits for k comes behind it -/
theorem waits_listed {n : Nat} {listed : Array Bool} (inv : HeadInv md ops n listed) : ∀ (f i : Nat), waitsB md ops k f i = true → listed.getD i false = true → listed.getD k false = true
  | 0, _, h, _ => by simp [waitsB] at h
  | f + 1, i, h, hi => by
    unfold waitsB at h
    split at h
    · rename_i o ho
      obtain ⟨e, he, hb⟩ := Array.any_eq_true'.1 h
      simp only [Bool.and_eq_true, Bool.or_eq_true, beq_iff_eq] at hb
      have hl := inv.closed i o ho hi e he hb.1
      rcases hb.2 with hk | hk
      · rw [← hk]; exact hl
      · exact waits_listed inv f e.on hk hl
    · exact absurd h (by simp)
theorem waits_ready {n : Nat} {listed : Array Bool} (inv : HeadInv md ops n listed) {i : Nat} (hr : i ∈ Region.ready md ops listed) : ∀ (f : Nat), waitsB md ops k f i = true → listed.getD k false = true
  | 0, h => by simp [waitsB] at h
  | f + 1, h => by
    obtain ⟨_, oi, hoi, hall⟩ := mem_ready.1 hr
    unfold waitsB at h
    simp only [hoi] at h
    obtain ⟨e, he, hb⟩ := Array.any_eq_true'.1 h
    simp only [Bool.and_eq_true, Bool.or_eq_true, beq_iff_eq] at hb
    have hl := hall e he hb.1
    rcases hb.2 with hk | hk
    · rw [← hk]; exact hl
    · exact waits_listed inv f e.on hk hl

def wpAnyLL (P : Program) (md : Region.Mode) (ops : Array Oper) (C : Bool → World → Prop) (k n : Nat) (L : Array Bool → Act → Prop) : Nat → Array Bool → Act → Prop
  | 0, listed, a => L listed a
  | f + 1, listed, a =>
    Region.ready md ops listed ≠ [] ∧ ∀ i ∈ Region.ready md ops listed, i < n ∧ qOpL P md ops C k i (wpAnyLL P md ops C k n L f (listed.setIfInBounds i true)) a

theorem Oper.wp_of_quietL {o : Oper} {a : Act} {R : Bool → Bool → Prop} {K : Act → Prop} {K' : Act → World → Prop} {Q' : Exit → Act → World → Prop} {w : World} {c c' : Bool} (hR : R c c') (hw : C c w) (h : ∀ a w', C c' w' → K a → K' a w') (hh : o.quietL P a C R K) : o.wp P a w K' Q' := by
  obtain ⟨v, h1, h2⟩ := hh
  have h3 := h1 c c' hR w hw
  unfold Oper.turnAt at h3
  unfold Oper.wp
  generalize (execOp a.eval o).run P w = r at *
  cases r with
  | ok n w' =>
    cases n <;> simp only [Oper.turnUpon] at h3 <;> simp only [Oper.upon]
    case value u =>
      obtain ⟨e1, e2, e3⟩ := h3
      rw [e1, e2]
      exact h _ _ e3 h2
    case skip =>
      obtain ⟨e1, e2, e3⟩ := h3
      rw [e1, ← e2]
      exact h _ _ e3 h2
    case enter f args =>
      obtain ⟨e1, hc⟩ := h3
      rw [e1]
      exact hc.mono fun e w'' ⟨he, hw''⟩ => by subst he; exact h _ _ hw'' h2
  | halt x w' => simp only [Oper.turnUpon] at h3
theorem wpOp_of_qOpL {n i : Nat} {listed : Array Bool} (inv : HeadInv md ops n listed) (hr : i ∈ Region.ready md ops listed) {a : Act} {K : Act → Prop} {K' : Act → World → Prop} {Q' : Exit → Act → World → Prop} {w : World} (hC : C (listed.getD k false) w)
    (h : ∀ a w', C ((listed.setIfInBounds i true).getD k false) w' → K a → K' a w') (hh : qOpL P md ops C k i K a) : wpOp P ops Q' i K' a w := by
  have hun := (mem_ready.1 hr).1
  have his : i < listed.size := by
    rcases Nat.lt_or_ge i listed.size with q | q
    · exact q
    · rw [Array.getD_eq_getD_getElem?, Array.getElem?_eq_none q] at hun; cases hun
  have key : i ≠ k → (listed.setIfInBounds i true).getD k false = listed.getD k false := fun hne => getD_set_ne false hne
  unfold qOpL at hh
  unfold wpOp
  split
  · rename_i ho
    simp only [ho] at hh
    exact h _ _ (by rw [key hh.1]; exact hC) hh.2
  · rename_i o ho
    simp only [ho] at hh
    split
    · rename_i hw
      simp only [hw, if_true] at hh
      refine .inl (Oper.wp_of_quietL (c := listed.getD k false) (c' := (listed.setIfInBounds i true).getD k false) ?_ hC h hh)
      unfold leg
      by_cases hik : i = k
      · subst hik
        rw [if_pos rfl]
        exact ⟨getD_both hun, by simp [his]⟩
      · rw [if_neg hik, key hik]
        by_cases hwt : waitsB md ops k ops.size i = true
        · rw [if_pos hwt]
          have := waits_ready inv hr _ hwt
          exact ⟨this, this⟩
        · rw [if_neg hwt]
    · rename_i hw
      simp only [hw] at hh
      exact h _ _ (by rw [key hh.1]; exact hC) hh.2

theorem wpAny_of_headL {n g : Nat} {L : Array Bool → Act → Prop} {Q' : Exit → Act → World → Prop} (hL : ∀ listed a w, C (listed.getD k false) w → L listed a → wpAny P md ops Q' g listed a w) :
    ∀ (f : Nat) (listed : Array Bool) (a : Act) (w : World), HeadInv md ops n listed → C (listed.getD k false) w → wpAnyLL P md ops C k n L f listed a → wpAny P md ops Q' (f + g) listed a w
  | 0, listed, a, w, _, hw, h => by rw [Nat.zero_add]; exact hL _ _ _ hw h
  | f + 1, listed, a, w, inv, hw, h => by
    rw [show f + 1 + g = (f + g) + 1 by omega]
    exact ⟨fun h0 => absurd h0 h.1, fun i hi => wpOp_of_qOpL inv hi hw (fun a' w' hw' h' => wpAny_of_headL hL f _ a' w' (inv.set hi (h.2 i hi).1) hw' h') (h.2 i hi).2⟩

theorem wpAnyLL_first {n i : Nat} {oi : Oper} {v : Value} {L : Array Bool → Act → Prop} (hi : ops[i]? = some oi) (hsel : ∀ (j : Nat) (o : Oper) cs b, ops[j]? = some o → o.op ≠ .select cs b)
    (hs : Region.sinkB md ops n = true) (hc : Region.chainB md ops n = true) (hn : n < ops.size) (hin : i < n)
    (hdone : ∀ listed a, L listed a → ∀ j ∈ Region.ready md ops listed, n ≤ j) :
    ∀ (f : Nat) (listed : Array Bool) (a : Act), HeadInv md ops n listed →
      (∀ j oj, ops[j]? = some oj → j ≠ i → listed.getD j true = false → (∀ e ∈ oj.after, Region.binds md e = true → e.on ≠ i) → oi.apart ops oj = true) →
      i ∈ Region.ready md ops listed → YieldsL P md ops C k i oi v a →
      wpAnyLL P md ops C k n L f (listed.setIfInBounds i true) (a.put oi.dst v) → wpAnyLL P md ops C k n L (f + 1) listed a := by
  intro f
  induction f with
  | zero =>
    intro listed a inv _ hr hy H
    have hun := (mem_ready.1 hr).1
    refine ⟨fun h => (by rw [h] at hr; cases hr), fun j hj => ?_⟩
    have hjn : j < n := by
      rcases Nat.lt_or_ge j n with h | h
      · exact h
      · exact absurd hj (tail_waits hs hc hn inv _ i rfl hin hun j h)
    refine ⟨hjn, ?_⟩
    by_cases hji : j = i
    · subst hji; exact hy.qOp hi H
    · have := hdone _ _ H j (ready_mono hj hji)
      omega
  | succ f ih =>
    intro listed a inv hfree hr hy H
    have hun := (mem_ready.1 hr).1
    refine ⟨fun h => (by rw [h] at hr; cases hr), fun j hj => ?_⟩
    have hjn : j < n := by
      rcases Nat.lt_or_ge j n with h | h
      · exact h
      · exact absurd hj (tail_waits hs hc hn inv _ i rfl hin hun j h)
    refine ⟨hjn, ?_⟩
    by_cases hji : j = i
    · subst hji; exact hy.qOp hi H
    · have h1 := (H.2 j (ready_mono hj hji)).2
      obtain ⟨hjun, oj, hoj, hall⟩ := mem_ready.1 hj
      have hnot : ∀ e ∈ oj.after, Region.binds md e = true → e.on ≠ i := fun e he hb heq => by
        have h1 := hall e he hb
        rw [heq, getD_both hun] at h1
        cases h1
      have h2 := qOpL_put (i := i) hoj (hfree j oj hoj hji hjun hnot) (fun cs b => hsel i oi cs b hi) (fun cs b => hsel j oj cs b hoj) hy h1
      have hfree' : ∀ t ot, ops[t]? = some ot → t ≠ i → (listed.setIfInBounds j true).getD t true = false →
          (∀ e ∈ ot.after, Region.binds md e = true → e.on ≠ i) → oi.apart ops ot = true := fun t ot ht hti hun hno => by
        refine hfree t ot ht hti ?_ hno
        by_cases hjt : j = t
        · subst hjt; exact hjun
        · rw [getD_set_ne true hjt] at hun; exact hun
      refine qOpL_mono (fun a' h3 => ih (listed.setIfInBounds j true) a' (inv.set hj hjn) hfree' (ready_mono hr (Ne.symm hji)) h3.1 ?_) h2
      rw [Array.setIfInBounds_comm _ _ hji]
      exact h3.2

theorem wpAnyLL_lex {n g : Nat} {Lq : Act → Prop} (hsel : Region.noSelect ops = true) (hs : Region.sinkB md ops n = true) (hc : Region.chainB md ops n = true) (hn : n < ops.size) (hkn : k < n) :
    ∀ (l : List Oper) (t : Nat) (listed : Array Bool) (a : Act), (∀ j, j < l.length → l[j]? = ops[t + j]?) → t + l.length = n → HeadInv md ops n listed → (∀ j, j < t → listed.getD j false = true) →
    Region.lexHead md ops g l.length t listed = true → wpQuietL P md ops C k Lq t l a →
    wpAnyLL P md ops C k n (fun listed' a' => Region.seqB md ops g n listed' = true ∧ listed'.getD k false = true ∧ Lq a') l.length listed a
  | [], t, listed, a, _, ht, _, hd, hB, h => by
    have : t = n := by simpa using ht
    subst this
    exact ⟨by simpa [Region.lexHead] using hB, hd k hkn, h⟩
  | o :: l, t, listed, a, hl, ht, inv, hd, hB, h => by
    have h0 : ops[t]? = some o := by simpa using (hl 0 (by simp)).symm
    simp only [List.length_cons, Region.lexHead, Bool.and_eq_true] at hB
    obtain ⟨⟨hr, hf⟩, hB'⟩ := hB
    have htn : t < n := by simp only [List.length_cons] at ht; omega
    have hr' : t ∈ Region.ready md ops listed := by simpa using hr
    have hst : qOpL P md ops C k t (wpQuietL P md ops C k Lq (t + 1) l) a := by unfold qOpL; simp only [h0]; exact h
    obtain ⟨v, hy, hK⟩ := yieldsL_of_qOp h0 hst
    have hts : t < listed.size := by rw [inv.size]; omega
    exact wpAnyLL_first h0 (Region.noSelect_spec hsel) hs hc hn htn (fun listed' a' hL => seqB_ready hL.1) l.length listed a inv (Region.free_spec h0 hf) hr' hy
      (wpAnyLL_lex hsel hs hc hn hkn l (t + 1) _ _ (fun j hj => by have := hl (j + 1) (by simp; omega); simpa [Nat.add_assoc, Nat.add_comm 1 j] using this) (by simp only [List.length_cons] at ht; omega) (inv.set hr' htn)
        (fun j hj => by
          by_cases hjt : j = t
          · subst hjt; simp [hts]
          · rw [getD_set_ne false (Ne.symm hjt)]; exact hd j (by omega)) hB' hK)

/-- QUIET FIRST, ONE OPERATION OF IT TURNING THE WORLD, THEN A ROW. -/
theorem wp_region_turn {id : Nat} {Q : Exit → Act → World → Prop} {a : Act} {w : World} {l : List Oper} (n k : Nat) (C : Bool → World → Prop) (hm : P.follows .mixedOrders = true) (hB : Region.lexTailB .any l.toArray n = true) (hkn : k < n)
    (hC : C false w.drew) (h : wpQuietL P .any l.toArray C k (fun a' => ∀ w', C true w' → wpList P l.toArray Q (l.drop n) a' w') 0 (l.take n) a) : (Code.region id l.toArray true).wp P Q a w := by
  simp only [Region.lexTailB, Bool.and_eq_true, decide_eq_true_eq] at hB
  obtain ⟨⟨⟨⟨hsel, hn⟩, hs⟩, hc⟩, hlex⟩ := hB
  have hn' : n < l.length := by simpa using hn
  have htl : (l.take n).length = n := by simp; omega
  have hdl : (l.drop n).length = l.toArray.size - n := by simp
  have inv0 : HeadInv .any l.toArray n (Array.replicate l.toArray.size false) :=
    ⟨by simp, fun j oj _ hl => (by rw [getD_replicate_false] at hl; cases hl), fun t _ ht => getD_in (by simpa using ht) (getD_replicate_false _ _)⟩
  have H := wpAnyLL_lex (C := C) (md := .any) (g := l.toArray.size - n) hsel hs hc hn hkn (l.take n) 0 _ a (fun j hj => by
    have hj' : j < n := by rw [htl] at hj; exact hj
    simp [hj']) (by simpa using htl) inv0 (fun j hj => by omega) (by rw [htl]; exact hlex) h
  refine wp_region_any hm ?_
  have := wpAny_of_headL (Q' := Q) (g := l.toArray.size - n) (fun listed a' w' hw' hL => by
    rw [hL.2.1] at hw'
    have := wpAny_of_seq (md := .any) (Q' := Q) (l.drop n) n listed a' w' (fun j => by simp [List.getElem?_drop]) (by rw [hdl]; exact hL.1) (hL.2.2 w' hw')
    rwa [hdl] at this) _ _ _ _ inv0 (by rw [getD_replicate_false]; exact hC) H
  rw [htl, show n + (l.toArray.size - n) = l.toArray.size by omega] at this
  exact this
end
end Go
end
