/- LeaseV, LeaseGa, PathP, PathW, joined. -/
import Derived.Test.YtpebabaigakagaaGreatDoorP3
import Derived.Test.YtpebabaigakagaaGreatDoorP4
import Derived.Lib.Join
import Derived.Lib.Bytealg
import Derived.Lib.Strings
import Derived.Lib.Small
import Derived.Lib.IndexLaws
import Derived.Test.YtpebabaigakagaaGreatDoorP2
import Derived.Test.YtpebabaigakagaaGreatDoorChecked
import Derived.Laws.RangeAny
import Derived.Lib.OthersKept
import Derived.Deep.QuietTactic
import Derived.BigQuiet
import Derived.Deep.LoopGhost
import Derived.WalkLawsBesides
set_option linter.unusedSimpArgs false
set_option linter.unusedVariables false
set_option maxRecDepth 100000
set_option maxHeartbeats 16000000
section
namespace Go.Proofs.YtpebabaigakagaaGreatDoor.Lease
open Go.RowKit
open Go.Maps (Keyed)
theorem known_at {w : World} {p m : Nat} {ss : List Ses} (h : Sep [BookP p m ss] w) {n : Int} {f : ByteArray} (h0 : 0 ≤ n) (h1 : n < big64) (hf : f.size ≤ maxLen) (hn : find ss n f = none) {S : Nat} (hS : w.heap.size = S) :
 Calls Tryz.prog 69 #[.pointer (some ⟨p, 0, none⟩), .agg #[.int .u64 n, .string f]] w fun e w' => e = .returned (.pointer (some ⟨S + 2, 0, none⟩)) ∧ At [BookP p m ss] w [BookP p m (ss ++ [fresh n f (S + 2) (S + 1)])] w' := by
 obtain ⟨kl, hk⟩ := keyS h0 h1 hf
 have hmiss := Lib.hid (find_none hn)
 have hA := begin0 h
 have hF := hA.facts
 have hS' := Lib.hid hS
 clear h hS
 unfold keyV at *
 go_enter Tryz.func69, Tryz.ntmps69
 go_wp2_with (refine wpList_box_sz (E := 25) rfl rfl (by (try simp only [Act.eval, eV]) <;> exact rfl) (by exact rfl) hA hS'.out ?_; intro w1 hB hS1; clear hF hA hS'; have hS' := Lib.hid hS1; clear hS1; have hA := hB; clear hB; have hF := hA.facts; (try simp only [uY] at hA hF))
 have hl : ∀ q, (Instr.lookup 78 (.map (some m)) (.agg #[.int .u64 n, .string f]) true).run Tryz.prog (w1.drewN q) = .ok (.tuple #[.pointer none, .bool false]) (w1.drewN q) := fun q =>
  MapAt.look_none (w := w1.drewN q) ((hA.drewN q).get (A := mapC m (ents ss)) sR) lawS Tryz.underlying78 hk hmiss.out (by kernel_rfl) true
 go_quiet (fail)
 have hS2 := (show (World.drewN w1 nq).heap.size = S + 1 from hS'.out)
 have hA := hA.drewN nq
 clear hl hS'
 generalize World.drewN _ nq = w2 at *
 have hS' := Lib.hid hS2
 clear hS2 hF
 have hF := hA.facts; (try simp only [uY] at hA hF)
 go_wp2_with (first | (refine wpList_makeMap_sz Tryz.prog 22 rfl rfl hA hS'.out ?_; intro w1 hB hS1; clear hF hA hS'; have hS' := Lib.hid hS1; clear hS1; have hA := hB; clear hB; have hF := hA.facts; (try simp only [uY] at hA hF)) | (refine wpList_box_sz (E := 83) rfl rfl (by (try simp only [Act.eval, eV]) <;> exact rfl) (by exact rfl) hA hS'.out ?_; intro w1 hB hS1; clear hF hA hS'; have hS' := Lib.hid hS1; clear hS1; have hA := hB; clear hB; have hF := hA.facts; (try simp only [uY] at hA hF)))
 (refine wp_region_head 6 (fun w' => ∃ n, w' = World.drewN _ n) (by kernel_rfl) (by kernel_rfl) ⟨1, rfl⟩ ?_); (simp only [List.take_succ_cons, List.take_zero, List.drop_succ_cons, List.drop_zero]); (repeat (first | go_big_quiet_step (fail) | quiet_step (fail))); (refine wpQuiet_nil ?_); (rintro _ ⟨nq, rfl⟩)
 have hA := hA.drewN nq; generalize World.drewN _ nq = w1 at *; clear hF; have hF := hA.facts; (try simp only [uY] at hA hF)
 refine wpList_put_new_at rfl rfl rfl (by (try simp only [Act.eval, eV]) <;> exact rfl) (by (try simp only [Act.eval, eV]) <;> exact rfl) hA sR lawS Tryz.underlying78 hk hmiss.out ?_
 intro w1 hB; clear hF hA; have hA := hB; clear hB; have hF := hA.facts; (try simp only [uY] at hA hF)
 go_wp2_with fail
 go_ret
 exact ⟨rfl, close_new (fresh n f _ _) hA sR sZ sZ sZ sR⟩
def TellNew (w : World) (p m : Nat) (ss : List Ses) (n : Int) (f : ByteArray) (r : Int) (c : Ans) (e : Ending) (w' : World) : Prop :=
 ∃ b t, e = .returned (.tuple #[]) ∧ At [BookP p m ss] w [BookP p m (ss ++ [{ fresh n f b t with told := [(r, c)] }])] w'
theorem tell_unknown {w : World} {p m : Nat} {ss : List Ses} (h : Sep [BookP p m ss] w) {n r : Int} {f : ByteArray} (h0 : 0 ≤ n) (h1 : n < big64) (hf : f.size ≤ maxLen) (hn : find ss n f = none) (r0 : 0 ≤ r) (r1 : r < big64) (c : Ans) :
 Calls Tryz.prog 41 #[.pointer (some ⟨p, 0, none⟩), .agg #[.int .u64 n, .string f], .int .u64 r, .agg #[.int .i64 c.e, .int .u64 c.n, .bool c.g]] w (TellNew w p m ss n f r c) := by
 obtain ⟨ku, hu⟩ := keyU r0 r1
 have hA := At.start h
 have hF := hA.facts
 have hl' : (look ss n f).told.length < 256 := by unfold look; rw [hn]; simp [fresh]
 clear h
 go_enter Tryz.func41, Tryz.ntmps41
 go_wp2_with (first | ((with_reducible refine gbx ?_); refine wC (E := 25) hA ?_; clear hF hA; intro bS w1 hA hbS hF; (try simp only [uY] at hA hF)) | ((with_reducible refine gbx ?_); refine wC (E := 48) hA ?_; clear hF hA; intro bA w1 hA hbA hF; (try simp only [uY] at hA hF)))
 refine (told_none (hA.sep1 sR) h0 h1 hf hn).mono ?_
 rintro e w1 ⟨rfl, hT⟩; have hB := hA.call1 sR hT; clear hF hA hT; have hA := hB; clear hB; have hF := hA.facts; (try simp only [uY] at hA hF)
 go_wp2_with (first | ((with_reducible refine gal ?_); refine wG 48 [.int .i64 0, .int .u64 0, .bool false] hA ?_; clear hF hA; intro bQ w1 hA hbQ hF; (try simp only [uY] at hA hF)) | ((with_reducible refine gst ?_); refine wT hA ?_; clear hF hA; intro w1 hA hF; (try simp only [uY] at hA hF)))
 refine (room_yes (hA.sep1 sR) h0 h1 hf hl').mono ?_
 rintro e w1 ⟨rfl, hT⟩; have hB := hA.call1 sR hT; clear hF hA hT; have hA := hB; clear hB; have hF := hA.facts; (try simp only [uY] at hA hF)
 go_wp2_with fail
 obtain ⟨S, hS⟩ : ∃ S, w1.heap.size = S := ⟨_, rfl⟩
 refine wp_region_turn 8 2 (TurnC [BookP p m ss] w _ S [sesC (S + 2) (fresh n f (S + 2) (S + 1)).cells, toldC (S + 1) (saids []), restP (ss ++ []), headC p m, mapC m (ents (ss ++ [fresh n f (S + 2) (S + 1)])), Part.cells bQ [.int .i64 0, .int .u64 0, .bool false] 48, Part.cells bA [.int .i64 c.e, .int .u64 c.n, .bool c.g] 48, Part.cells bS [.int .u64 n, .string f] 25]) (by kernel_rfl) (by kernel_rfl) (by decide) (turnC_start hA hS) ?_
 simp only [List.take_succ_cons, List.take_zero, List.drop_succ_cons, List.drop_zero]
 refine turn_pure (v := .pointer (some ⟨p, 0, none⟩)) rfl (by decide) (fun _ => rfl) ?_
 go_frame
 refine turn_both (v := .agg #[.int .u64 n, .string f]) rfl (by decide) (fun w hw => run_load_row (ty := 25) (n := 2) rfl rfl (hw.get (A := Part.cells bS [.int .u64 n, .string f] 25) sR) (by kernel_rfl) (by kernel_rfl) rfl rfl) (fun w hw => run_load_row (ty := 25) (n := 2) rfl rfl (hw.get (A := Part.cells bS [.int .u64 n, .string f] 25) sR) (by kernel_rfl) (by kernel_rfl) rfl rfl) ?_
 go_frame
 refine turn_call (v := .pointer (some ⟨S + 2, 0, none⟩)) (f := 69) (args := #[.pointer (some ⟨p, 0, none⟩), .agg #[.int .u64 n, .string f]]) rfl rfl (fun _ => by kernel_rfl) (fun w hw hs => (known_at (m := m) (ss := ss) (hw.sep1 sR) h0 h1 hf hn hs).mono fun e w' ⟨he, t⟩ => ⟨he, (open1 (l1 := ss) (l2 := []) (s := fresh n f (S + 2) (S + 1)) (hw.call1 sR t) sZ).pick pZ⟩) ?_
 go_frame
 refine turn_pure (v := .pointer (some ⟨S + 2, 0, none⟩)) rfl (by decide) (fun _ => rfl) ?_
 go_frame
 refine turn_pure (v := .pointer (some ⟨S + 2, 5, none⟩)) rfl (by decide) (fun _ => by kernel_rfl) ?_
 go_frame
 refine turn_wait (v := .map (some (S + 1))) rfl (by decide) (by kernel_rfl) (fun w hw => run_load_one (ty := 81) rfl rfl (hw.get (A := sesC (S + 2) (fresh n f (S + 2) (S + 1)).cells) sR) (by kernel_rfl) rfl) ?_
 go_frame
 refine turn_pure (v := .int .u64 r) rfl (by decide) (fun _ => rfl) ?_
 go_frame
 refine turn_both (v := .agg #[.int .i64 c.e, .int .u64 c.n, .bool c.g]) rfl (by decide) (fun w hw => run_load_row (ty := 48) (n := 3) rfl rfl (hw.get (A := Part.cells bA [.int .i64 c.e, .int .u64 c.n, .bool c.g] 48) sR) (by kernel_rfl) (by kernel_rfl) rfl rfl) (fun w hw => run_load_row (ty := 48) (n := 3) rfl rfl (hw.get (A := Part.cells bA [.int .i64 c.e, .int .u64 c.n, .bool c.g] 48) sR) (by kernel_rfl) (by kernel_rfl) rfl rfl) ?_
 go_frame
 refine wpQuietL_nil ?_
 intro w2 hw2
 have hB := turnC_end hw2
 clear hF hA hw2 hS; have hA := hB; clear hB
 refine wpList_put_new_at rfl rfl rfl (by (try simp only [Act.eval, eV]) <;> exact rfl) (by (try simp only [Act.eval, eV]) <;> exact rfl) hA (k := 22) (es := saids []) sR lawU Tryz.underlying81 hu nofun ?_
 intro w1 hB; clear hA; have hA := hB; clear hB
 go_wp2_with fail
 go_end0
 refine ⟨S + 2, S + 1, rfl, ?_⟩
 have e1 : saids [] ++ [(Value.int .u64 r, Value.agg #[.int .i64 c.e, .int .u64 c.n, .bool c.g])] = saids [(r, c)] := by simp [saids, saidE, Ans.val]
 have e2 : ents (ss ++ [fresh n f (S + 2) (S + 1)]) = ents (ss ++ { fresh n f (S + 2) (S + 1) with told := [(r, c)] } :: []) := by simp [ents, ent, Ses.key, Ses.ptr]
 rw [e1, e2] at hA
 exact close1 (m := m) (l1 := ss) (l2 := []) (s := { fresh n f (S + 2) (S + 1) with told := [(r, c)] }) hA sR sR sZ sZ sR
end Go.Proofs.YtpebabaigakagaaGreatDoor.Lease
end
section
namespace Go.Proofs.YtpebabaigakagaaGreatDoor.Lease
open Go.RowKit
def Turned (ss : List Ses) (n : Int) (f : ByteArray) (g : Ses → Ses) (ss' : List Ses) : Prop :=
 (∃ l1 s l2, find ss n f = some s ∧ ss = l1 ++ s :: l2 ∧ ss' = l1 ++ g s :: l2) ∨ (find ss n f = none ∧ ∃ b t, ss' = ss ++ [g (fresh n f b t)])
def OpPost (w : World) (p m : Nat) (ss : List Ses) (n : Int) (f : ByteArray) (g : Ses → Ses) (ret : Value) (code : Int) (e : Ending) (w' : World) : Prop :=
 ∃ ss', e = .returned ret ∧ At [BookP p m ss] w [BookP p m ss'] w' ∧ (code ≠ 0 ∧ ss' = ss ∨ code = 0 ∧ Turned ss n f g ss')
section
variable {w : World} {p m : Nat} {ss : List Ses} {n : Int} {f : ByteArray}
theorem book_open (h : Sep [BookP p m ss] w) (h0 : 0 ≤ n) (h1 : n < big64) (hf : f.size ≤ maxLen) (hl : ss.length ≤ 1000000) (ttl time : Int) :
 Calls Tryz.prog 66 #[.pointer (some ⟨p, 0, none⟩), .agg #[.int .u64 n, .string f], .int .i64 ttl, .int .i64 time] w (OpPost w p m ss n f (fun s => s.opened ttl time) (.int .i64 (openE (look ss n f) (cnt ss f))) (openE (look ss n f) (cnt ss f))) := by
 by_cases he : openE (look ss n f) (cnt ss f) = 0
 · rw [he]
   have hd : (look ss n f).dead = false := by
    cases q : (look ss n f).dead
    · rfl
    · simp [openE, q] at he
   have ho : (look ss n f).op = false := by
    cases q : (look ss n f).op
    · rfl
    · simp [openE, hd, q] at he
   have hc : cnt ss f < 32 := by
    rcases Nat.lt_or_ge (cnt ss f) 32 with q | q
    · exact q
    · simp [openE, hd, ho, q] at he
   cases hn : find ss n f with
   | none =>
    refine (open_new h h0 h1 hf (by omega) ttl time hn hc).mono ?_
    rintro e w' ⟨b, t, rfl, hT⟩
    exact ⟨_, rfl, hT, .inr ⟨rfl, .inr ⟨hn, b, t, rfl⟩⟩⟩
   | some s =>
    have hk : look ss n f = s := by unfold look; rw [hn]; rfl
    rw [hk] at hd ho
    obtain ⟨l1, l2, rfl, _, _, _⟩ := find_split hn
    refine (open_old h h0 h1 hf (by omega) ttl time hn hc hd ho).mono ?_
    rintro e w' ⟨rfl, hT⟩
    exact ⟨_, rfl, hT, .inr ⟨rfl, .inl ⟨l1, s, l2, hn, rfl, rfl⟩⟩⟩
 · refine (open_no h h0 h1 hf (by omega) ttl time he).mono ?_
   rintro e w' ⟨rfl, hT⟩
   exact ⟨_, rfl, hT, .inl ⟨he, rfl⟩⟩
theorem look_split {b : Bool} (φ : Ses → Bool) (h0 : φ (fresh n f 0 0) ≠ b) (h : φ (look ss n f) = b) : ∃ s l1 l2, find ss n f = some s ∧ ss = l1 ++ s :: l2 ∧ φ s = b ∧ look ss n f = s := by
 cases hn : find ss n f with
 | none =>
  unfold look at h
  rw [hn] at h
  exact absurd h h0
 | some s =>
  obtain ⟨l1, l2, e, _, _, _⟩ := find_split hn
  have hk : look ss n f = s := by unfold look; rw [hn]; rfl
  exact ⟨s, l1, l2, rfl, e, by rw [← hk]; exact h, hk⟩
theorem book_keep (h : Sep [BookP p m ss] w) (h0 : 0 ≤ n) (h1 : n < big64) (hf : f.size ≤ maxLen) (time : Int) :
 Calls Tryz.prog 67 #[.pointer (some ⟨p, 0, none⟩), .agg #[.int .u64 n, .string f], .int .i64 time] w (OpPost w p m ss n f (fun s => s.kept time) (.int .i64 (if (look ss n f).op then 0 else 50)) (if (look ss n f).op then 0 else 50)) := by
 cases ho : (look ss n f).op
 · refine (keep_no h h0 h1 hf time ho).mono ?_
   rintro e w' ⟨rfl, hT⟩
   exact ⟨_, rfl, hT, .inl ⟨by simp, rfl⟩⟩
 · obtain ⟨s, l1, l2, hn, rfl, hs, _⟩ := look_split (fun s => s.op) (by simp [fresh]) ho
   refine (keep_yes h h0 h1 hf time hn hs).mono ?_
   rintro e w' ⟨rfl, hT⟩
   exact ⟨_, rfl, hT, .inr ⟨rfl, .inl ⟨l1, s, l2, hn, rfl, rfl⟩⟩⟩
theorem book_end (h : Sep [BookP p m ss] w) (h0 : 0 ≤ n) (h1 : n < big64) (hf : f.size ≤ maxLen) :
 Calls Tryz.prog 65 #[.pointer (some ⟨p, 0, none⟩), .agg #[.int .u64 n, .string f]] w (OpPost w p m ss n f Ses.ended (.int .i64 (if (look ss n f).op then 0 else 50)) (if (look ss n f).op then 0 else 50)) := by
 cases ho : (look ss n f).op
 · refine (end_no h h0 h1 hf ho).mono ?_
   rintro e w' ⟨rfl, hT⟩
   exact ⟨_, rfl, hT, .inl ⟨by simp, rfl⟩⟩
 · obtain ⟨s, l1, l2, hn, rfl, hs, _⟩ := look_split (fun s => s.op) (by simp [fresh]) ho
   refine (end_yes h h0 h1 hf hn hs).mono ?_
   rintro e w' ⟨rfl, hT⟩
   exact ⟨_, rfl, hT, .inr ⟨rfl, .inl ⟨l1, s, l2, hn, rfl, rfl⟩⟩⟩
def expB (s : Ses) (time : Int) : Int := if s.op then (if time < s.dl then 54 else 0) else 50
theorem book_expire (h : Sep [BookP p m ss] w) (h0 : 0 ≤ n) (h1 : n < big64) (hf : f.size ≤ maxLen) (time : Int) :
 Calls Tryz.prog 38 #[.pointer (some ⟨p, 0, none⟩), .agg #[.int .u64 n, .string f], .int .i64 time] w (OpPost w p m ss n f Ses.ended (.int .i64 (expB (look ss n f) time)) (expB (look ss n f) time)) := by
 cases ho : (look ss n f).op
 · refine (expire_no h h0 h1 hf time ho).mono ?_
   rintro e w' ⟨rfl, hT⟩
   have he : expB (look ss n f) time = 50 := by simp [expB, ho]
   rw [he]
   exact ⟨_, rfl, hT, .inl ⟨by simp, rfl⟩⟩
 · by_cases ht : time < (look ss n f).dl
   · refine (expire_early h h0 h1 hf time ho ht).mono ?_
     rintro e w' ⟨rfl, hT⟩
     have he : expB (look ss n f) time = 54 := by simp [expB, ho, ht]
     rw [he]
     exact ⟨_, rfl, hT, .inl ⟨by simp, rfl⟩⟩
   · have he : expB (look ss n f) time = 0 := by simp [expB, ho, ht]
     rw [he]
     obtain ⟨s, l1, l2, hn, rfl, hs, hk⟩ := look_split (fun s => s.op) (by simp [fresh]) ho
     rw [hk] at ht
     refine (expire_yes h h0 h1 hf time hn hs (by omega)).mono ?_
     rintro e w' ⟨rfl, hT⟩
     exact ⟨_, rfl, hT, .inr ⟨rfl, .inl ⟨l1, s, l2, hn, rfl, rfl⟩⟩⟩
def Ses.tell (s : Ses) (r : Int) (c : Ans) : Ses := { s with told := s.told ++ [(r, c)] }
def tellE (s : Ses) (r : Int) : Int := if (said s.told r).isSome then 1 else if 256 ≤ s.told.length then 1 else 0
theorem book_tell (h : Sep [BookP p m ss] w) (h0 : 0 ≤ n) (h1 : n < big64) (hf : f.size ≤ maxLen) {r : Int} (r0 : 0 ≤ r) (r1 : r < big64) (c : Ans) :
 Calls Tryz.prog 41 #[.pointer (some ⟨p, 0, none⟩), .agg #[.int .u64 n, .string f], .int .u64 r, .agg #[.int .i64 c.e, .int .u64 c.n, .bool c.g]] w (OpPost w p m ss n f (fun s => s.tell r c) (.tuple #[]) (tellE (look ss n f) r)) := by
 cases hn : find ss n f with
 | none =>
  have hk : look ss n f = fresh n f 0 0 := by unfold look; rw [hn]; rfl
  refine (tell_unknown h h0 h1 hf hn r0 r1 c).mono ?_
  rintro e w' ⟨b, t, rfl, hT⟩
  exact ⟨_, rfl, hT, .inr ⟨by rw [hk]; simp [tellE, fresh, said], .inr ⟨hn, b, t, rfl⟩⟩⟩
 | some s =>
  have hk : look ss n f = s := by unfold look; rw [hn]; rfl
  rw [hk]
  cases hs : said s.told r with
  | some a =>
   refine (tell_old h h0 h1 hf hn r0 r1 hs c).mono ?_
   rintro e w' ⟨rfl, hT⟩
   exact ⟨_, rfl, hT, .inl ⟨by simp [tellE, hs], rfl⟩⟩
  | none =>
   by_cases hl : s.told.length < 256
   · obtain ⟨l1, l2, rfl, _, _, _⟩ := find_split hn
     refine (tell_new h h0 h1 hf hn r0 r1 hs hl c).mono ?_
     rintro e w' ⟨rfl, hT⟩
     exact ⟨_, rfl, hT, .inr ⟨by simp [tellE, hs, Nat.not_le.2 hl], .inl ⟨l1, s, l2, hn, rfl, rfl⟩⟩⟩
   · refine (tell_full h h0 h1 hf hn r0 r1 hs hl c).mono ?_
     rintro e w' ⟨rfl, hT⟩
     exact ⟨_, rfl, hT, .inl ⟨by simp [tellE, hs, Nat.le_of_not_lt hl], rfl⟩⟩
end
end Go.Proofs.YtpebabaigakagaaGreatDoor.Lease
end
section
namespace Go.Proofs.YtpebabaigakagaaGreatDoor.Path
open Go.Lib (compareBytes)
abbrev Bs := List UInt8
def letB (c : UInt8) : Bool := (decide (97 ≤ c.toNat) && decide (c.toNat ≤ 122)) || (decide (48 ≤ c.toNat) && decide (c.toNat ≤ 57)) || decide (c.toNat = 45) || decide (c.toNat = 95)
def partB (p : Bs) : Bool := !p.isEmpty && p.all letB
def splits : Bs → List Bs
 | [] => [[]]
 | c :: r => if c = 47 then [] :: splits r else ((c :: (splits r).headD []) :: (splits r).tail)
def joinS (l : List Bs) : Bs := Lib.join l [47]
def rightB (s : Bs) : Bool := (splits s).all partB && decide ((splits s).length ≤ 8) && decide (s.length ≤ 64)
def stepW (acc : List Bs) (p : Bs) : Option (List Bs) :=
 if p = [] ∨ p = [46] then some acc else if p = [46, 46] then (if acc = [] then none else some acc.dropLast) else if p.all letB = true then some (acc ++ [p]) else none
def walkL : List Bs → List Bs → Option (List Bs)
 | acc, [] => some acc
 | acc, p :: ps => match stepW acc p with
  | none => none
  | some a => walkL a ps
def normL (s : Bs) : Bs × Int := match walkL [] (splits s) with
 | none => ([], 30)
 | some l => if l = [] then ([], 13) else if 8 < l.length then ([], 31) else if 64 < (joinS l).length then ([], 11) else (joinS l, 0)
def partsL (s : Bs) : List Bs := if rightB s = true then splits s else []
def aboveB (p q : Bs) : Bool := rightB p && rightB q && (decide (p = q) || (p ++ [47]).isPrefixOf q)
def overB (p q : Bs) : Bool := aboveB p q || aboveB q p
theorem splits_cons (c : UInt8) (r : Bs) : splits (c :: r) = if c = 47 then [] :: splits r else ((c :: (splits r).headD []) :: (splits r).tail) := rfl
theorem splits_ne (s : Bs) : splits s ≠ [] := by
 cases s with
 | nil => simp [splits]
 | cons c r => rw [splits_cons]; split <;> simp
theorem splits_len (s : Bs) : 1 ≤ (splits s).length := by have := splits_ne s; cases h : splits s <;> simp_all
theorem join_cons (p : Bs) (l : List Bs) (h : l ≠ []) : joinS (p :: l) = p ++ 47 :: joinS l := by
 cases l with
 | nil => exact absurd rfl h
 | cons q r => simp [joinS, Lib.join, List.intercalate, List.intersperse]
theorem join_one (p : Bs) : joinS [p] = p := by simp [joinS, Lib.join_one]
theorem join_splits : ∀ s : Bs, joinS (splits s) = s
 | [] => by simp [splits, join_one]
 | c :: r => by
  have ih := join_splits r
  rw [splits_cons]
  split
  · rename_i h; subst h
    rw [join_cons _ _ (splits_ne r), ih]; rfl
  · cases h : splits r with
    | nil => exact absurd h (splits_ne r)
    | cons p ps =>
     rw [h] at ih
     simp only [List.headD_cons, List.tail_cons]
     cases ps with
     | nil => rw [join_one] at ih ⊢; rw [ih]
     | cons q qs =>
      rw [join_cons _ _ (by simp)] at ih ⊢
      rw [List.cons_append, ih]
theorem splits_noslash : ∀ p : Bs, (∀ c ∈ p, c ≠ 47) → splits p = [p]
 | [], _ => rfl
 | c :: r, h => by
  have ih := splits_noslash r (fun x hx => h x (by simp [hx]))
  rw [splits_cons]
  rw [if_neg (h c (by simp)), ih]; rfl
theorem splits_app : ∀ (p r : Bs), (∀ c ∈ p, c ≠ 47) → splits (p ++ 47 :: r) = p :: splits r
 | [], r, _ => by simp [splits]
 | c :: p, r, h => by
  have ih := splits_app p r (fun x hx => h x (by simp [hx]))
  rw [List.cons_append]
  rw [splits_cons]
  rw [if_neg (h c (by simp)), ih]; rfl
theorem splits_slash : ∀ (p r : Bs), splits (p ++ 47 :: r) = splits p ++ splits r
 | [], r => by simp [splits]
 | c :: p, r => by
  have ih := splits_slash p r
  rw [List.cons_append, splits_cons, splits_cons]
  by_cases h : c = 47
  · rw [if_pos h, if_pos h, ih]; rfl
  · rw [if_neg h, if_neg h, ih]
    cases hs : splits p with
    | nil => exact absurd hs (splits_ne p)
    | cons a b => rfl
theorem splits_join : ∀ (l : List Bs), l ≠ [] → (∀ p ∈ l, ∀ c ∈ p, c ≠ 47) → splits (joinS l) = l
 | [], h, _ => absurd rfl h
 | [p], _, h => by rw [join_one]; exact splits_noslash p (h p (by simp))
 | p :: q :: r, _, h => by
  rw [join_cons _ _ (by simp), splits_app _ _ (h p (by simp)), splits_join (q :: r) (by simp) (fun x hx => h x (by simp [hx]))]
theorem let_noslash {c : UInt8} (h : letB c = true) : c ≠ 47 := by
 intro e; subst e; simp [letB] at h
theorem splits_free : ∀ (s : Bs), ∀ p ∈ splits s, ∀ c ∈ p, c ≠ 47
 | [], p, hp, c, hc => by simp [splits] at hp; subst hp; simp at hc
 | d :: r, p, hp, c, hc => by
  have ih := splits_free r
  rw [splits_cons] at hp
  split at hp
  · rcases List.mem_cons.1 hp with rfl | hp
    · simp at hc
    · exact ih p hp c hc
  · rename_i hd
    cases hs : splits r with
    | nil => exact absurd hs (splits_ne r)
    | cons a b =>
     rw [hs] at hp ih
     simp only [List.headD_cons, List.tail_cons] at hp
     rcases List.mem_cons.1 hp with rfl | hp
     · rcases List.mem_cons.1 hc with rfl | hc
       · exact hd
       · exact ih a (by simp) c hc
     · exact ih p (by simp [hp]) c hc
theorem splits_inj {s t : Bs} (h : splits s = splits t) : s = t := by rw [← join_splits s, h, join_splits]
theorem partB_iff {p : Bs} : partB p = true ↔ p ≠ [] ∧ p.all letB = true := by
 unfold partB; cases p <;> simp
theorem step_part {acc : List Bs} {p : Bs} (h : partB p = true) : stepW acc p = some (acc ++ [p]) := by
 obtain ⟨h1, h2⟩ := partB_iff.1 h
 unfold stepW
 rw [if_neg, if_neg, if_pos h2]
 · intro e; subst e; simp [letB] at h2
 · rintro (e | e)
   · exact h1 e
   · subst e; simp [letB] at h2
theorem walk_parts : ∀ (l acc : List Bs), (∀ p ∈ l, partB p = true) → walkL acc l = some (acc ++ l)
 | [], acc, _ => by simp [walkL]
 | p :: r, acc, h => by
  rw [walkL, step_part (h p (by simp))]
  simp only
  rw [walk_parts r _ (fun x hx => h x (by simp [hx]))]
  simp
theorem step_keeps {acc a : List Bs} {p : Bs} (h : stepW acc p = some a) (hacc : ∀ q ∈ acc, partB q = true) : ∀ q ∈ a, partB q = true := by
 unfold stepW at h
 split at h
 · cases h; exact hacc
 · split at h
   · split at h
     · cases h
     · cases h; exact fun q hq => hacc q (List.dropLast_subset _ hq)
   · split at h
     · cases h
       rename_i h1 h2 h3
       intro q hq
       rcases List.mem_append.1 hq with hq | hq
       · exact hacc q hq
       · rw [List.mem_singleton.1 hq, partB_iff]
         exact ⟨fun e => h1 (.inl e), h3⟩
     · cases h
theorem walk_keeps : ∀ {l acc a : List Bs}, walkL acc l = some a → (∀ q ∈ acc, partB q = true) → ∀ q ∈ a, partB q = true
 | [], acc, a, h, hacc => by simp [walkL] at h; subst h; exact hacc
 | p :: r, acc, a, h, hacc => by
  rw [walkL] at h
  cases hs : stepW acc p with
  | none => simp [hs] at h
  | some b => simp only [hs] at h; exact walk_keeps h (step_keeps hs hacc)
theorem part_free {p : Bs} (h : partB p = true) : ∀ c ∈ p, c ≠ 47 := fun c hc => let_noslash (List.all_eq_true.1 (partB_iff.1 h).2 c hc)
theorem right_norm (s : Bs) : ((normL s).2 = 0 ∧ (normL s).1 = s) ↔ rightB s = true := by
 constructor
 · rintro ⟨h1, h2⟩
   unfold normL at h1 h2
   cases hw : walkL [] (splits s) with
   | none => simp [hw] at h1
   | some l =>
    simp only [hw] at h1 h2
    by_cases e1 : l = []
    · simp [e1] at h1
    · rw [if_neg e1] at h1 h2
      by_cases e2 : 8 < l.length
      · simp [e2] at h1
      · rw [if_neg e2] at h1 h2
        by_cases e3 : 64 < (joinS l).length
        · simp [e3] at h1
        · rw [if_neg e3] at h1 h2
          simp only at h2
          have hp := walk_keeps hw (by simp)
          have hs : splits s = l := by rw [← h2]; exact splits_join l e1 (fun p hp' => part_free (hp p hp'))
          unfold rightB
          rw [hs]
          simp only [Bool.and_eq_true, decide_eq_true_eq, List.all_eq_true]
          rw [h2] at e3
          exact ⟨⟨hp, by omega⟩, by omega⟩
 · intro h
   unfold rightB at h
   simp only [Bool.and_eq_true, decide_eq_true_eq, List.all_eq_true] at h
   obtain ⟨⟨h1, h2⟩, h3⟩ := h
   have hw := walk_parts (splits s) [] h1
   unfold normL
   rw [hw]
   simp only [List.nil_append]
   rw [if_neg (splits_ne s), if_neg (by omega), join_splits, if_neg (by omega)]
   exact ⟨rfl, rfl⟩
theorem above_iff (p q : Bs) : splits p <+: splits q ↔ p = q ∨ (p ++ [47]) <+: q := by
 constructor
 · rintro ⟨r, hr⟩
   cases r with
   | nil => exact .inl (splits_inj (by simpa using hr))
   | cons a b =>
    right
    have e : q = p ++ 47 :: joinS (a :: b) := by
     apply splits_inj
     rw [splits_slash, ← hr, splits_join (a :: b) (by simp) (fun x hx => splits_free q x (by rw [← hr]; exact List.mem_append_right _ hx))]
    rw [e]
    exact ⟨joinS (a :: b), by simp⟩
 · rintro (rfl | ⟨t, rfl⟩)
   · exact List.prefix_refl _
   · rw [show p ++ [47] ++ t = p ++ 47 :: t by simp, splits_slash]
     exact List.prefix_append _ _
theorem aboveB_parts {p q : Bs} : aboveB p q = (rightB p && rightB q && decide (splits p <+: splits q)) := by
 unfold aboveB
 congr 1
 rw [Bool.eq_iff_iff]
 simp only [Bool.or_eq_true, decide_eq_true_eq, List.isPrefixOf_iff_prefix]
 exact (above_iff p q).symm
theorem over_comm (p q : Bs) : overB p q = overB q p := by unfold overB; exact Bool.or_comm _ _
theorem over_right {p q : Bs} (h : overB p q = true) : rightB p = true ∧ rightB q = true := by
 unfold overB aboveB at h
 cases hp : rightB p <;> cases hq : rightB q <;> simp_all
theorem over_self {p : Bs} (h : rightB p = true) : overB p p = true := by simp [overB, aboveB, h]
def cmpL : List Bs → List Bs → Int
 | [], [] => 0
 | [], _ :: _ => -1
 | _ :: _, [] => 1
 | a :: r, b :: t => if compareBytes a b = 0 then cmpL r t else compareBytes a b
def cmpP (p q : Bs) : Int := if rightB p = true ∧ rightB q = true then cmpL (splits p) (splits q) else compareBytes p q
theorem u8_eq {x y : UInt8} (h1 : ¬ x < y) (h2 : ¬ y < x) : x = y := by
 apply UInt8.toNat_inj.1
 have a1 : ¬ x.toNat < y.toNat := fun q => h1 (UInt8.lt_iff_toNat_lt.2 q)
 have a2 : ¬ y.toNat < x.toNat := fun q => h2 (UInt8.lt_iff_toNat_lt.2 q)
 omega
theorem cb_eq : ∀ {a b : Bs}, compareBytes a b = 0 → a = b
 | [], [], _ => rfl
 | [], _ :: _, h => by simp [compareBytes] at h
 | _ :: _, [], h => by simp [compareBytes] at h
 | x :: a, y :: b, h => by
  rw [compareBytes] at h
  by_cases h1 : x < y
  · simp [h1] at h
  · by_cases h2 : y < x
    · simp [h1, h2] at h
    · rw [if_neg h1, if_neg h2] at h
      have : x = y := u8_eq h1 h2
      rw [this, cb_eq h]
theorem cb_self : ∀ a : Bs, compareBytes a a = 0
 | [] => rfl
 | x :: a => by
  rw [compareBytes, if_neg (fun q => by have := UInt8.lt_iff_toNat_lt.1 q; omega), if_neg (fun q => by have := UInt8.lt_iff_toNat_lt.1 q; omega), cb_self a]
theorem cb_anti : ∀ a b : Bs, compareBytes a b = - compareBytes b a
 | [], [] => rfl
 | [], _ :: _ => rfl
 | _ :: _, [] => rfl
 | x :: a, y :: b => by
  rw [compareBytes, compareBytes, cb_anti a b]
  by_cases h1 : x < y
  · have h2 : ¬ y < x := fun q => by have := UInt8.lt_iff_toNat_lt.1 q; have := UInt8.lt_iff_toNat_lt.1 h1; omega
    simp [h1, h2]
  · by_cases h2 : y < x <;> simp [h1, h2]
theorem cb_three (a b : Bs) : compareBytes a b = -1 ∨ compareBytes a b = 0 ∨ compareBytes a b = 1 := by
 induction a generalizing b with
 | nil => cases b <;> simp [compareBytes]
 | cons x a ih =>
  cases b with
  | nil => simp [compareBytes]
  | cons y b =>
   rw [compareBytes]
   split
   · simp
   · split
     · simp
     · exact ih b
theorem cb_trans : ∀ {a b c : Bs}, compareBytes a b < 0 → compareBytes b c < 0 → compareBytes a c < 0
 | [], _ :: _, _ :: _, _, _ => by simp [compareBytes]
 | [], [], _, h, _ => by simp [compareBytes] at h
 | _ :: _, [], _, h, _ => by simp [compareBytes] at h
 | _, _ :: _, [], _, h => by simp [compareBytes] at h
 | x :: a, y :: b, z :: c, h1, h2 => by
  rw [compareBytes] at h1 h2 ⊢
  by_cases q1 : x < y
  · by_cases q2 : y < z
    · have : x < z := UInt8.lt_iff_toNat_lt.2 (by have := UInt8.lt_iff_toNat_lt.1 q1; have := UInt8.lt_iff_toNat_lt.1 q2; omega)
      simp [this]
    · by_cases q3 : z < y
      · simp [q2, q3] at h2
      · have : y = z := u8_eq q2 q3
        subst this
        simp [q1]
  · by_cases q4 : y < x
    · simp [q1, q4] at h1
    · have : x = y := u8_eq q1 q4
      subst this
      rw [if_neg q1, if_neg q1] at h1
      by_cases q2 : x < z
      · simp [q2]
      · by_cases q3 : z < x
        · simp [q2, q3] at h2
        · rw [if_neg q2, if_neg q3] at h2 ⊢
          exact cb_trans h1 h2
theorem cl_eq : ∀ {a b : List Bs}, cmpL a b = 0 → a = b
 | [], [], _ => rfl
 | [], _ :: _, h => by simp [cmpL] at h
 | _ :: _, [], h => by simp [cmpL] at h
 | x :: a, y :: b, h => by
  rw [cmpL] at h
  by_cases h1 : compareBytes x y = 0
  · rw [if_pos h1] at h
    rw [cb_eq h1, cl_eq h]
  · rw [if_neg h1] at h; exact absurd h h1
theorem cl_self : ∀ a : List Bs, cmpL a a = 0
 | [] => rfl
 | x :: a => by rw [cmpL, if_pos (cb_self x), cl_self a]
theorem cl_anti : ∀ a b : List Bs, cmpL a b = - cmpL b a
 | [], [] => rfl
 | [], _ :: _ => rfl
 | _ :: _, [] => rfl
 | x :: a, y :: b => by
  rw [cmpL, cmpL, cl_anti a b, cb_anti x y]
  by_cases h : compareBytes y x = 0 <;> simp [h]
theorem cl_trans : ∀ {a b c : List Bs}, cmpL a b < 0 → cmpL b c < 0 → cmpL a c < 0
 | [], _ :: _, _ :: _, _, _ => by simp [cmpL]
 | [], [], _, h, _ => by simp [cmpL] at h
 | _ :: _, [], _, h, _ => by simp [cmpL] at h
 | _, _ :: _, [], _, h => by simp [cmpL] at h
 | x :: a, y :: b, z :: c, h1, h2 => by
  rw [cmpL] at h1 h2 ⊢
  by_cases q1 : compareBytes x y = 0
  · have := cb_eq q1
    subst this
    rw [if_pos q1] at h1
    by_cases q2 : compareBytes x z = 0
    · rw [if_pos q2] at h2 ⊢
      exact cl_trans h1 h2
    · rw [if_neg q2] at h2 ⊢; exact h2
  · rw [if_neg q1] at h1
    by_cases q2 : compareBytes y z = 0
    · have := cb_eq q2
      subst this
      rw [if_neg q1]; exact h1
    · rw [if_neg q2] at h2
      have h3 := cb_trans h1 h2
      rw [if_neg (by omega)]; exact h3
end Go.Proofs.YtpebabaigakagaaGreatDoor.Path
end
section
namespace Go.Proofs.YtpebabaigakagaaGreatDoor.Path
open Go.RowKit
def letR (r : Int) : Bool := (decide (97 ≤ r) && decide (r ≤ 122)) || (decide (48 ≤ r) && decide (r ≤ 57)) || decide (r = 45) || decide (r = 95)
theorem letR_eq (c : UInt8) : letR (c.toNat : Int) = letB c := by
 unfold letR letB
 rw [Bool.eq_iff_iff]
 simp only [Bool.or_eq_true, Bool.and_eq_true, decide_eq_true_eq]
 omega
theorem letR_high {r : Int} (h : 128 ≤ r) : letR r = false := by
 unfold letR
 have h1 : ¬ r ≤ 122 := by omega
 have h2 : ¬ r ≤ 57 := by omega
 have h3 : ¬ r = 45 := by omega
 have h4 : ¬ r = 95 := by omega
 simp [h1, h2, h3, h4]
theorem letter_any (r : Int) (w : World) : Calls Tryz.prog 160 #[.int .i32 r] w fun e w' => e = .returned (.bool (letR r)) ∧ w = w' := by
 have key : ∀ (b1 b2 b3 b4 b5 b6 : Bool), decide (97 ≤ r) = b1 → decide (r ≤ 122) = b2 → decide (48 ≤ r) = b3 → decide (r ≤ 57) = b4 → decide (r = 45) = b5 → decide (r = 95) = b6 →
  Calls Tryz.prog 160 #[.int .i32 r] w fun e w' => e = .returned (.bool ((b1 && b2) || (b3 && b4) || b5 || b6)) ∧ w = w' := by
  intro b1 b2 b3 b4 b5 b6 h1 h2 h3 h4 h5 h6
  have h5' : (r == 45) = b5 := by rw [← h5]; rfl
  have h6' : (r == 95) = b6 := by rw [← h6]; rfl
  clear h5 h6
  cases b1 <;> cases b2 <;> cases b3 <;> cases b4 <;> cases b5 <;> cases b6
  all_goals first
   | (exfalso; simp at h1 h2 h3 h4 h5' h6'; omega)
   | (go_enter Tryz.func160, Tryz.ntmps160
      go_wp2
      go_ret
      exact ⟨rfl, rfl⟩)
 exact key _ _ _ _ _ _ rfl rfl rfl rfl rfl rfl
section
variable {P : Program} {ops : Array Oper} {rest : List Oper} {o : Oper} {a : Act} {Q : Exit → Act → World → Prop} {L0 L F : List Part} {w0 w : World}
theorem wpList_srange_at {t : TypeId} {x : Operand} {s : ByteArray} (hg : o.guard = none) (hop : o.op = .range t x) (hx : a.eval x = .string s) (ht : P.underlying t = some .string) (h : At L0 w0 L w)
 (hK : ∀ r w', At L0 w0 (Part.obj r (.stringIter s 0) :: L) w' → w0.heap.size ≤ r → wpList P ops Q rest (a.put o.dst (.pointer (some ⟨r, 0, none⟩))) w') : wpList P ops Q (o :: rest) a w := by
 refine wpList_val hg ?_ (hK _ _ (h.allocObj (.stringIter s 0)) h.size)
 simp [execOp, hop, hx, run_range_string w t s ht, World.iter, Result.andThen]
theorem wpList_snext_at {r pos : Nat} {s : ByteArray} {it : Operand} (hg : o.guard = none) (hop : o.op = .next it true) (hi : a.eval it = .pointer (some ⟨r, 0, none⟩)) (h : At L0 w0 L w) (sl : Sel (Part.obj r (.stringIter s pos)) L F)
 (hEnd : ¬ pos < s.size → wpList P ops Q rest (a.put o.dst (.tuple #[.bool false])) w)
 (hK : ∀ w', pos < s.size → At L0 w0 (Part.obj r (.stringIter s (pos + (Utf8.decode s pos).2)) :: F) w' → wpList P ops Q rest (a.put o.dst (.tuple #[.bool true, .int .i64 pos, .int .i32 (Utf8.decode s pos).1])) w') : wpList P ops Q (o :: rest) a w := by
 have hI : w.heap[r]? = some (.stringIter s pos) := h.get sl
 by_cases hp : pos < s.size
 · have h1 := Lib.run_next_any_at (P := P) w r s pos o.type hI hp
   refine wpList_val hg ?_ (hK _ hp (h.turn sl (Part.obj r (.stringIter s (pos + (Utf8.decode s pos).2))) (Lib.iterAt_heap w r s pos _ hI) (fun _ e => .inl e) ?_))
   · simp [execOp, hop, hi, h1, Result.andThen]
   · exact ⟨rfl, rfl, rfl, by rw [Lib.iterAt_size]; exact Nat.le_refl _, fun i _ hn => Lib.iterAt_other w r i s _ hn⟩
 · have h1 := Lib.run_next_end_at (P := P) w r s pos o.type hI hp
   refine wpList_val hg ?_ (hEnd hp)
   simp [execOp, hop, hi, h1, Result.andThen]
end
theorem all_take {s : ByteArray} {pos : Nat} (h : ¬ pos < s.size) (ha : (s.data.toList.take pos).all letB = true) : s.data.toList.all letB = true := by
 rwa [List.take_of_length_le (by simpa using Nat.le_of_not_lt h)] at ha
theorem all_succ {s : ByteArray} {pos : Nat} (h : pos < s.size) (ha : (s.data.toList.take pos).all letB = true) (hc : letB s[pos] = true) : (s.data.toList.take (pos + 1)).all letB = true := by
 rw [List.take_succ_eq_append_getElem (by simpa using h), List.all_append, ha]
 simpa using (show letB (s.data[pos]'(by simpa using h)) = true from hc)
theorem all_no {s : ByteArray} {pos : Nat} (h : pos < s.size) (hc : letB s[pos] = false) : partB s.data.toList = false := by
 unfold partB
 rw [Bool.and_eq_false_iff]
 right
 cases q : s.data.toList.all letB
 · rfl
 · have := List.all_eq_true.1 q s[pos] (by show s.data[pos]'(by simpa using h) ∈ s.data.toList; exact Array.mem_toList_iff.2 (Array.getElem_mem _))
   rw [hc] at this; cases this
theorem letB_ascii {c : UInt8} (h : letB c = true) : c.toNat < 128 := by
 unfold letB at h
 simp only [Bool.or_eq_true, Bool.and_eq_true, decide_eq_true_eq] at h
 omega
theorem dec_yes {s : ByteArray} {pos : Nat} (h : pos < s.size) (hc : letB s[pos] = true) : Utf8.decode s pos = (s[pos].toNat, 1) := decode_ascii s pos h (letB_ascii hc)
theorem dec_no {s : ByteArray} {pos : Nat} (h : pos < s.size) (hc : letB s[pos] = false) : letR ((Utf8.decode s pos).1 : Int) = false := by
 by_cases ha : s[pos].toNat < 128
 · rw [decode_ascii s pos h ha]
   simp only
   rw [letR_eq, hc]
 · have := (decode_high s pos h (by omega)).1
   exact letR_high (by omega)
def PartRel (w : World) (r : Nat) (s : ByteArray) (k : Nat) (wr : World) : Prop :=
 ∃ pos : Nat, At [] w [Part.obj r (.stringIter s pos)] wr ∧ pos + k = s.size ∧ (s.data.toList.take pos).all letB = true
theorem part_any (s : ByteArray) (w : World) : Calls Tryz.prog 135 #[.string s] w fun e w' => e = .returned (.bool (partB s.data.toList)) ∧ Ext w w' := by
 have hA := At.start (w0 := w) (L0 := []) trivial
 have hF := hA.facts
 go_enter Tryz.func135, Tryz.ntmps135
 go_wp2_with (refine wpList_srange_at rfl rfl rfl Tryz.underlying9 hA ?_; intro r w1 hB hr; clear hF hA; have hA := hB; clear hB; have hF := hA.facts; (try simp only [uY] at hA hF))
 try go_frame
 go_loopg [] s.size (PartRel w r s)
 case atStart => exact ⟨0, hA, by simp, by simp⟩
 case round =>
  obtain ⟨pos, hB, hk, hal⟩ := hrel
  clear hF hA; have hA := hB; clear hB
  go_step
  go_step
  refine wpList_snext_at rfl rfl rfl hA sR (fun hp => ?_) (fun w1 hp hB => ?_)
  · have hall := all_take hp hal
    have e : partB s.data.toList = !s.data.toList.isEmpty := by unfold partB; rw [hall, Bool.and_true]
    have e' := Lib.hid e
    clear e hall hal
    go_wp2_with fail
    go_ret
    exact ⟨by rw [e'.out, ← Lib.toList_data]; rfl, hA.toExt⟩
  · cases hc : letB s[pos]
    · have hd := dec_no hp hc
      have hno := Lib.hid (all_no hp hc)
      clear hc hal hk
      generalize Utf8.decode s pos = d at *
      obtain ⟨d1, d2⟩ := d
      simp only at hd
      clear hA; have hA := hB; clear hB
      have hF := hA.facts; (try simp only [uY] at hA hF)
      go_wp2_with (refine (letter_any _ _).mono ?_; rintro e _ ⟨rfl, rfl⟩)
      go_ret
      exact ⟨by rw [hno.out]; rfl, hA.toExt⟩
    · have hd := dec_yes hp hc
      have hal' := Lib.hid (all_succ hp hal hc)
      have hy : letR (s[pos].toNat : Int) = true := by rw [letR_eq, hc]
      rw [hd] at hB
      rw [hd]
      clear hd hal
      generalize s[pos] = c at *
      clear hA; have hA := hB; clear hB
      have hF := hA.facts; (try simp only [uY] at hA hF)
      go_wp2_with (refine (letter_any _ _).mono ?_; rintro e _ ⟨rfl, rfl⟩)
      go_roundg (gk - 1)
      case measure => omega
      case rel => exact ⟨pos + 1, hA, by omega, hal'.out⟩
end Go.Proofs.YtpebabaigakagaaGreatDoor.Path
end
