/- LeasePlays: a step of a book, of the document's list; the pool of answers. -/
import Derived.Test.YtbdcgadcjgmgbaaLeaseP
namespace Go.Proofs.Ytbdcgadcjgmgbaa.Lease
open Go.RowKit
set_option linter.unusedSimpArgs false
set_option linter.unusedVariables false

/-- a session is turned: one that was known, or one that is known from now on -/
def Turned (ss : List Ses) (n : Int) (f : ByteArray) (g : Ses → Ses) (ss' : List Ses) : Prop :=
  (∃ l1 s l2, find ss n f = some s ∧ ss = l1 ++ s :: l2 ∧ ss' = l1 ++ g s :: l2) ∨ (find ss n f = none ∧ ∃ b t, ss' = ss ++ [g (fresh n f b t)])
def OpPost (w : World) (p m : Nat) (ss : List Ses) (n : Int) (f : ByteArray) (g : Ses → Ses) (ret : Value) (code : Int) (e : Ending) (w' : World) : Prop :=
  ∃ ss', e = .returned ret ∧ At [BookP p m ss] w [BookP p m ss'] w' ∧ (code ≠ 0 ∧ ss' = ss ∨ code = 0 ∧ Turned ss n f g ss')
theorem Rel.turned {ss ss' : List Ses} {L : List SR} {n : Int} {f : ByteArray} {g : Ses → Ses} {ga : SR → SR} (h : Rel ss L) (ht : Turned ss n f g ss') (hg : ∀ s, keyE (g s) = keyE s) (hr : ∀ s a, RelS s a → s = Lease.look ss n f ∨ find ss n f = none → a = findR L n f → RelS (g s) (ga a)) : Rel ss' (putR L (ga (findR L n f))) := by
  rcases ht with ⟨l1, s, l2, hf, rfl, rfl⟩ | ⟨hf, b, t, rfl⟩
  · rcases h.both n f with ⟨q, _, _⟩ | ⟨s', a, q1, q2, q3, q4, q5⟩
    · rw [q] at hf; cases hf
    · rw [q1] at hf
      cases hf
      rw [q4]
      exact h.put_old (hg s) (hr s a q5 (.inl (by unfold Lease.look; rw [q1]; rfl)) q4.symm)
  · rcases h.both n f with ⟨q, _, q3⟩ | ⟨s', a, q1, _⟩
    · rw [q3]
      have hk := hg (fresh n f b t)
      have h1 : (g (fresh n f b t)).num = n := congrArg Prod.fst hk
      have h2 : (g (fresh n f b t)).foot = f := congrArg Prod.snd hk
      exact h.put_new (by rw [h1, h2]; exact hf) (hr _ _ (RelS.none n f b t) (.inr q) q3.symm)
    · rw [q1] at hf; cases hf
section
variable {w : World} {p m : Nat} {ss : List Ses} {n : Int} {f : ByteArray}
theorem book_open (h : Sep [BookP p m ss] w) (h0 : 0 ≤ n) (h1 : n < big64) (hf : f.size ≤ maxLen) (hl : ss.length ≤ 1000000) (ttl time : Int) :
    Calls Try.prog 18 #[.pointer (some ⟨p, 0, none⟩), .agg #[.int .u64 n, .string f], .int .i64 ttl, .int .i64 time] w (OpPost w p m ss n f (fun s => s.opened ttl time) (.int .i64 (openE (look ss n f) (cnt ss f))) (openE (look ss n f) (cnt ss f))) := by
  by_cases he : openE (look ss n f) (cnt ss f) = 0
  · rw [he]
    have hd : (look ss n f).dead = false := by
      cases q : (look ss n f).dead
      · rfl
      · simp [openE, q] at he
    have ho : (look ss n f).op = false := by
      cases q : (look ss n f).op
      · rfl
      · simp [openE, hd, q] at he
    have hc : cnt ss f < 32 := by
      rcases Nat.lt_or_ge (cnt ss f) 32 with q | q
      · exact q
      · simp [openE, hd, ho, q] at he
    cases hn : find ss n f with
    | none =>
      refine (open_new h h0 h1 hf (by omega) ttl time hn hc).mono ?_
      rintro e w' ⟨b, t, rfl, hT⟩
      exact ⟨_, rfl, hT, .inr ⟨rfl, .inr ⟨hn, b, t, rfl⟩⟩⟩
    | some s =>
      have hk : look ss n f = s := by unfold look; rw [hn]; rfl
      rw [hk] at hd ho
      obtain ⟨l1, l2, rfl, _, _, _⟩ := find_split hn
      refine (open_old h h0 h1 hf (by omega) ttl time hn hc hd ho).mono ?_
      rintro e w' ⟨rfl, hT⟩
      exact ⟨_, rfl, hT, .inr ⟨rfl, .inl ⟨l1, s, l2, hn, rfl, rfl⟩⟩⟩
  · refine (open_no h h0 h1 hf (by omega) ttl time he).mono ?_
    rintro e w' ⟨rfl, hT⟩
    exact ⟨_, rfl, hT, .inl ⟨he, rfl⟩⟩
theorem look_split {b : Bool} (φ : Ses → Bool) (h0 : φ (fresh n f 0 0) ≠ b) (h : φ (look ss n f) = b) : ∃ s l1 l2, find ss n f = some s ∧ ss = l1 ++ s :: l2 ∧ φ s = b ∧ look ss n f = s := by
  cases hn : find ss n f with
  | none =>
    unfold look at h
    rw [hn] at h
    exact absurd h h0
  | some s =>
    obtain ⟨l1, l2, e, _, _, _⟩ := find_split hn
    have hk : look ss n f = s := by unfold look; rw [hn]; rfl
    exact ⟨s, l1, l2, rfl, e, by rw [← hk]; exact h, hk⟩
theorem book_keep (h : Sep [BookP p m ss] w) (h0 : 0 ≤ n) (h1 : n < big64) (hf : f.size ≤ maxLen) (time : Int) :
    Calls Try.prog 22 #[.pointer (some ⟨p, 0, none⟩), .agg #[.int .u64 n, .string f], .int .i64 time] w (OpPost w p m ss n f (fun s => s.kept time) (.int .i64 (if (look ss n f).op then 0 else 50)) (if (look ss n f).op then 0 else 50)) := by
  cases ho : (look ss n f).op
  · refine (keep_no h h0 h1 hf time ho).mono ?_
    rintro e w' ⟨rfl, hT⟩
    exact ⟨_, rfl, hT, .inl ⟨by simp, rfl⟩⟩
  · obtain ⟨s, l1, l2, hn, rfl, hs, _⟩ := look_split (fun s => s.op) (by simp [fresh]) ho
    refine (keep_yes h h0 h1 hf time hn hs).mono ?_
    rintro e w' ⟨rfl, hT⟩
    exact ⟨_, rfl, hT, .inr ⟨rfl, .inl ⟨l1, s, l2, hn, rfl, rfl⟩⟩⟩
theorem book_end (h : Sep [BookP p m ss] w) (h0 : 0 ≤ n) (h1 : n < big64) (hf : f.size ≤ maxLen) :
    Calls Try.prog 24 #[.pointer (some ⟨p, 0, none⟩), .agg #[.int .u64 n, .string f]] w (OpPost w p m ss n f Ses.ended (.int .i64 (if (look ss n f).op then 0 else 50)) (if (look ss n f).op then 0 else 50)) := by
  cases ho : (look ss n f).op
  · refine (end_no h h0 h1 hf ho).mono ?_
    rintro e w' ⟨rfl, hT⟩
    exact ⟨_, rfl, hT, .inl ⟨by simp, rfl⟩⟩
  · obtain ⟨s, l1, l2, hn, rfl, hs, _⟩ := look_split (fun s => s.op) (by simp [fresh]) ho
    refine (end_yes h h0 h1 hf hn hs).mono ?_
    rintro e w' ⟨rfl, hT⟩
    exact ⟨_, rfl, hT, .inr ⟨rfl, .inl ⟨l1, s, l2, hn, rfl, rfl⟩⟩⟩
def expB (s : Ses) (time : Int) : Int := if s.op then (if time < s.dl then 54 else 0) else 50
theorem book_expire (h : Sep [BookP p m ss] w) (h0 : 0 ≤ n) (h1 : n < big64) (hf : f.size ≤ maxLen) (time : Int) :
    Calls Try.prog 19 #[.pointer (some ⟨p, 0, none⟩), .agg #[.int .u64 n, .string f], .int .i64 time] w (OpPost w p m ss n f Ses.ended (.int .i64 (expB (look ss n f) time)) (expB (look ss n f) time)) := by
  cases ho : (look ss n f).op
  · refine (expire_no h h0 h1 hf time ho).mono ?_
    rintro e w' ⟨rfl, hT⟩
    have he : expB (look ss n f) time = 50 := by simp [expB, ho]
    rw [he]
    exact ⟨_, rfl, hT, .inl ⟨by simp, rfl⟩⟩
  · by_cases ht : time < (look ss n f).dl
    · refine (expire_early h h0 h1 hf time ho ht).mono ?_
      rintro e w' ⟨rfl, hT⟩
      have he : expB (look ss n f) time = 54 := by simp [expB, ho, ht]
      rw [he]
      exact ⟨_, rfl, hT, .inl ⟨by simp, rfl⟩⟩
    · have he : expB (look ss n f) time = 0 := by simp [expB, ho, ht]
      rw [he]
      obtain ⟨s, l1, l2, hn, rfl, hs, hk⟩ := look_split (fun s => s.op) (by simp [fresh]) ho
      rw [hk] at ht
      refine (expire_yes h h0 h1 hf time hn hs (by omega)).mono ?_
      rintro e w' ⟨rfl, hT⟩
      exact ⟨_, rfl, hT, .inr ⟨rfl, .inl ⟨l1, s, l2, hn, rfl, rfl⟩⟩⟩
def Ses.tell (s : Ses) (r : Int) (c : Ans) : Ses := { s with told := s.told ++ [(r, c)] }
def tellE (s : Ses) (r : Int) : Int := if (said s.told r).isSome then 1 else if 256 ≤ s.told.length then 1 else 0
theorem book_tell (h : Sep [BookP p m ss] w) (h0 : 0 ≤ n) (h1 : n < big64) (hf : f.size ≤ maxLen) {r : Int} (r0 : 0 ≤ r) (r1 : r < big64) (c : Ans) :
    Calls Try.prog 27 #[.pointer (some ⟨p, 0, none⟩), .agg #[.int .u64 n, .string f], .int .u64 r, .agg #[.int .i64 c.e, .int .u64 c.n, .bool c.g]] w (OpPost w p m ss n f (fun s => s.tell r c) (.tuple #[]) (tellE (look ss n f) r)) := by
  cases hn : find ss n f with
  | none =>
    have hk : look ss n f = fresh n f 0 0 := by unfold look; rw [hn]; rfl
    refine (tell_unknown h h0 h1 hf hn r0 r1 c).mono ?_
    rintro e w' ⟨b, t, rfl, hT⟩
    exact ⟨_, rfl, hT, .inr ⟨by rw [hk]; simp [tellE, fresh, said], .inr ⟨hn, b, t, rfl⟩⟩⟩
  | some s =>
    have hk : look ss n f = s := by unfold look; rw [hn]; rfl
    rw [hk]
    cases hs : said s.told r with
    | some a =>
      refine (tell_old h h0 h1 hf hn r0 r1 hs c).mono ?_
      rintro e w' ⟨rfl, hT⟩
      exact ⟨_, rfl, hT, .inl ⟨by simp [tellE, hs], rfl⟩⟩
    | none =>
      by_cases hl : s.told.length < 256
      · obtain ⟨l1, l2, rfl, _, _, _⟩ := find_split hn
        refine (tell_new h h0 h1 hf hn r0 r1 hs hl c).mono ?_
        rintro e w' ⟨rfl, hT⟩
        exact ⟨_, rfl, hT, .inr ⟨by simp [tellE, hs, Nat.not_le.2 hl], .inl ⟨l1, s, l2, hn, rfl, rfl⟩⟩⟩
      · refine (tell_full h h0 h1 hf hn r0 r1 hs hl c).mono ?_
        rintro e w' ⟨rfl, hT⟩
        exact ⟨_, rfl, hT, .inl ⟨by simp [tellE, hs, Nat.le_of_not_lt hl], rfl⟩⟩
end

/-! ### The two alike -/
section
variable {ss : List Ses} {L : List SR} {n : Int} {f : ByteArray} (h : Rel ss L)
include h
theorem Rel.openE : Lease.openE (Lease.look ss n f) (Lease.cnt ss f) = openRE (findR L n f) (cntR L f) := by
  have r := h.look n f
  unfold Lease.openE openRE
  rw [r.dead, r.op, h.cnt]
theorem Rel.expE (time : Int) : expB (Lease.look ss n f) time = Lease.expE (findR L n f) time := by
  have r := h.look n f
  unfold expB Lease.expE
  rw [r.op, r.dl]
theorem Rel.keepE : (if (Lease.look ss n f).op then (0 : Int) else 50) = if (findR L n f).op then 0 else 50 := by rw [(h.look n f).op]
end
theorem RelS.opened {s : Ses} {a : SR} (h : RelS s a) (ttl time : Int) (hd : a.dead = false) : RelS (s.opened ttl time) (a.opened ttl time) :=
  ⟨h.num, h.foot, rfl, hd.symm, rfl, rfl, h.told, cutI_bd ttl⟩
theorem cutI_self {t : Int} (h : 0 ≤ t ∧ t ≤ 2199023255552) : cutI t = t := by unfold cutI; rw [if_neg (by omega), if_neg (by omega)]
theorem RelS.kept {s : Ses} {a : SR} (h : RelS s a) (time : Int) : RelS (s.kept time) (a.kept time) := by
  have e : endI time s.ttl = cutI (cutI time + a.ttl) := by unfold endI; rw [h.ttl, cutI_self h.tb]
  refine ⟨h.num, h.foot, h.op, h.dead, ?_, h.ttl, h.told, h.tb⟩
  show (if s.dl < endI time s.ttl then endI time s.ttl else s.dl) = _
  rw [e, h.dl]
  rfl
theorem RelS.ended {s : Ses} {a : SR} (h : RelS s a) : RelS s.ended a.ended := ⟨h.num, h.foot, rfl, rfl, rfl, rfl, h.told, by simp [SR.ended]⟩
theorem RelS.tell {s : Ses} {a : SR} (h : RelS s a) {x : AR} (hn : saidA a.told x.r = Option.none) (hl : a.told.length < 256) (hb : 0 ≤ x.r ∧ x.r < big64) (ax : Option Addr) (cap : Nat) : RelS (s.tell x.r (arP x).2) { a with ax := ax, cap := cap, told := insA a.told x } :=
  ⟨h.num, h.foot, h.op, h.dead, h.dl, h.ttl, h.told.tell hn hl hb, h.tb⟩
theorem RelS.tellE {s : Ses} {a : SR} (h : RelS s a) (r : Int) : Lease.tellE s r = if (saidA a.told r).isSome then 1 else if 256 ≤ a.told.length then 1 else 0 := by
  unfold Lease.tellE
  rw [h.told.said, h.told.size]
  cases saidA a.told r <;> rfl
end Go.Proofs.Ytbdcgadcjgmgbaa.Lease
