/- TabP, SortU, joined. -/
import Derived.Test.YtpebabaigakagaaGreatDoorP12
import Derived.Test.YtpebabaigakagaaGreatDoorP4
import Derived.Test.YtpebabaigakagaaGreatDoorP2
import Derived.Test.YtpebabaigakagaaGreatDoorChecked
import Derived.Sort.AssemblyPlain
import Derived.Deep.LoopGhost
import Derived.Deep.QuietTactic
import Derived.BigQuiet
import Derived.Deep.Cut
set_option linter.unusedSimpArgs false
set_option linter.unusedVariables false
set_option maxRecDepth 100000
set_option maxHeartbeats 16000000
section
namespace Go.Proofs.YtpebabaigakagaaGreatDoor.Tab
open Path (bl rightB overB aboveB)
open Lease (Ses Ans fresh)
open Lock (S3 Ent)
open Cmd (Cm rightC)
def pathK (c : Cm) : Prop := 4 ≤ c.kind ∧ c.kind ≤ 7
theorem key_live {c : Cm} (h : rightC c = true) (h0 : c.kind ≠ 0) : rightB (bl c.foot) = true ∧ ((pathK c ∧ rightB (bl c.path) = true ∧ Cmd.keyC c = some (c.path, c.num)) ∨ (¬ pathK c ∧ Cmd.keyC c = some (c.foot, c.num))) := by
 have h' := h
 unfold rightC at h
 unfold Cmd.keyC Cmd.footC
 rw [h']
 unfold Cmd.hasOf at h ⊢
 unfold pathK
 by_cases q1 : c.kind = 1
 · simp [q1, Cmd.rightH] at h ⊢; exact h.1.1.1.2
 by_cases q2 : c.kind = 2
 · simp [q2, Cmd.rightH] at h ⊢; exact h.1.1.2
 by_cases q3 : c.kind = 3
 · simp [q3, Cmd.rightH] at h ⊢; exact h.1.1.2
 by_cases q4 : c.kind = 4
 · simp [q4, Cmd.rightH] at h ⊢; exact ⟨h.1.1.1.1.2, h.1.1.2⟩
 by_cases q5 : c.kind = 5
 · simp [q5, Cmd.rightH] at h ⊢; exact ⟨h.1.1.1.1.2, h.1.1.2⟩
 by_cases q6 : c.kind = 6
 · simp [q6, Cmd.rightH] at h ⊢; exact ⟨h.1.1.1.2, h.1.2⟩
 by_cases q7 : c.kind = 7
 · simp [q7, Cmd.rightH] at h ⊢; exact ⟨h.1.1.1.1.2, h.1.1.2⟩
 by_cases q8 : c.kind = 8
 · simp [q8, Cmd.rightH] at h ⊢; exact h.1.2
 · simp [h0, q1, q2, q3, q4, q5, q6, q7, q8] at h
def clashK (a b : Cm) : Bool := match Cmd.keyC a, Cmd.keyC b with
 | some x, some y => (x.2 == y.2) || overB (bl x.1) (bl y.1)
 | _, _ => false
theorem clash_comm (a b : Cm) : clashK a b = clashK b a := by
 unfold clashK
 cases Cmd.keyC a <;> cases Cmd.keyC b <;> try rfl
 rename_i x y
 simp only
 rw [Path.over_comm]
 congr 1
 rw [Bool.eq_iff_iff, beq_iff_eq, beq_iff_eq]
 exact eq_comm
structure Live (c : Cm) : Prop where
 right : rightC c = true
 kind : c.kind ≠ 0
theorem dead_apply {c : Cm} (h : ¬ Live c) (t : TS) : applyT t c = (t, ans0) := by
 unfold applyT
 rw [if_pos]
 by_cases h0 : c.kind = 0
 · exact .inr h0
 · cases hr : rightC c with
   | false => exact .inl rfl
   | true => exact absurd ⟨hr, h0⟩ h
def keyF (c : Cm) : ByteArray := if 4 ≤ c.kind ∧ c.kind ≤ 7 then c.path else c.foot
theorem Live.key {c : Cm} (h : Live c) : Cmd.keyC c = some (keyF c, c.num) ∧ rightB (bl (keyF c)) = true := by
 obtain ⟨h1, h2⟩ := key_live h.right h.kind
 unfold keyF
 rcases h2 with ⟨q, q1, q2⟩ | ⟨q, q1⟩
 · rw [if_pos (show 4 ≤ c.kind ∧ c.kind ≤ 7 from q)]; exact ⟨q2, q1⟩
 · rw [if_neg (show ¬(4 ≤ c.kind ∧ c.kind ≤ 7) from q)]; exact ⟨q1, h1⟩
theorem Live.apart {a b : Cm} (ha : Live a) (hb : Live b) (hc : clashK a b = false) : a.num ≠ b.num ∧ overB (bl (keyF a)) (bl (keyF b)) = false := by
 unfold clashK at hc
 rw [ha.key.1, hb.key.1] at hc
 simp only [Bool.or_eq_false_iff, beq_eq_false_iff_ne] at hc
 exact hc
theorem keyF_path {c : Cm} (h : pathK c) : keyF c = c.path := if_pos h
theorem keyF_foot {c : Cm} (h : ¬ pathK c) : keyF c = c.foot := if_neg h
structure Loc (c : Cm) (t t' : TS) : Prop where
 look : lookA t.S c.num c.foot = lookA t'.S c.num c.foot
 cnt : c.kind = 1 → Lease.cnt t.S c.foot = Lease.cnt t'.S c.foot
 lock : pathK c → LocL t.L t'.L c.path c.num c.foot
theorem LocL.refl (l : S3) (p : ByteArray) (n : Int) (f : ByteArray) : LocL l l p n f := ⟨rfl, .refl _, .refl _, rfl⟩
theorem Loc.refl (c : Cm) (t : TS) : Loc c t t := ⟨rfl, fun _ => rfl, fun _ => LocL.refl _ _ _ _⟩
def LE.of (c : Cm) : LE → Prop
 | .nop => True
 | .add e => pathK c ∧ e.path = c.path ∧ e.num = c.num ∧ e.foot = c.foot ∧ aboveB (bl c.foot) (bl c.path) = true
 | .rem p n f => pathK c ∧ p = c.path ∧ n = c.num ∧ f = c.foot
 | .drop n f => ¬ pathK c ∧ n = c.num ∧ f = c.foot
def GOk (c : Cm) (g : Option (Ses → Ses)) : Prop := ∀ g', g = some g' → KeyG g' ∧ (pathK c → ∀ s, (g' s).op = s.op)
def runE (t : TS) (c : Cm) (g : Option (Ses → Ses)) (e : LE) : TS := ⟨updO g c.num c.foot t.S, e.run t.L⟩
theorem look_updO {g : Option (Ses → Ses)} {n : Int} {f : ByteArray} (hg : ∀ g', g = some g' → KeyG g') (S : List Ses) : lookA (updO g n f S) n f = (g.getD id) (lookA S n f) := by
 cases g with
 | none => rfl
 | some g => exact look_upd (hg g rfl) S
theorem tell_eff {c : Cm} {a : Ans} {g : Option (Ses → Ses)} (hg : GOk c g) (s : Ses) : ∃ g2, GOk c g2 ∧ ∀ (S : List Ses) (L : S3), lookA S c.num c.foot = s → tellT ⟨updO g c.num c.foot S, L⟩ c a = ⟨updO g2 c.num c.foot S, L⟩ := by
 by_cases hq : Lease.tellE ((g.getD id) s) c.req = 0
 · refine ⟨some (fun s => ((g.getD id) s).tell c.req a), ?_, fun S L hs => ?_⟩
   · intro g' e
     cases e
     cases g with
     | none => exact ⟨fun s => rfl, fun _ s => rfl⟩
     | some g => exact ⟨fun s => (hg g rfl).1 s, fun h s => (hg g rfl).2 h s⟩
   · unfold tellT opT
     simp only
     rw [look_updO (fun g' e => (hg g' e).1), hs, if_pos hq]
     cases g with
     | none => rfl
     | some g =>
      show TS.mk (updA _ _ _ (updA g _ _ S)) L = _
      rw [upd_upd (hg g rfl).1]
      rfl
 · refine ⟨g, hg, fun S L hs => ?_⟩
   unfold tellT opT
   simp only
   rw [look_updO (fun g' e => (hg g' e).1), hs, if_neg hq]
theorem opT_eff (t : TS) (c : Cm) (g : Ses → Ses) (e : Int) : opT t c g e = runE t c (if e = 0 then some g else none) .nop := by
 unfold opT
 split <;> rfl
theorem endT_eff (t : TS) (c : Cm) (e : Int) : endT t c e = runE t c (if e = 0 then some Ses.ended else none) (if e = 0 then .drop c.num c.foot else .nop) := by
 unfold endT
 split <;> rfl
theorem gok_none (c : Cm) : GOk c none := nofun
theorem gok_if {c : Cm} {g : Ses → Ses} (e : Int) (h1 : KeyG g) (h2 : pathK c → ∀ s, (g s).op = s.op) : GOk c (if e = 0 then some g else none) := by
 intro g' q
 split at q
 · cases q; exact ⟨h1, h2⟩
 · cases q
theorem do_eff {t : TS} {k : Nat} {c : Cm} (hi : Lock.Inv t.L k) (hc : Live c) (h8 : c.kind ≠ 8) : ∃ (g : Option (Ses → Ses)) (e : LE) (a : Ans), GOk c g ∧ e.of c ∧ ∀ (t' : TS) (k' : Nat), Lock.Inv t'.L k' → Loc c t t' → doT t' c = (runE t' c g e, a) := by
 unfold doT
 by_cases q1 : c.kind = 1
 · refine ⟨if Lease.openE (lookA t.S c.num c.foot) (Lease.cnt t.S c.foot) = 0 then some (fun s => s.opened c.n c.time) else none, .nop, ansE (Lease.openE (lookA t.S c.num c.foot) (Lease.cnt t.S c.foot)), gok_if (Lease.openE (lookA t.S c.num c.foot) (Lease.cnt t.S c.foot)) (g := fun s => s.opened c.n c.time) (fun s => rfl) (fun h => by unfold pathK at h; omega), trivial, fun t' k' _ hl => ?_⟩
   rw [if_pos q1, ← hl.look, ← hl.cnt q1, opT_eff]
 by_cases q2 : c.kind = 2
 · refine ⟨if (if (lookA t.S c.num c.foot).op then (0 : Int) else 50) = 0 then some Ses.ended else none, (if (if (lookA t.S c.num c.foot).op then (0 : Int) else 50) = 0 then .drop c.num c.foot else .nop), ansE (if (lookA t.S c.num c.foot).op then 0 else 50), gok_if (if (lookA t.S c.num c.foot).op then 0 else 50) (g := Ses.ended) (fun s => rfl) (fun h => by unfold pathK at h; omega), ?_, fun t' k' _ hl => ?_⟩
   · split
     · exact ⟨by unfold pathK; omega, rfl, rfl⟩
     · trivial
   · rw [if_neg q1, if_pos q2, ← hl.look, endT_eff]
 by_cases q3 : c.kind = 3
 · refine ⟨if (if (lookA t.S c.num c.foot).op then (0 : Int) else 50) = 0 then some (fun s => s.kept c.time) else none, .nop, ansE (if (lookA t.S c.num c.foot).op then 0 else 50), gok_if (if (lookA t.S c.num c.foot).op then 0 else 50) (g := fun s => s.kept c.time) (fun s => rfl) (fun h => by unfold pathK at h; omega), trivial, fun t' k' _ hl => ?_⟩
   rw [if_neg q1, if_neg q2, if_pos q3, ← hl.look, opT_eff]
 have hk : pathK c := by
  obtain ⟨_, h2⟩ := key_live hc.right hc.kind
  rcases h2 with ⟨q, _⟩ | ⟨q, _⟩
  · exact q
  · exfalso
    have := hc.right
    unfold rightC Cmd.hasOf at this
    unfold pathK at q
    have h0 := hc.kind
    rw [if_neg h0, if_neg q1, if_neg q2, if_neg q3, if_neg (by omega), if_neg (by omega), if_neg (by omega), if_neg (by omega), if_neg h8] at this
    cases this
 have hp : rightB (bl c.path) = true := by
  have := hc.key.2
  rwa [keyF_path hk] at this
 have hmay : ∀ {t' : TS}, Loc c t t' → mayT t' c = mayT t c := fun hl => by unfold mayT; rw [hl.look]
 by_cases hm : mayT t c = 0
 case neg =>
  refine ⟨none, .nop, ansE (mayT t c), gok_none c, trivial, fun t' k' _ hl => ?_⟩
  rw [if_neg q1, if_neg q2, if_neg q3]
  unfold locksT
  rw [hmay hl, if_pos hm]
  rfl
 have hab : aboveB (bl c.foot) (bl c.path) = true := by
  unfold mayT at hm
  split at hm
  · omega
  split at hm
  · omega
  rename_i h
  simpa using h
 have hadd : ∃ (e : LE) (a : Ans), e.of c ∧ ∀ (t' : TS), Loc c t t' → addT t' c = (runE t' c none e, a) := by
  by_cases hy : t.L.may c.path c.num c.foot c.mode = 0
  · refine ⟨.add (t.L.newE c.path c.num c.foot c.mode), ⟨0, (t.L.newE c.path c.num c.foot c.mode).n, Lock.couldD t.L.es c.path c.mode⟩, ⟨hk, rfl, rfl, rfl, hab⟩, fun t' hl => ?_⟩
    have h1 := hl.lock hk
    unfold addT S3.add
    rw [← h1.may, if_pos hy, if_pos hy, ← h1.newE, ← h1.could]
    unfold S3.added runE LE.run
    rw [← h1.newE, ← h1.ctr]
    rfl
  · refine ⟨.nop, ansE (t.L.may c.path c.num c.foot c.mode), trivial, fun t' hl => ?_⟩
    have h1 := hl.lock hk
    unfold addT S3.add
    rw [← h1.may, if_neg hy, if_neg hy]
    rfl
 obtain ⟨ea, aa, hea, hadd⟩ := hadd
 by_cases q4 : c.kind = 4
 · refine ⟨none, ea, aa, gok_none c, hea, fun t' k' _ hl => ?_⟩
   rw [if_neg q1, if_neg q2, if_neg q3]
   unfold locksT
   rw [hmay hl, hm, if_neg (by simp), if_pos q4, hadd t' hl]
 by_cases q5 : c.kind = 5
 · by_cases hcd : Lock.couldD t.L.es c.path c.mode = true
   · refine ⟨none, ea, aa, gok_none c, hea, fun t' k' _ hl => ?_⟩
     rw [if_neg q1, if_neg q2, if_neg q3]
     unfold locksT tryT
     rw [hmay hl, hm, if_neg (by simp), if_neg q4, if_pos q5, ← (hl.lock hk).could, if_pos hcd, hadd t' hl]
   · refine ⟨none, .nop, if t.L.may c.path c.num c.foot c.mode = 0 then ansE 51 else ansE (t.L.may c.path c.num c.foot c.mode), gok_none c, trivial, fun t' k' _ hl => ?_⟩
     rw [if_neg q1, if_neg q2, if_neg q3]
     unfold locksT tryT
     rw [hmay hl, hm, if_neg (by simp), if_neg q4, if_pos q5, ← (hl.lock hk).could, if_neg hcd, ← (hl.lock hk).may]
     show _ = (t', if t.L.may c.path c.num c.foot c.mode = 0 then ansE 51 else ansE (t.L.may c.path c.num c.foot c.mode))
     split <;> rfl
 by_cases q6 : c.kind = 6
 · refine ⟨none, .rem c.path c.num c.foot, ansE (if (Lock.find t.L.es c.path c.num c.foot).isSome then 0 else 52), gok_none c, ⟨hk, rfl, rfl, rfl⟩, fun t' k' _ hl => ?_⟩
   rw [if_neg q1, if_neg q2, if_neg q3]
   unfold locksT
   rw [hmay hl, hm, if_neg (by simp), if_neg q4, if_neg q5, if_pos q6, ← (hl.lock hk).find]
   rfl
 · refine ⟨none, .nop, ansE (if Lock.checkD t.L.es c.path c.n then 0 else 52), gok_none c, trivial, fun t' k' hi' hl => ?_⟩
   rw [if_neg q1, if_neg q2, if_neg q3]
   unfold locksT
   rw [hmay hl, hm, if_neg (by simp), if_neg q4, if_neg q5, if_neg q6, ← (hl.lock hk).check hp hi hi']
   rfl
theorem eff {t : TS} {k : Nat} {c : Cm} (hi : Lock.Inv t.L k) (hc : Live c) : ∃ (g : Option (Ses → Ses)) (e : LE) (a : Ans), GOk c g ∧ e.of c ∧ ∀ (t' : TS) (k' : Nat), Lock.Inv t'.L k' → Loc c t t' → applyT t' c = (runE t' c g e, a) := by
 have h1 : ¬ (rightC c = false ∨ c.kind = 0) := by
  rw [hc.right]
  exact fun h => h.elim (fun q => by cases q) hc.kind
 unfold applyT
 by_cases q8 : c.kind = 8
 · refine ⟨if Lease.expB (lookA t.S c.num c.foot) c.time = 0 then some Ses.ended else none, (if Lease.expB (lookA t.S c.num c.foot) c.time = 0 then .drop c.num c.foot else .nop), ansE (Lease.expB (lookA t.S c.num c.foot) c.time), gok_if (Lease.expB (lookA t.S c.num c.foot) c.time) (g := Ses.ended) (fun s => rfl) (fun h => by unfold pathK at h; omega), ?_, fun t' k' _ hl => ?_⟩
   · split
     · exact ⟨by unfold pathK; omega, rfl, rfl⟩
     · trivial
   · rw [if_neg h1, if_pos q8, ← hl.look, endT_eff]
 cases hs : Lease.said (lookA t.S c.num c.foot).told c.req with
 | some a =>
  refine ⟨none, .nop, a, gok_none c, trivial, fun t' k' _ hl => ?_⟩
  rw [if_neg h1, if_neg q8, ← hl.look, hs]
  rfl
 | none =>
  by_cases hf : 256 ≤ (lookA t.S c.num c.foot).told.length
  · refine ⟨none, .nop, ansE 14, gok_none c, trivial, fun t' k' _ hl => ?_⟩
    rw [if_neg h1, if_neg q8, ← hl.look, hs]
    simp only
    rw [if_pos hf]
    rfl
  · obtain ⟨g, e, a, hg, he, hd⟩ := do_eff hi hc q8
    obtain ⟨g2, hg2, ht⟩ := tell_eff (a := a) hg (lookA t.S c.num c.foot)
    refine ⟨g2, e, a, hg2, he, fun t' k' hi' hl => ?_⟩
    rw [if_neg h1, if_neg q8, ← hl.look, hs]
    simp only
    rw [if_neg hf, hd t' k' hi' hl]
    show (tellT ⟨updO g c.num c.foot t'.S, e.run t'.L⟩ c a, a) = _
    rw [ht t'.S _ hl.look.symm]
    rfl
def Ab (t : TS) : Prop := ∀ e ∈ t.L.es, aboveB (bl e.foot) (bl e.path) = true
theorem filter_same {es : List Ent} {p q : Ent → Bool} (h : ∀ x ∈ es, p x = true → q x = true) : (es.filter q).filter p = es.filter p := by
 rw [List.filter_filter]
 exact List.filter_congr fun x hx => by
  cases hp : p x with
  | false => rfl
  | true => rw [h x hx hp]; rfl
theorem loc_other {t : TS} {a b : Cm} (ha : Live a) (hb : Live b) (hc : clashK a b = false) (hab : Ab t) {g : Option (Ses → Ses)} {e : LE} (hg : GOk a g) (he : e.of a) : Loc b t (runE t a g e) := by
 obtain ⟨hn, ho⟩ := ha.apart hb hc
 refine ⟨?_, fun h1 => ?_, fun hk => ?_⟩
 · cases g with
   | none => rfl
   | some g => exact (look_other (hg g rfl).1 (fun q => hn q.1.symm) t.S).symm
 · have hb' : ¬ pathK b := by unfold pathK; omega
   cases g with
   | none => rfl
   | some g =>
    refine (cnt_other (hg g rfl).1 ?_ t.S).symm
    by_cases hk : pathK a
    · exact .inr ((hg g rfl).2 hk)
    · refine .inl fun e => ?_
      rw [keyF_foot hk, keyF_foot hb', e] at ho
      have := hb.key.2
      rw [keyF_foot hb'] at this
      rw [Path.over_self this] at ho
      cases ho
 · rw [keyF_path hk] at ho
   have hrp := hb.key.2
   rw [keyF_path hk] at hrp
   cases e with
   | nop => exact LocL.refl _ _ _ _
   | add e =>
    obtain ⟨k1, k2, k3, k4, k5⟩ := he
    rw [keyF_path k1] at ho
    have hne : ¬ e.path = b.path := fun q => by
     rw [← k2, q, Path.over_self hrp] at ho
     cases ho
    have h1 : e.of b.num b.foot = false := by unfold Lock.Ent.of; rw [k3]; exact decide_eq_false fun q => hn q.1
    have h2 : ovP b.path e = false := by unfold ovP; rw [k2]; exact ho
    refine ⟨rfl, ?_, ?_, ?_⟩
    · simp [runE, LE.run, List.filter_append, List.filter_cons, h1]
    · simp [runE, LE.run, List.filter_append, List.filter_cons, h2]
    · simp only [runE, LE.run]
      unfold Lock.counter
      rw [Lock.ctr_put, if_neg hne]
   | rem p n f =>
    obtain ⟨k1, k2, k3, k4⟩ := he
    rw [keyF_path k1] at ho
    refine ⟨rfl, ?_, ?_, rfl⟩
    · rw [show (runE t a g (.rem p n f)).L.es = t.L.es.filter (fun x => !x.is p n f) from rfl, filter_same]
      intro x _ hx
      simp only [Lock.Ent.of, decide_eq_true_eq] at hx
      simp only [Lock.Ent.is, Bool.not_eq_true', decide_eq_false_iff_not]
      exact fun q => hn (by rw [← k3, ← q.2.1, hx.1])
    · rw [show (runE t a g (.rem p n f)).L.es = t.L.es.filter (fun x => !x.is p n f) from rfl, filter_same]
      intro x _ hx
      unfold ovP at hx
      simp only [Lock.Ent.is, Bool.not_eq_true', decide_eq_false_iff_not]
      intro q
      rw [q.1, k2, ho] at hx
      cases hx
   | drop n f =>
    obtain ⟨k1, k2, k3⟩ := he
    rw [keyF_foot k1] at ho
    refine ⟨rfl, ?_, ?_, rfl⟩
    · rw [show (runE t a g (.drop n f)).L.es = t.L.es.filter (fun x => !x.of n f) from rfl, filter_same]
      intro x _ hx
      simp only [Lock.Ent.of, decide_eq_true_eq] at hx
      simp only [Lock.Ent.of, Bool.not_eq_true', decide_eq_false_iff_not]
      exact fun q => hn (by rw [← k2, ← q.1, hx.1])
    · rw [show (runE t a g (.drop n f)).L.es = t.L.es.filter (fun x => !x.of n f) from rfl, filter_same]
      intro x hm hx
      unfold ovP at hx
      simp only [Lock.Ent.of, Bool.not_eq_true', decide_eq_false_iff_not]
      intro q
      have h1 := above_over (hab x hm) hx
      rw [q.2, k3, ho] at h1
      cases h1
theorem filter_comm' {es : List Ent} (p q : Ent → Bool) : (es.filter p).filter q = (es.filter q).filter p := by
 rw [List.filter_filter, List.filter_filter]
 exact List.filter_congr fun x _ => Bool.and_comm _ _
theorem le_comm {l : S3} {a b : Cm} (ha : Live a) (hb : Live b) (hc : clashK a b = false) {e e2 : LE} (he : e.of a) (hf : e2.of b) : LEq (e2.run (e.run l)) (e.run (e2.run l)) := by
 obtain ⟨hn, ho⟩ := ha.apart hb hc
 cases e with
 | nop => exact LEq.refl _
 | add x =>
  obtain ⟨k1, k2, k3, k4, k5⟩ := he
  cases e2 with
  | nop => exact LEq.refl _
  | add y =>
   obtain ⟨j1, j2, j3, j4, j5⟩ := hf
   have hne : x.path ≠ y.path := fun q => by
    rw [keyF_path k1, keyF_path j1, ← k2, ← j2, q] at ho
    have := hb.key.2
    rw [keyF_path j1, ← j2] at this
    rw [Path.over_self this] at ho
    cases ho
   refine ⟨rfl, ?_, put_comm hne _⟩
   simp only [LE.run, List.append_assoc]
   exact List.Perm.append_left _ (.swap _ _ _)
  | rem p n f =>
   obtain ⟨j1, j2, j3, j4⟩ := hf
   have h1 : x.is p n f = false := by unfold Lock.Ent.is; exact decide_eq_false fun q => hn (by rw [← k3, q.2.1, j3])
   refine ⟨rfl, ?_, .refl _⟩
   simp [LE.run, S3.remove, List.filter_append, List.filter_cons, h1]
  | drop n f =>
   obtain ⟨j1, j2, j3⟩ := hf
   have h1 : x.of n f = false := by unfold Lock.Ent.of; exact decide_eq_false fun q => hn (by rw [← k3, q.1, j2])
   refine ⟨rfl, ?_, .refl _⟩
   simp [LE.run, S3.dropAll, List.filter_append, List.filter_cons, h1]
 | rem p n f =>
  obtain ⟨k1, k2, k3, k4⟩ := he
  cases e2 with
  | nop => exact LEq.refl _
  | add y =>
   obtain ⟨j1, j2, j3, j4, j5⟩ := hf
   have h1 : y.is p n f = false := by unfold Lock.Ent.is; exact decide_eq_false fun q => hn (by rw [← k3, ← q.2.1, j3])
   refine ⟨rfl, ?_, .refl _⟩
   simp [LE.run, S3.remove, List.filter_append, List.filter_cons, h1]
  | rem p' n' f' => exact ⟨rfl, by simp only [LE.run, S3.remove]; rw [filter_comm'], .refl _⟩
  | drop n' f' => exact ⟨rfl, by simp only [LE.run, S3.remove, S3.dropAll]; rw [filter_comm'], .refl _⟩
 | drop n f =>
  obtain ⟨k1, k2, k3⟩ := he
  cases e2 with
  | nop => exact LEq.refl _
  | add y =>
   obtain ⟨j1, j2, j3, j4, j5⟩ := hf
   have h1 : y.of n f = false := by unfold Lock.Ent.of; exact decide_eq_false fun q => hn (by rw [← k2, ← q.1, j3])
   refine ⟨rfl, ?_, .refl _⟩
   simp [LE.run, S3.dropAll, List.filter_append, List.filter_cons, h1]
  | rem p' n' f' => exact ⟨rfl, by simp only [LE.run, S3.remove, S3.dropAll]; rw [filter_comm'], .refl _⟩
  | drop n' f' => exact ⟨rfl, by simp only [LE.run, S3.dropAll]; rw [filter_comm'], .refl _⟩
structure TEq (t t' : TS) : Prop where
 S : t.S.Perm t'.S
 L : LEq t.L t'.L
theorem TEq.refl (t : TS) : TEq t t := ⟨.refl _, LEq.refl _⟩
theorem TEq.symm {t t' : TS} (h : TEq t t') : TEq t' t := ⟨h.S.symm, h.L.symm⟩
theorem TEq.trans {t t' t'' : TS} (h : TEq t t') (k : TEq t' t'') : TEq t t'' := ⟨h.S.trans k.S, h.L.trans k.L⟩
structure Good (t : TS) (k : Nat) : Prop where
 inv : TInv t k
 ab : Ab t
theorem Good.apply {t : TS} {k : Nat} {c : Cm} (h : Good t k) (hc : CmOk c) : Good (applyT t c).1 (k + 1) := by
 refine ⟨apply_inv h.inv hc, ?_⟩
 by_cases hl : Live c
 · obtain ⟨g, e, a, _, he, hr⟩ := eff h.inv.lock hl
   rw [hr t k h.inv.lock (Loc.refl c t)]
   intro x hx
   cases e with
   | nop => exact h.ab x hx
   | add e =>
    obtain ⟨k1, k2, k3, k4, k5⟩ := he
    rcases List.mem_append.1 hx with hx | hx
    · exact h.ab x hx
    · rw [List.mem_singleton.1 hx, k2, k4]; exact k5
   | rem p n f => exact h.ab x (List.mem_filter.1 hx).1
   | drop n f => exact h.ab x (List.mem_filter.1 hx).1
 · rw [dead_apply hl]; exact h.ab
theorem TEq.apply {t t' : TS} {k k' : Nat} {c : Cm} (h : TEq t t') (hg : Good t k) (hg' : Good t' k') : (applyT t c).2 = (applyT t' c).2 ∧ TEq (applyT t c).1 (applyT t' c).1 := by
 by_cases hl : Live c
 · obtain ⟨g, e, a, h1, he, hr⟩ := eff hg.inv.lock hl
   have hloc : Loc c t t' := ⟨look_perm h.S hg.inv.s.keys _ _, fun _ => cnt_perm h.S _, fun _ => h.L.loc hg.inv.lock.ckeys _ _ _⟩
   rw [hr t k hg.inv.lock (Loc.refl c t), hr t' k' hg'.inv.lock hloc]
   refine ⟨rfl, ?_, h.L.run hg.inv.lock.ckeys e⟩
   cases g with
   | none => exact h.S
   | some g => exact upd_perm h.S hg.inv.s.keys g _ _
 · rw [dead_apply hl, dead_apply hl]; exact ⟨rfl, h⟩
theorem comm_tab {t : TS} {k : Nat} {a b : Cm} (h : Good t k) (ha : CmOk a) (hb : CmOk b) (hc : clashK a b = false) :
 (applyT (applyT t a).1 b).2 = (applyT t b).2 ∧ (applyT (applyT t b).1 a).2 = (applyT t a).2 ∧ TEq (applyT (applyT t a).1 b).1 (applyT (applyT t b).1 a).1 := by
 by_cases la : Live a
 case neg => rw [dead_apply la, dead_apply la]; exact ⟨rfl, rfl, TEq.refl _⟩
 by_cases lb : Live b
 case neg => rw [dead_apply lb, dead_apply lb]; exact ⟨rfl, rfl, TEq.refl _⟩
 obtain ⟨g, e, x, hg, he, hr⟩ := eff h.inv.lock la
 obtain ⟨g', e', y, hg', he', hr'⟩ := eff h.inv.lock lb
 have q1 := hr t k h.inv.lock (Loc.refl a t)
 have q2 := hr' t k h.inv.lock (Loc.refl b t)
 have i1 := (h.apply ha).inv.lock
 have i2 := (h.apply hb).inv.lock
 rw [q1] at i1
 rw [q2] at i2
 rw [q1, q2]
 simp only
 rw [hr' _ _ i1 (loc_other la lb hc h.ab hg he), hr _ _ i2 (loc_other lb la (by rw [clash_comm]; exact hc) h.ab hg' he')]
 refine ⟨rfl, rfl, ?_, le_comm la lb hc he he'⟩
 have hn := (la.apart lb hc).1
 cases g with
 | none => exact .refl _
 | some g =>
  cases g' with
  | none => exact .refl _
  | some g' => exact upd_comm (hg' g' rfl).1 (hg g rfl).1 (fun q => hn q.1.symm) t.S
theorem Good.play {l : List Cm} (hl : ∀ c ∈ l, CmOk c) : ∀ {t : TS} {k : Nat}, Good t k → Good (playT t l) (k + l.length) := by
 induction l with
 | nil => exact fun h => h
 | cons c l ih =>
  intro t k h
  have h1 := ih (fun x hx => hl x (by simp [hx])) (h.apply (hl c (by simp)))
  have e : k + 1 + l.length = k + (c :: l).length := by simp only [List.length_cons]; omega
  rw [← e]
  exact h1
theorem good_new {first : Int} (h0 : 0 ≤ first) (h1 : first < Lease.big64) : Good ⟨[], ⟨first, [], []⟩⟩ 0 := ⟨new_inv h0 h1, nofun⟩
theorem TEq.play {l : List Cm} (hl : ∀ c ∈ l, CmOk c) : ∀ {t t' : TS} {k k' : Nat}, TEq t t' → Good t k → Good t' k' → toldT t l = toldT t' l ∧ TEq (playT t l) (playT t' l) := by
 induction l with
 | nil => exact fun h _ _ => ⟨rfl, h⟩
 | cons c l ih =>
  intro t t' k k' h hg hg'
  obtain ⟨h1, h2⟩ := h.apply (c := c) hg hg'
  obtain ⟨h3, h4⟩ := ih (fun x hx => hl x (by simp [hx])) h2 (hg.apply (hl c (by simp))) (hg'.apply (hl c (by simp)))
  exact ⟨by unfold toldT; rw [h1, h3], h4⟩
end Go.Proofs.YtpebabaigakagaaGreatDoor.Tab
end
section
namespace Go.Proofs.YtpebabaigakagaaGreatDoor.SortU
open Go.RowKit
open Go.Sort (swp ltInt insInner insOuter)
def rowC (d : Array Int) (r : List Value) : List Value := d.toList.map (Value.int .u64) ++ r
def atU (d : Array Int) (i : Nat) : Int := d[i]!
def ltU (x y : Int) : Bool := ltInt x y
abbrev blkU (g : Nat) (d : Array Int) (r : List Value) : Part := .cells g (rowC d r) 22
theorem rowC_at {d : Array Int} {r : List Value} {i : Nat} (h : i < d.size) : (rowC d r)[i]? = some (.int .u64 (atU d i)) := by
 unfold rowC atU
 rw [List.getElem?_append_left (by simpa using h), List.getElem?_map, Array.getElem?_toList, getElem!_pos d i h, Array.getElem?_eq_getElem h]
 rfl
theorem rowC_len (d : Array Int) (r : List Value) : (rowC d r).length = d.size + r.length := by simp [rowC]
theorem rowC_set {d : Array Int} {r : List Value} {i : Nat} (h : i < d.size) (x : Int) : setL (rowC d r) i [.int .u64 x] = rowC (d.setIfInBounds i x) r := by
 unfold rowC
 simp only [setL, Array.toList_setIfInBounds, List.map_set]
 rw [List.set_append_left _ _ (by simpa using h)]
theorem rowC_swp {d : Array Int} {r : List Value} {i j : Nat} (hi : i < d.size) (hj : j < d.size) : setL (setL (rowC d r) i [.int .u64 (atU d j)]) j [.int .u64 (atU d i)] = rowC (swp d i j) r := by
 rw [rowC_set hi, rowC_set (by simpa using hj)]
 rfl
theorem at_swp {L0 L F : List Part} {w0 w : World} {g : Nat} {d : Array Int} {r : List Value} (h : At L0 w0 L w) (s : Sel (blkU g d r) L F) {i j : Nat} (hi : i < d.size) (hj : j < d.size) :
 At L0 w0 (blkU g (swp d i j) r :: F) ((w.setCell ⟨g, i, none⟩ (.int .u64 (atU d j))).setCell ⟨g, j, none⟩ (.int .u64 (atU d i))) := by
 have h0 := At.store h s i (.int .u64 (atU d j))
 have h1 := At.store h0 .here j (.int .u64 (atU d i))
 rw [show ((rowC d r).set i (.int .u64 (atU d j))).set j (.int .u64 (atU d i)) = rowC (swp d i j) r from rowC_swp hi hj] at h1
 exact h1
theorem at_cell {L0 L F : List Part} {w0 w : World} {g : Nat} {d : Array Int} {r : List Value} (h : At L0 w0 L w) (s : Sel (blkU g d r) L F) {i : Nat} (hi : i < d.size) : w.cell? ⟨g, i, none⟩ = some (.int .u64 (atU d i)) := ((h.get s : BlockIs w g (rowC d r) 22).cell i).trans (rowC_at hi)
theorem at_free {L0 L F : List Part} {w0 w : World} {g : Nat} {d : Array Int} {r : List Value} (h : At L0 w0 L w) (s : Sel (blkU g d r) L F) (i : Nat) : w.frozen? ⟨g, i, none⟩ = false := (h.get s : BlockIs w g (rowC d r) 22).free i
theorem swp_size (d : Array Int) (i j : Nat) : (swp d i j).size = d.size := by simp [swp]
theorem isNaN_any (x : Int) (w : World) : Calls Tryz.prog 193 #[.int .u64 x] w fun e w' => e = .returned (.bool false) ∧ w' = w := by
 go_enter Tryz.func193, Tryz.ntmps193
 go_wp2
 go_ret
 exact ⟨by simp, rfl⟩
theorem less_any (x y : Int) (w : World) : Calls Tryz.prog 200 #[.int .u64 x, .int .u64 y] w fun e w' => e = .returned (.bool (ltU x y)) ∧ w' = w := by
 go_enter Tryz.func200, Tryz.ntmps200
 go_wp2_with (go_at_call 193; refine (isNaN_any _ _).mono ?_; rintro e w' ⟨rfl, rfl⟩)
 go_ret
 exact ⟨by simp [ltU, ltInt], rfl⟩
theorem less_in {L0 L : List Part} {w0 w : World} (h : At L0 w0 L w) (x y : Int) {b : Bool} (hb : ltU x y = b) : Calls Tryz.prog 200 #[.int .u64 x, .int .u64 y] w fun e w' => e = .returned (.bool b) ∧ At L0 w0 L w' := by
 subst hb
 exact (less_any x y w).mono fun _ _ ⟨h1, h2⟩ => ⟨h1, by rw [h2]; exact h⟩
theorem insInner_go {a j : Nat} {d : Array Int} (hj : a < j + 1) (hl : ltU (atU d (j + 1)) (atU d j) = true) : insInner ltInt a (j + 1) d = insInner ltInt a j (swp d (j + 1) j) := by
 have hl' : ltInt d[j + 1]! d[j]! = true := hl
 rw [insInner]
 simp [hj, hl']
theorem insInner_stop {a j : Nat} {d : Array Int} (h : j ≤ a ∨ ∃ k, j = k + 1 ∧ ltU (atU d (k + 1)) (atU d k) = false) : insInner ltInt a j d = d := by
 cases j with
 | zero => rw [insInner]
 | succ k =>
  rw [insInner]
  rcases h with h | ⟨m, hm, h⟩
  · simp [show ¬ k + 1 > a by omega]
  · have : m = k := by omega
    subst this
    have h' : ltInt d[m + 1]! d[m]! = false := h
    simp [h']
theorem insOuter_go {a b i : Nat} {d : Array Int} (h : i < b) : insOuter ltInt a b i d = insOuter ltInt a b (i + 1) (insInner ltInt a i d) := by rw [insOuter, if_pos h]
theorem insOuter_stop {a b i : Nat} {d : Array Int} (h : ¬ i < b) : insOuter ltInt a b i d = d := by rw [insOuter, if_neg h]
def InsO (w : World) (g : Nat) (d : Array Int) (r : List Value) (a b : Nat) (k : Nat) (u : Value) (wr : World) : Prop :=
 ∃ (i : Nat) (dk : Array Int), u = .int .i64 i ∧ a < i ∧ i + k = b + 1 ∧ dk.size = d.size ∧ At [blkU g d r] w [blkU g dk r] wr ∧ insOuter ltInt a b i dk = insOuter ltInt a b (a + 1) d
def InsI (w : World) (g : Nat) (d : Array Int) (r : List Value) (a i : Nat) (dk : Array Int) (k : Nat) (u : Value) (wr : World) : Prop :=
 ∃ dj : Array Int, u = .int .i64 (a + k : Nat) ∧ a + k ≤ i ∧ dj.size = d.size ∧ At [blkU g d r] w [blkU g dj r] wr ∧ insInner ltInt a (a + k) dj = insInner ltInt a i dk
theorem insertion_any {w : World} {g cap n : Nat} {d : Array Int} {r : List Value} (h : Sep [blkU g d r] w) (hn : d.size = n) {a b : Nat} (hab : a ≤ b) (hb : b ≤ d.size) (hsz : d.size < 4611686018427387904) :
 Calls Tryz.prog 194 #[.slice (some ⟨g, 0, none⟩) n cap, .int .i64 a, .int .i64 b] w fun e w' => e = .returned (.tuple #[]) ∧ At [blkU g d r] w [blkU g (Sort.insertionSort ltInt d a b) r] w' := by
 have hA := At.start h
 clear h
 go_enter Tryz.func194, Tryz.ntmps194
 go_wp2_with fail
 go_loopg [6] (b - a) (InsO w g d r a b)
 case atStart => exact ⟨a + 1, d, by simp, by omega, by omega, rfl, hA, rfl⟩
 case round =>
  obtain ⟨i, dk, rfl, hai, hik, hsk, hB, hO⟩ := hrel
  have hO' := Lib.hid hO
  clear hA hO; have hA := hB; clear hB
  by_cases hi : i < b
  · go_wp2_with fail
    go_loopg [7] (i - a) (InsI w g d r a i dk)
    case atStart => exact ⟨dk, by rw [show a + (i - a) = i by omega], by omega, hsk, hA, by rw [show a + (i - a) = i by omega]⟩
    case round =>
     obtain ⟨dj, rfl, hji, hsj, hB, hI⟩ := hrel
     have hI' := Lib.hid hI
     clear hA hI; have hA := hB; clear hB
     have out : insInner ltInt a (a + gk) dj = dj → insOuter ltInt a b (i + 1) dj = insOuter ltInt a b (a + 1) d := fun hs => by
      rw [← hO'.out, insOuter_go hi, ← hI'.out, hs]
     have out' := Lib.hid out
     clear out
     rcases Nat.eq_zero_or_pos gk with h0 | hpos
     · subst h0
       have hF := hA.facts; (try simp only [uY] at hA hF)
       have hx := Lib.hid (out'.out (insInner_stop (.inl (by omega))))
       go_wp2_with fail
       (refine cA hA ?_); (have hn1 := Cl.none hA); (have hn2 := Cl.none2 hA); (repeat (first | go_big_quiet_skip | (go_big_quiet_want; (first | (refine qL ?_; go_frame; go_big_quiet_on) | (go_big_quiet_op; (first | go_big_quiet_on | ((apply Exists.intro); (refine ⟨fun w1 hw => ?_, ?_⟩); (focus ((have hw := Cl.out hw); (fail))); (go_big_quiet_on))))))))
       (refine wpQuiet_nil ?_); (intro w1 hB); (clear hF hA hn1 hn2); (have hA := Cl.out hB); (clear hB); have hF := hA.facts; (try simp only [uY] at hA hF)
       go_wp2_with fail
       go_roundg (b - i)
       case measure => omega
       case rel => exact ⟨i + 1, dj, by simp, by omega, by omega, hsj, hA, hx.out⟩
     · obtain ⟨m, rfl⟩ : ∃ m, gk = m + 1 := ⟨gk - 1, by omega⟩
       obtain ⟨j, hj⟩ : ∃ j, a + m = j := ⟨_, rfl⟩
       have ej : a + (m + 1) = j + 1 := by omega
       rw [ej] at hI' hji out' ⊢
       have hj' := Lib.hid hj
       have e1 := rowC_at (d := dj) (r := r) (i := j + 1) (by omega)
       have e2 := rowC_at (d := dj) (r := r) (i := j) (by omega)
       have haj : a < j + 1 := by omega
       have hg : decide ((a : Int) < (j : Int) + 1) = true := by simp; omega
       clear hj ej
       have hF := hA.facts; (try simp only [uY] at hA hF)
       cases hl : ltU (atU dj (j + 1)) (atU dj j)
       · have hx := Lib.hid (out'.out (insInner_stop (.inr ⟨j, rfl, hl⟩)))
         have hl' := Lib.hid hl
         clear hl
         go_wp2_with fail
         (refine cA hA ?_); (have hn1 := Cl.none hA); (have hn2 := Cl.none2 hA); (repeat (first | go_big_quiet_skip | (go_big_quiet_want; (first | (refine qL ?_; go_frame; go_big_quiet_on) | (go_big_quiet_op; (first | go_big_quiet_on | ((apply Exists.intro); (refine ⟨fun w1 hw => ?_, ?_⟩); (focus ((have hw := Cl.out hw); (exact less_in hw _ _ hl'.out))); (go_big_quiet_on))))))))
         (refine wpQuiet_nil ?_); (intro w1 hB); (clear hF hA hn1 hn2); (have hA := Cl.out hB); (clear hB); have hF := hA.facts; (try simp only [uY] at hA hF)
         go_wp2_with fail
         go_roundg (b - i)
         case measure => omega
         case rel => exact ⟨i + 1, dj, by simp, by omega, by omega, hsj, hA, hx.out⟩
       · have hx := Lib.hid (insInner_go haj hl)
         have hl' := Lib.hid hl
         clear hl
         go_wp2_with fail
         (refine cA hA ?_); (have hn1 := Cl.none hA); (have hn2 := Cl.none2 hA); (repeat (first | go_big_quiet_skip | (go_big_quiet_want; (first | (refine qL ?_; go_frame; go_big_quiet_on) | (go_big_quiet_op; (first | go_big_quiet_on | ((apply Exists.intro); (refine ⟨fun w1 hw => ?_, ?_⟩); (focus ((have hw := Cl.out hw); (exact less_in hw _ _ hl'.out))); (go_big_quiet_on))))))))
         (refine wpQuiet_nil ?_); (intro w1 hB); (clear hF hA hn1 hn2); (have hA := Cl.out hB); (clear hB); have hF := hA.facts; (try simp only [uY] at hA hF)
         go_wp2_with fail
         (try clear hF); (have k1 := at_cell hA .here (i := j + 1) (by omega)); (have k2 := at_cell hA .here (i := j) (by omega)); (have f1 := at_free hA .here (j + 1)); (have f2 := at_free hA .here (j)); go_region; (have hB := (at_swp hA .here (i := j + 1) (j := j) (by omega) (by omega)).drew); (clear k1 k2 f1 f2 hA); (have hA := hB); (clear hB); (generalize World.drew (World.setCell _ _ _) = wz at *)
         go_wp2_with fail
         go_roundg m
         case measure => omega
         case rel => exact ⟨swp dj (j + 1) j, by rw [hj'.out], by have := hj'.out; omega, by rw [swp_size]; exact hsj, hA, by rw [hj'.out, ← hI'.out, hx.out]⟩
  · have hx := Lib.hid (insOuter_stop (a := a) (d := dk) hi)
    go_wp2_with fail
    go_end0
    refine ⟨rfl, ?_⟩
    unfold Sort.insertionSort
    rw [← hO'.out, hx.out]
    exact hA
end Go.Proofs.YtpebabaigakagaaGreatDoor.SortU
end
