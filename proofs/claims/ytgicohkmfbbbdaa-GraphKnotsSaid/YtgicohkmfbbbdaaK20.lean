/- GraA, GrbD, GrbE, GraI, joined. -/
import Derived.Test.YtgicohkmfbbbdaaK9
import Derived.Test.YtgicohkmfbbbdaaK12
import Derived.Test.YtgicohkmfbbbdaaK18
import Derived.Test.YtgicohkmfbbbdaaK19
import Derived.Test.YtgicohkmfbbbdaaK11
section
namespace Go.Proofs.Ytgicohkmfbbbdaa.Gr
open _root_.Go.Proofs.Ytgicohkmfbbbdaa.Mark (ltID sortID)
open Go.RowKit
open Attr (A8 rightI thro)
set_option linter.unusedSimpArgs false
set_option linter.unusedVariables false
attribute [-go_sem] run_eql_struct run_neq_struct run_eqGuard_agg

theorem index7F (d : Nat → Int) (q : Nat) (hq : q < 7) (w : World) : (Instr.index 24 (.agg #[.int .i64 (d 0), .int .i64 (d 1), .int .i64 (d 2), .int .i64 (d 3), .int .i64 (d 4), .int .i64 (d 5), .int .i64 (d 6)]) (.int .i64 q)).run Try.prog w = .ok (.int .i64 (d q)) w := by
  rcases (show q = 0 ∨ q = 1 ∨ q = 2 ∨ q = 3 ∨ q = 4 ∨ q = 5 ∨ q = 6 by omega) with rfl | rfl | rfl | rfl | rfl | rfl | rfl <;> kernel_rfl
/-- the name of a replica's next slot -/
def nextAt (f : F7) (q : Nat) : I2 := ((q : Int), f.at q)
/-- the first that is ready, and what it needs -/
def FirstIs (es : List (I2 × A8)) (f : F7) : Option (List I2) → Prop
  | some l => ∃ q, q < 7 ∧ (∀ k, k < q → NeedsIs es f (nextAt f k) none) ∧ NeedsIs es f (nextAt f q) (some l)
  | none => ∀ k, k < 7 → NeedsIs es f (nextAt f k) none
def ReadyPost (p m : Nat) (es : List (I2 × A8)) (f : F7) (w : World) (e : Ending) (w' : World) : Prop :=
  (∃ l v, e = .returned (.tuple #[v, .bool true]) ∧ FirstIs es f (some l) ∧ At [GrP p m es] w [rowI2 v l, GrP p m es] w') ∨
  (e = .returned (.tuple #[.slice none 0 0, .bool false]) ∧ FirstIs es f none ∧ At [GrP p m es] w [GrP p m es] w')
def RyRel (w : World) (p m bF : Nat) (es : List (I2 × A8)) (f : F7) (k : Nat) (u : Value) (wr : World) : Prop :=
  ∃ q : Nat, u = .int .i64 q ∧ q + k = 7 ∧ (∀ j, j < q → NeedsIs es f (nextAt f j) none) ∧ At [GrP p m es] w [Part.cells bF [.int .i64 f.f0, .int .i64 f.f1, .int .i64 f.f2, .int .i64 f.f3, .int .i64 f.f4, .int .i64 f.f5, .int .i64 f.f6] 24, GrP p m es] wr
set_option maxRecDepth 100000 in
set_option maxHeartbeats 4000000 in
theorem ready_any {w : World} {p m : Nat} {es : List (I2 × A8)} (h : Sep [GrP p m es] w) (f : F7) (hf : ∀ q, q < 7 → okI (f.at q)) (hd : Deps es) (hn : es.length ≤ 1000) :
    Calls Try.prog 40 #[.pointer (some ⟨p, 0, none⟩), f.val] w (ReadyPost p m es f w) := by
  have hA := At.start h
  have hd0 := Lib.hid hd
  have hf0 := Lib.hid hf
  clear h hd hf
  simp only [F7.val] at *
  (try simp only [uA] at hA); have hF := hA.facts; (try simp only [fZ] at hF)
  go_enter Try.func40, Try.ntmps40
  go_wp2_with (first | ((with_reducible refine gbx ?_); refine wX 24 (.agg #[.int .i64 f.f0, .int .i64 f.f1, .int .i64 f.f2, .int .i64 f.f3, .int .i64 f.f4, .int .i64 f.f5, .int .i64 f.f6]) [.int .i64 f.f0, .int .i64 f.f1, .int .i64 f.f2, .int .i64 f.f3, .int .i64 f.f4, .int .i64 f.f5, .int .i64 f.f6] hA ?_; clear hF hA; intro bF w1 hA hbF; (try simp only [uA] at hA); have hF := hA.facts; (try simp only [fZ] at hF)) | ((with_reducible refine gst ?_); refine wS hA ?_; clear hF hA; intro w1 hA; (try simp only [uA] at hA); have hF := hA.facts; (try simp only [fZ] at hF)) | ((with_reducible refine gbx ?_); refine wB hA ?_; clear hF hA; intro b1 w1 hA hb1; (try simp only [uA] at hA); have hF := hA.facts; (try simp only [fZ] at hF)))
  try go_frame
  go_loopg [11] 7 (RyRel w p m bF es f)
  case atStart => exact ⟨0, rfl, rfl, nofun, hA.pick pZ⟩
  case round =>
    obtain ⟨q, rfl, hqk, hno, hB⟩ := hrel
    have hno' := Lib.hid hno
    clear hF hA hno; have hA := hB; clear hB
    by_cases hq7 : q < 7
    · have hix : ∀ w, (Instr.index 24 (.agg #[.int .i64 f.f0, .int .i64 f.f1, .int .i64 f.f2, .int .i64 f.f3, .int .i64 f.f4, .int .i64 f.f5, .int .i64 f.f6]) (.int .i64 q)).run Try.prog w = .ok (.int .i64 (f.at q)) w := fun w => index7F (fun q => f.at q) q hq7 w
      have hqo : okI (q : Int) := by unfold okI; omega
      have hnd := fun (w1 : World) (h1 : Sep [GrP p m es] w1) => needs_any h1 f ((q : Int), f.at q) ⟨hqo, hf0.out q hq7⟩ hd0.out hn
      simp only [F7.val, idV] at hnd
      have hnx := Lib.hid (show nextAt f q = ((q : Int), f.at q) from rfl)
      generalize f.at q = fq at *
      (try simp only [uA] at hA); have hF := hA.facts; (try simp only [fZ] at hF)
      go_wp2_with (first | ((with_reducible refine gst ?_); refine wS hA ?_; clear hF hA; intro w1 hA; (try simp only [uA] at hA); have hF := hA.facts; (try simp only [fZ] at hF)) | ((with_reducible refine gbx ?_); refine wB hA ?_; clear hF hA; intro b1 w1 hA hb1; (try simp only [uA] at hA); have hF := hA.facts; (try simp only [fZ] at hF)))
      refine (hnd _ (hA.sep1 (A := GrP p m es) sZ)).mono ?_
      rintro e w1 (⟨l, v, rfl, hnl, hT⟩ | ⟨rfl, hnl, hT⟩)
      · have hB := hA.call1 (A := GrP p m es) sZ hT
        clear hF hA hT; have hA := hB; clear hB
        simp only [List.cons_append, List.nil_append] at hA
        (try simp only [uA] at hA); have hF := hA.facts; (try simp only [fZ] at hF)
        go_wp2_with (first | ((with_reducible refine gst ?_); refine wS hA ?_; clear hF hA; intro w1 hA; (try simp only [uA] at hA); have hF := hA.facts; (try simp only [fZ] at hF)) | ((with_reducible refine gbx ?_); refine wB hA ?_; clear hF hA; intro b1 w1 hA hb1; (try simp only [uA] at hA); have hF := hA.facts; (try simp only [fZ] at hF)))
        refine bodyPost_ret (v := .tuple #[v, .bool true]) (by simp [results, Try.results40, go_sem]) rfl ?_
        exact .inl ⟨l, v, rfl, ⟨q, hq7, hno'.out, by rw [hnx.out]; exact hnl⟩, hA.only2 sZ sZ⟩
      · have hB := hA.call1 (A := GrP p m es) sZ hT
        clear hF hA hT; have hA := hB; clear hB
        simp only [List.cons_append, List.nil_append] at hA
        have hnl' := Lib.hid hnl
        clear hnl
        (try simp only [uA] at hA); have hF := hA.facts; (try simp only [fZ] at hF)
        go_wp2_with (first | ((with_reducible refine gst ?_); refine wS hA ?_; clear hF hA; intro w1 hA; (try simp only [uA] at hA); have hF := hA.facts; (try simp only [fZ] at hF)) | ((with_reducible refine gbx ?_); refine wB hA ?_; clear hF hA; intro b1 w1 hA hb1; (try simp only [uA] at hA); have hF := hA.facts; (try simp only [fZ] at hF)))
        go_roundg (gk - 1)
        case measure => omega
        case rel =>
          refine ⟨q + 1, by simp, by omega, fun j hj => ?_, hA.pick pZ⟩
          rcases Nat.lt_succ_iff_lt_or_eq.1 hj with hj | rfl
          · exact hno'.out j hj
          · rw [hnx.out]; exact hnl'.out
    · have hq : q = 7 := by omega
      subst hq
      (try simp only [uA] at hA); have hF := hA.facts; (try simp only [fZ] at hF)
      go_wp2_with (first | ((with_reducible refine gst ?_); refine wS hA ?_; clear hF hA; intro w1 hA; (try simp only [uA] at hA); have hF := hA.facts; (try simp only [fZ] at hF)) | ((with_reducible refine gbx ?_); refine wB hA ?_; clear hF hA; intro b1 w1 hA hb1; (try simp only [uA] at hA); have hF := hA.facts; (try simp only [fZ] at hF)))
      refine bodyPost_ret (v := .tuple #[.slice none 0 0, .bool false]) (by simp [results, Try.results40, go_sem]) rfl ?_
      exact .inr ⟨rfl, hno'.out, hA.only1 sZ⟩
end Go.Proofs.Ytgicohkmfbbbdaa.Gr
end

section
namespace Go.Proofs.Ytgicohkmfbbbdaa.Gr
open _root_.Go.Proofs.Ytgicohkmfbbbdaa.Mark (ltID sortID)
open Go.RowKit
open Attr (A8 rightI)
set_option linter.unusedSimpArgs false
set_option linter.unusedVariables false

/-- a name that may be -/
def RtI (x : I2) : Prop := 0 ≤ x.1 ∧ x.1 < 7 ∧ 0 ≤ x.2 ∧ x.2 < 1024
/-- a graph's entries -/
structure Own (es : List (I2 × A8)) : Prop where
  uq : Uq es
  deps : Deps es
  right : ∀ e ∈ es, RtI e.1
theorem RtI.ok {x : I2} (h : RtI x) : okD x := by obtain ⟨h1, h2, h3, h4⟩ := h; unfold okD okI; omega
theorem Own.ok {es : List (I2 × A8)} (h : Own es) : ∀ e ∈ es, okD e.1 := fun e he => (h.right e he).ok
theorem Own.of_get {es : List (I2 × A8)} (h : Own es) {x : I2} (hx : (getA es x).isSome = true) : RtI x := by
  cases hq : getA es x with
  | none => rw [hq] at hx; cases hx
  | some a => exact h.right _ (getA_mem hq)
/-- a front that may be -/
def FOk (f : F7) : Prop := ∀ q, q < 7 → 0 ≤ f.at q ∧ f.at q ≤ 1024
theorem F7.at_set (f : F7) {q k : Nat} (hq : q < 7) (hk : k < 7) (v : Int) : (f.set q v).at k = if k = q then v else f.at k := by
  rcases (show q = 0 ∨ q = 1 ∨ q = 2 ∨ q = 3 ∨ q = 4 ∨ q = 5 ∨ q = 6 by omega) with rfl | rfl | rfl | rfl | rfl | rfl | rfl <;>
  rcases (show k = 0 ∨ k = 1 ∨ k = 2 ∨ k = 3 ∨ k = 4 ∨ k = 5 ∨ k = 6 by omega) with rfl | rfl | rfl | rfl | rfl | rfl | rfl <;> rfl
def upF1 (f : F7) (x : I2) : F7 := f.set x.1.toNat (max (f.at x.1.toNat) (x.2 + 1))
def upF (f : F7) (l : List I2) : F7 := l.foldl upF1 f
def mF (f : F7) : Nat := (1024 - f.f0).toNat + (1024 - f.f1).toNat + (1024 - f.f2).toNat + (1024 - f.f3).toNat + (1024 - f.f4).toNat + (1024 - f.f5).toNat + (1024 - f.f6).toNat
theorem tn_le {a b : Int} (h : a ≤ b) : (1024 - b).toNat ≤ (1024 - a).toNat := by omega
theorem tn_lt {a b : Int} (h : a < b) (hb : b ≤ 1024) : (1024 - b).toNat < (1024 - a).toNat := by omega
theorem tn_max {a : Int} (h : 0 ≤ a) : (1024 - a).toNat ≤ 1024 := by omega
theorem mF_le {f g : F7} (h : ∀ q, q < 7 → f.at q ≤ g.at q) : mF g ≤ mF f := by
  have h0 := tn_le (show f.f0 ≤ g.f0 from h 0 (by decide))
  have h1 := tn_le (show f.f1 ≤ g.f1 from h 1 (by decide))
  have h2 := tn_le (show f.f2 ≤ g.f2 from h 2 (by decide))
  have h3 := tn_le (show f.f3 ≤ g.f3 from h 3 (by decide))
  have h4 := tn_le (show f.f4 ≤ g.f4 from h 4 (by decide))
  have h5 := tn_le (show f.f5 ≤ g.f5 from h 5 (by decide))
  have h6 := tn_le (show f.f6 ≤ g.f6 from h 6 (by decide))
  unfold mF
  omega
theorem mF_lt {f g : F7} (h : ∀ q, q < 7 → f.at q ≤ g.at q) (hg : FOk g) {q : Nat} (hq : q < 7) (hlt : f.at q < g.at q) : mF g < mF f := by
  have h0 := tn_le (show f.f0 ≤ g.f0 from h 0 (by decide))
  have h1 := tn_le (show f.f1 ≤ g.f1 from h 1 (by decide))
  have h2 := tn_le (show f.f2 ≤ g.f2 from h 2 (by decide))
  have h3 := tn_le (show f.f3 ≤ g.f3 from h 3 (by decide))
  have h4 := tn_le (show f.f4 ≤ g.f4 from h 4 (by decide))
  have h5 := tn_le (show f.f5 ≤ g.f5 from h 5 (by decide))
  have h6 := tn_le (show f.f6 ≤ g.f6 from h 6 (by decide))
  have hb := (hg q hq).2
  clear h hg
  rcases (show q = 0 ∨ q = 1 ∨ q = 2 ∨ q = 3 ∨ q = 4 ∨ q = 5 ∨ q = 6 by omega) with rfl | rfl | rfl | rfl | rfl | rfl | rfl
  · have h9 := tn_lt (show f.f0 < g.f0 from hlt) (show g.f0 ≤ 1024 from hb)
    unfold mF
    omega
  · have h9 := tn_lt (show f.f1 < g.f1 from hlt) (show g.f1 ≤ 1024 from hb)
    unfold mF
    omega
  · have h9 := tn_lt (show f.f2 < g.f2 from hlt) (show g.f2 ≤ 1024 from hb)
    unfold mF
    omega
  · have h9 := tn_lt (show f.f3 < g.f3 from hlt) (show g.f3 ≤ 1024 from hb)
    unfold mF
    omega
  · have h9 := tn_lt (show f.f4 < g.f4 from hlt) (show g.f4 ≤ 1024 from hb)
    unfold mF
    omega
  · have h9 := tn_lt (show f.f5 < g.f5 from hlt) (show g.f5 ≤ 1024 from hb)
    unfold mF
    omega
  · have h9 := tn_lt (show f.f6 < g.f6 from hlt) (show g.f6 ≤ 1024 from hb)
    unfold mF
    omega
theorem mF_max {f : F7} (h : FOk f) : mF f ≤ 7168 := by
  have h0 := tn_max (show 0 ≤ f.f0 from (h 0 (by decide)).1)
  have h1 := tn_max (show 0 ≤ f.f1 from (h 1 (by decide)).1)
  have h2 := tn_max (show 0 ≤ f.f2 from (h 2 (by decide)).1)
  have h3 := tn_max (show 0 ≤ f.f3 from (h 3 (by decide)).1)
  have h4 := tn_max (show 0 ≤ f.f4 from (h 4 (by decide)).1)
  have h5 := tn_max (show 0 ≤ f.f5 from (h 5 (by decide)).1)
  have h6 := tn_max (show 0 ≤ f.f6 from (h 6 (by decide)).1)
  unfold mF
  omega
theorem upF1_at {f : F7} {x : I2} (hx : RtI x) {k : Nat} (hk : k < 7) : (upF1 f x).at k = if k = x.1.toNat then max (f.at k) (x.2 + 1) else f.at k := by
  obtain ⟨h1, h2, h3, h4⟩ := hx
  unfold upF1
  rw [F7.at_set f (by omega) hk]
  split
  · rename_i e; rw [e]
  · rfl
theorem upF1_ge {f : F7} {x : I2} (hx : RtI x) {k : Nat} (hk : k < 7) : f.at k ≤ (upF1 f x).at k := by
  rw [upF1_at hx hk]
  split <;> omega
theorem upF1_ok {f : F7} (hf : FOk f) {x : I2} (hx : RtI x) : FOk (upF1 f x) := by
  intro k hk
  rw [upF1_at hx hk]
  have := hf k hk
  obtain ⟨h1, h2, h3, h4⟩ := hx
  split <;> omega
theorem upF_ok : ∀ {l : List I2} {f : F7}, FOk f → (∀ x ∈ l, RtI x) → FOk (upF f l)
  | [], _, hf, _ => hf
  | x :: l, f, hf, hl => upF_ok (l := l) (f := upF1 f x) (upF1_ok hf (hl x (by simp))) fun y hy => hl y (by simp [hy])
theorem upF_ge : ∀ {l : List I2} {f : F7}, (∀ x ∈ l, RtI x) → ∀ {k : Nat}, k < 7 → f.at k ≤ (upF f l).at k
  | [], _, _, _, _ => Int.le_refl _
  | x :: l, f, hl, k, hk => Int.le_trans (upF1_ge (hl x (by simp)) hk) (upF_ge (l := l) (f := upF1 f x) (fun y hy => hl y (by simp [hy])) hk)
theorem upF_mem : ∀ {l : List I2} {f : F7}, (∀ x ∈ l, RtI x) → ∀ {x : I2}, x ∈ l → x.2 < (upF f l).at x.1.toNat
  | y :: l, f, hl, x, hx => by
    rcases List.mem_cons.1 hx with rfl | hx
    · have h := hl x (by simp)
      have h7 : x.1.toNat < 7 := by obtain ⟨h1, h2, _⟩ := h; omega
      have h1 := upF_ge (l := l) (f := upF1 f x) (fun y hy => hl y (by simp [hy])) h7
      have h2 := upF1_at (f := f) h h7
      rw [if_pos rfl] at h2
      show x.2 < (upF (upF1 f x) l).at _
      omega
    · exact upF_mem (l := l) (f := upF1 f y) (fun z hz => hl z (by simp [hz])) hx
/-- what is ready is all there -/
theorem first_in {es : List (I2 × A8)} {f : F7} {l : List I2} (h : FirstIs es f (some l)) : l.Pairwise ltID ∧ (∀ x ∈ l, (getA es x).isSome = true) ∧ ∃ q, q < 7 ∧ nextAt f q ∈ l := by
  obtain ⟨q, hq, _, h1, h2, h3, h4⟩ := h
  exact ⟨h2, h4, q, hq, (h3 _).2 .refl⟩
theorem first_one {es : List (I2 × A8)} {f : F7} {r s : Option (List I2)} (h : FirstIs es f r) (k : FirstIs es f s) : r = s := by
  cases r with
  | none =>
    cases s with
    | none => rfl
    | some m =>
      obtain ⟨q, hq, _, hm⟩ := k
      cases needs_one (h q hq) hm
  | some l =>
    cases s with
    | none =>
      obtain ⟨q, hq, _, hm⟩ := h
      cases needs_one (k q hq) hm
    | some m =>
      obtain ⟨q, hq, hno, hm⟩ := h
      obtain ⟨r, hr, kno, km⟩ := k
      rcases Nat.lt_trichotomy q r with hlt | rfl | hlt
      · cases needs_one (kno q hlt) hm
      · exact needs_one hm km
      · cases needs_one (hno r hlt) km
theorem lstG_of {es : List (I2 × A8)} {l : List I2} (h : l.Pairwise ltID) (hg : ∀ x ∈ l, (getA es x).isSome = true) : lstG es l = l :=
  strict_eq (lstG_sorted es l) h fun x => by rw [lstG_mem]; exact ⟨fun q => q.1, fun q => ⟨q, hg x q⟩⟩
theorem in_len {es : List (I2 × A8)} {l : List I2} (h : l.Pairwise ltID) (hg : ∀ x ∈ l, (getA es x).isSome = true) : l.length ≤ es.length := by
  have h1 : l.length ≤ (es.map (·.1)).length := nodup_le (h.imp fun q e => by rw [e] at q; exact lt_irr q) fun x hx => by
    have := hg x hx
    cases hq : getA es x with
    | none => rw [hq] at this; cases this
    | some a => exact List.mem_map.2 ⟨_, getA_mem hq, rfl⟩
  rwa [List.length_map] at h1
theorem up_less {es : List (I2 × A8)} (ho : Own es) {f : F7} (hf : FOk f) {l : List I2} (h : FirstIs es f (some l)) : FOk (upF f l) ∧ mF (upF f l) < mF f := by
  obtain ⟨h1, h2, q, hq, hm⟩ := first_in h
  have hr : ∀ x ∈ l, RtI x := fun x hx => ho.of_get (h2 x hx)
  have hk := upF_ok hf hr
  have h3 := upF_mem (f := f) hr hm
  refine ⟨hk, mF_lt (fun k hk => upF_ge hr hk) hk hq ?_⟩
  have e : (nextAt f q).1.toNat = q := by simp [nextAt]
  rw [e] at h3
  exact h3
/-- what Run carries out -/
inductive RunR (es : List (I2 × A8)) : F7 → List I2 → F7 → Prop
  | stop {f : F7} (h : FirstIs es f none) : RunR es f [] f
  | go {f g : F7} {l r : List I2} (h : FirstIs es f (some l)) (t : RunR es (upF f l) r g) : RunR es f (ordG es f l ++ r) g
theorem run_one {es : List (I2 × A8)} {f g g' : F7} {r r' : List I2} (h : RunR es f r g) (k : RunR es f r' g') : r = r' ∧ g = g' := by
  induction h generalizing r' g' with
  | stop h =>
    cases k with
    | stop _ => exact ⟨rfl, rfl⟩
    | go h' _ => cases first_one h h'
  | go h t ih =>
    cases k with
    | stop h' => cases first_one h h'
    | go h' t' =>
      cases first_one h h'
      obtain ⟨rfl, rfl⟩ := ih t'
      exact ⟨rfl, rfl⟩
/-- each comes once -/
theorem ordN_perm (es : List (I2 × A8)) (f : F7) (Lk : List I2) : (ordN es f Lk).Perm (List.range Lk.length) := by
  obtain ⟨kn, n, hk⟩ := Tar.kn_exists (nx := nxL es f Lk) (n := Lk.length) (fun x _ y hy => nxL_lt hy)
  exact Tar.ordR_perm hk _
theorem ordG_perm (es : List (I2 × A8)) (f : F7) (Lk : List I2) : (ordG es f Lk).Perm Lk := by
  have h := (ordN_perm es f Lk).map (idK (enL es Lk))
  refine h.trans (.of_eq ?_)
  apply List.ext_getElem?
  intro i
  by_cases hi : i < Lk.length
  · rw [List.getElem?_map, List.getElem?_range hi]
    obtain ⟨x, hx⟩ : ∃ x, Lk[i]? = some x := ⟨_, List.getElem?_eq_getElem hi⟩
    rw [hx, Option.map_some]
    exact congrArg some (enL_id hx)
  · rw [List.getElem?_eq_none (by simp; omega), List.getElem?_eq_none (by omega)]
end Go.Proofs.Ytgicohkmfbbbdaa.Gr
end

section
namespace Go.Proofs.Ytgicohkmfbbbdaa.Gr
open _root_.Go.Proofs.Ytgicohkmfbbbdaa.Mark (ltID sortID)
open Go.RowKit
open Attr (A8 thro)
set_option linter.unusedSimpArgs false
set_option linter.unusedVariables false
attribute [-go_sem] run_eql_struct run_neq_struct run_eqGuard_agg

def RuRel (w : World) (p m : Nat) (es : List (I2 × A8)) (f0 : F7) (b3 b5 : Nat) (k : Nat) (u : Value) (wr : World) : Prop :=
  ∃ (f : F7) (out : List I2), FOk f ∧ mF f ≤ k ∧ out.length + 1000 * mF f ≤ 7168000 ∧ (∀ r g, RunR es f r g → RunR es f0 (out ++ r) g) ∧ At [GrP p m es] w [rowI2 u out, Part.cells b3 [.int .i64 f.f0, .int .i64 f.f1, .int .i64 f.f2, .int .i64 f.f3, .int .i64 f.f4, .int .i64 f.f5, .int .i64 f.f6] 24, Part.cells b5 [.int .i64 0, .int .i64 0, .int .i64 0, .int .i64 0, .int .i64 0, .int .i64 0, .int .i64 0] 24, GrP p m es] wr
def RvRel (w : World) (p m : Nat) (es : List (I2 × A8)) (f : F7) (l out : List I2) (vl vo : Value) (b3 b5 : Nat) (k : Nat) (u : Value) (wr : World) : Prop :=
  ∃ j : Nat, u = .int .i64 j ∧ j + k = l.length ∧ At [GrP p m es] w [Part.cells b3 (upF f (l.take j)).cells 24, rowI2 vo out, rowI2 vl l, Part.cells b5 [.int .i64 0, .int .i64 0, .int .i64 0, .int .i64 0, .int .i64 0, .int .i64 0, .int .i64 0] 24, GrP p m es] wr
def RuPost (p m : Nat) (es : List (I2 × A8)) (f : F7) (w : World) (e : Ending) (w' : World) : Prop :=
  ∃ (u : Value) (r : List I2) (g : F7), e = .returned (.tuple #[u, g.val]) ∧ RunR es f r g ∧ FOk g ∧ r.length ≤ 7168000 ∧ At [GrP p m es] w [rowI2 u r, GrP p m es] w'
theorem F7.cell (f : F7) {q : Nat} (hq : q < 7) : f.cells[q]? = some (.int .i64 (f.at q)) := by
  rcases (show q = 0 ∨ q = 1 ∨ q = 2 ∨ q = 3 ∨ q = 4 ∨ q = 5 ∨ q = 6 by omega) with rfl | rfl | rfl | rfl | rfl | rfl | rfl <;> rfl
theorem F7.cells_set (f : F7) {q : Nat} (hq : q < 7) (v : Int) : setL f.cells q [.int .i64 v] = (f.set q v).cells := by
  rcases (show q = 0 ∨ q = 1 ∨ q = 2 ∨ q = 3 ∨ q = 4 ∨ q = 5 ∨ q = 6 by omega) with rfl | rfl | rfl | rfl | rfl | rfl | rfl <;> rfl
set_option maxRecDepth 100000 in
set_option maxHeartbeats 8000000 in
theorem grun_any {w : World} {p m : Nat} {es : List (I2 × A8)} (h : Sep [GrP p m es] w) (f : F7) (hf : FOk f) (ho : Own es) (hn : es.length ≤ 1000) :
    Calls Try.prog 12 #[.pointer (some ⟨p, 0, none⟩), f.val] w (RuPost p m es f w) := by
  have hm : Try.prog.follows .mixedOrders = true := by kernel_rfl
  obtain ⟨i0, hi0, hz0, hz1, hz2⟩ := info_parts infoI
  have hA := At.start h
  have hF := hA.facts
  have hf' := Lib.hid hf
  have ho' := Lib.hid ho
  clear h hf ho
  simp only [F7.val] at *
  (try simp only [uA] at hA); have hF := hA.facts; (try simp only [fZ] at hF)
  go_enter Try.func12, Try.ntmps12
  go_wp2_with (first | ((with_reducible refine gbx ?_); refine wX 24 (.agg #[.int .i64 f.f0, .int .i64 f.f1, .int .i64 f.f2, .int .i64 f.f3, .int .i64 f.f4, .int .i64 f.f5, .int .i64 f.f6]) [.int .i64 f.f0, .int .i64 f.f1, .int .i64 f.f2, .int .i64 f.f3, .int .i64 f.f4, .int .i64 f.f5, .int .i64 f.f6] hA ?_; clear hF hA; intro b3 w1 hA hb3; (try simp only [uA] at hA); have hF := hA.facts; (try simp only [fZ] at hF)) | ((with_reducible refine gal ?_); refine wA 24 (.agg #[.int .i64 0, .int .i64 0, .int .i64 0, .int .i64 0, .int .i64 0, .int .i64 0, .int .i64 0]) [.int .i64 0, .int .i64 0, .int .i64 0, .int .i64 0, .int .i64 0, .int .i64 0, .int .i64 0] hA ?_; clear hF hA; intro b5 w1 hA hb5; (try simp only [uA] at hA); have hF := hA.facts; (try simp only [fZ] at hF)) | ((with_reducible refine gst ?_); refine wS hA ?_; clear hF hA; intro w1 hA; (try simp only [uA] at hA); have hF := hA.facts; (try simp only [fZ] at hF)) | ((with_reducible refine gbx ?_); refine wB hA ?_; clear hF hA; intro b1 w1 hA hb1; (try simp only [uA] at hA); have hF := hA.facts; (try simp only [fZ] at hF)))
  try go_frame
  have hB := hA.row_nil 38 2
  clear hF hA; have hA := hB; clear hB
  go_loopg [6] (mF f) (RuRel w p m es f b3 b5)
  case atStart => exact ⟨f, [], hf'.out, Nat.le_refl _, by have := mF_max hf'.out; simp only [List.length_nil]; omega, fun r g h => h, hA.pick pZ⟩
  case round =>
    obtain ⟨f1, out, hf1, hmk, hol, hru, hB⟩ := hrel
    have hf1' := Lib.hid hf1
    have hmk' := Lib.hid hmk
    have hol' := Lib.hid hol
    have hru' := Lib.hid hru
    clear hA hf1 hmk hol hru; have hA := hB; clear hB
    (try simp only [uA] at hA); have hF := hA.facts; (try simp only [fZ] at hF)
    go_wp2_with (first | ((with_reducible refine gst ?_); refine wS hA ?_; clear hF hA; intro w1 hA; (try simp only [uA] at hA); have hF := hA.facts; (try simp only [fZ] at hF)) | ((with_reducible refine gbx ?_); refine wB hA ?_; clear hF hA; intro b1 w1 hA hb1; (try simp only [uA] at hA); have hF := hA.facts; (try simp only [fZ] at hF)))
    refine (ready_any (hA.sep1 (A := GrP p m es) sZ) f1 (fun q hq => by have := hf1'.out q hq; unfold okI; omega) ho'.out.deps hn).mono ?_
    rintro e w1 (⟨l, v, rfl, hfi, hT⟩ | ⟨rfl, hfi, hT⟩)
    · have hB := hA.call1 (A := GrP p m es) sZ hT
      clear hF hA hT; have hA := hB; clear hB
      simp only [List.cons_append, List.nil_append] at hA
      obtain ⟨hp1, hg1, hq1⟩ := first_in hfi
      have hll := in_len hp1 hg1
      have hup := Lib.hid (up_less ho'.out hf1'.out hfi)
      have hrt := Lib.hid (show ∀ x ∈ l, RtI x from fun x hx => ho'.out.of_get (hg1 x hx))
      have hls := lstG_of hp1 hg1
      have hfi' := Lib.hid hfi
      clear hp1 hg1 hq1 hfi
      obtain ⟨axl, capl, hvl, haxl, hcpl, _⟩ := hA.row_form (e := 38) (size := 2) (n := l.length) (v := v) (xs := flatI l) sZ
      obtain ⟨axo, capo, hvo, haxo, hcpo, _⟩ := hA.row_form (e := 38) (size := 2) (n := out.length) (v := u6) (xs := flatI out) sZ
      clear haxl haxo
      subst hvl
      subst hvo
      (try simp only [uA] at hA); have hF := hA.facts; (try simp only [fZ] at hF)
      go_wp2_with (first | ((with_reducible refine gst ?_); refine wS hA ?_; clear hF hA; intro w1 hA; (try simp only [uA] at hA); have hF := hA.facts; (try simp only [fZ] at hF)) | ((with_reducible refine gbx ?_); refine wB hA ?_; clear hF hA; intro b1 w1 hA hb1; (try simp only [uA] at hA); have hF := hA.facts; (try simp only [fZ] at hF)))
      refine (order_any (R := rowI2 (.slice axl l.length capl) l) (v := .slice axl l.length capl) (l := l) (p := p) (m := m) (es := es) (hA.sep2 (A := rowI2 (.slice axl l.length capl) l) (B := GrP p m es) sZ sZ) (fun w' hw => own_reads (base := 0) hw) (by omega) (fun x hx => (hrt.out x hx).ok) f1 ho'.out.deps ho'.out.ok ho'.out.uq).mono ?_
      rintro e w2 ⟨vq, rfl, hT⟩
      have hB := hA.call2 (A := rowI2 (.slice axl l.length capl) l) (B := GrP p m es) sZ sZ hT
      rw [hls] at hB
      have hQl := (ordG_perm es f1 l).length_eq
      clear hF hA hT hls; have hA := hB; clear hB
      simp only [List.cons_append, List.nil_append] at hA
      generalize hQ : ordG es f1 l = QQ at *
      have hQ' := Lib.hid hQ
      have hQl' := Lib.hid hQl
      clear hQ hQl
      (try simp only [uA] at hA); have hF := hA.facts; (try simp only [fZ] at hF)
      go_wp2_with (first | ((with_reducible show wpList _ _ _ ({ dst := _, op := Op.call { callee := Callee.builtin Builtin.append, args := _, argTypes := _ }, type := _, pos := _, after := _, guard := _ } :: _) _ _); refine wpList_append_at (e := 38) (size := 2) (v := .slice axo out.length capo) (xs := flatI out) (n := out.length) (m := QQ.length) (news := flatI QQ) rfl _ _ 31 rfl Try.underlying31 hi0 hz0 hz1 hz2 rfl (by omega) hA sZ (by (try simp only [Act.eval, eV]) <;> exact rfl) (by (try simp only [Act.eval, eV]) <;> exact rfl) (flatI_len _) (hA.row_reads (v := vq) (n := QQ.length) (xs := flatI QQ) sZ) (flatI_one _) (by have := hQl'.out; have := hol'.out; unfold maxLen; omega) (by have := hQl'.out; have := hol'.out; omega) ?_; intro vo w1 hB; rw [rowI2_app] at hB; clear hF hA; have hA := hB; clear hB; (try simp only [uA] at hA); have hF := hA.facts; (try simp only [fZ] at hF)) | ((with_reducible refine gst ?_); refine wS hA ?_; clear hF hA; intro w1 hA; (try simp only [uA] at hA); have hF := hA.facts; (try simp only [fZ] at hF)) | ((with_reducible refine gbx ?_); refine wB hA ?_; clear hF hA; intro b1 w1 hA hb1; (try simp only [uA] at hA); have hF := hA.facts; (try simp only [fZ] at hF)))
      try go_frame
      obtain ⟨G, hG⟩ : ∃ G, mF (upF f1 l) = G := ⟨_, rfl⟩
      have hGk := Lib.hid (show G < gk from by have := hup.out.2; have := hmk'.out; omega)
      have hG' := Lib.hid hG
      clear hG
      have hA0 : At [GrP p m es] w [Part.cells b3 (upF f1 (l.take 0)).cells 24, rowI2 vo (out ++ QQ), rowI2 (.slice axl l.length capl) l, Part.cells b5 [.int .i64 0, .int .i64 0, .int .i64 0, .int .i64 0, .int .i64 0, .int .i64 0, .int .i64 0] 24, GrP p m es] _ := hA.pick pZ
      clear hF hA
      go_loopg [29] l.length (RvRel w p m es f1 l (out ++ QQ) (.slice axl l.length capl) vo b3 b5)
      case atStart => exact ⟨0, rfl, by omega, hA0⟩
      case round =>
        obtain ⟨j, rfl, hjk, hB⟩ := hrel
        clear hA0; have hA := hB; clear hB
        by_cases hj : j < l.length
        · skip
          obtain ⟨x, hx⟩ : ∃ x, l[j]? = some x := ⟨_, List.getElem?_eq_getElem hj⟩
          have hxr := hrt.out x (List.mem_of_getElem? hx)
          have htk := Lib.hid (show upF f1 (l.take (j + 1)) = upF1 (upF f1 (l.take j)) x from by unfold upF; rw [List.take_add_one, hx, List.foldl_append]; rfl)
          generalize upF f1 (l.take j) = f2 at *
          have hrr := row_elem (hA.row_reads (v := .slice axl l.length capl) (n := l.length) (xs := flatI l) sZ) hx
          clear hx
          obtain ⟨r, t⟩ := x
          obtain ⟨q, rfl⟩ : ∃ q : Nat, r = q := ⟨r.toNat, by have := hxr.1; simp only at this; omega⟩
          have hq7 : q < 7 := by have := hxr.2.1; simp only at this; omega
          have ht0 : 0 ≤ t := hxr.2.2.1
          have ht1 : t < 1024 := hxr.2.2.2
          have hwt : IntKind.i64.wrap (t + 1) = t + 1 := by rw [IntKind.wrap_i64] <;> omega
          obtain ⟨bt, offt, hax2, hce⟩ := hrr
          have hr2' := Lib.hid (show ∀ (k : Nat) u, ([.int .i64 (q : Int), .int .i64 t] : List Value)[k]? = some u → wr.cell? ⟨bt, offt + j * 2 + k, none⟩ = some u from hce)
          clear hce
          subst hax2
          (try simp only [uA] at hA); have hF := hA.facts; (try simp only [fZ] at hF)
          go_upto_region 9 with (first | ((with_reducible refine gal ?_); refine wA 38 (.agg #[.int .i64 0, .int .i64 0]) [.int .i64 0, .int .i64 0] hA ?_; clear hF hA; intro b10 w1 hA hb10; (try simp only [uA] at hA); have hF := hA.facts; (try simp only [fZ] at hF)) | ((with_reducible show wpList _ _ _ ({ dst := some 32, op := Op.load _ _, type := _, pos := _, after := _, guard := _ } :: _) _ _); refine wpList_loadRow_at (vs := [.int .i64 (q : Int), .int .i64 t]) rfl rfl (by (try simp only [Act.eval, eV]) <;> exact rfl) hr2'.out (by kernel_rfl) (by kernel_rfl) ?_) | ((with_reducible refine gst ?_); refine wS hA ?_; clear hF hA; intro w1 hA; (try simp only [uA] at hA); have hF := hA.facts; (try simp only [fZ] at hF)) | ((with_reducible refine gbx ?_); refine wB hA ?_; clear hF hA; intro b1 w1 hA hb1; (try simp only [uA] at hA); have hF := hA.facts; (try simp only [fZ] at hF)))
          try go_frame
          have hB := hA.drew
          clear hF hA; have hA := hB; clear hB
          refine wp_region_held (S := fun w' => BlockIs w' b10 [.int .i64 (q : Int), .int .i64 t] 38) hm ?_
          change wpAnyH _ _ _ _ _ 12 _ _ (World.drew _)
          generalize World.drew _ = wd at *
          have hS0 := (hA.get (A := Part.cells b10 [.int .i64 (q : Int), .int .i64 t] 38) sZ : (fun w' => BlockIs w' b10 [.int .i64 (q : Int), .int .i64 t] 38) wd)
          refine tP 0 33 (.pointer (some ⟨b10, 0, none⟩)) (s := hS0) (h := ?_)
          try go_frame
          refine tZ 1 34 (.int .i64 (q : Int)) (r := (fun w' hS => run_load_one (ty := 3) (b := b10) (j := 0) rfl (by exact rfl) hS (by kernel_rfl) rfl)) (s := hS0) (h := ?_)
          try go_frame
          refine tP 2 35 (.pointer (some ⟨b10, 0, none⟩)) (s := hS0) (h := ?_)
          try go_frame
          refine tZ 3 36 (.int .i64 (q : Int)) (r := (fun w' hS => run_load_one (ty := 3) (b := b10) (j := 0) rfl (by exact rfl) hS (by kernel_rfl) rfl)) (s := hS0) (h := ?_)
          try go_frame
          refine tZ 4 37 (.pointer (some ⟨b3, q, none⟩)) (r := (fun w' hS => by simp [execOp, go_sem, Act.eval, Act.put, Try.underlying24]; omega)) (s := hS0) (h := ?_)
          try go_frame
          refine tP 6 39 (.pointer (some ⟨b10, 1, none⟩)) (s := hS0) (h := ?_)
          try go_frame
          refine tZ 7 40 (.int .i64 t) (r := (fun w' hS => run_load_one (ty := 3) (b := b10) (j := 1) rfl (by exact rfl) hS (by kernel_rfl) rfl)) (s := hS0) (h := ?_)
          try go_frame
          refine tZ 8 41 (.int .i64 (t + 1)) (r := (fun w' hS => by simp [execOp, go_sem, Act.eval, Act.put, hwt])) (s := hS0) (h := ?_)
          try go_frame
          refine wpAnyH_one (i := 5) (by kernel_rfl) ?_
          refine opLoad1_at (i := 5) (d := some 38) (b := b3) (j := q) rfl rfl (by kernel_rfl) rfl (by exact rfl) hA sZ (by kernel_rfl) (f2.cell hq7) ?_
          refine ⟨hS0, ?_⟩
          try go_frame
          refine tZ 9 42 (.int .i64 (max (f2.at q) (t + 1))) (r := (fun w' hS => by simp [execOp, go_sem, Act.eval, Act.put])) (s := hS0) (h := ?_)
          try go_frame
          refine tZ 10 43 (.pointer (some ⟨b3, q, none⟩)) (r := (fun w' hS => by simp [execOp, go_sem, Act.eval, Act.put, Try.underlying24]; omega)) (s := hS0) (h := ?_)
          try go_frame
          refine wpAnyH_one (i := 11) (by kernel_rfl) ?_
          refine opStore_at (i := 11) (b := b3) (j := q) (vs := [.int .i64 (max (f2.at q) (t + 1))]) rfl rfl (by kernel_rfl) rfl (by exact rfl) (by exact rfl) rfl hA sZ (by kernel_rfl) rfl (by show q + 1 ≤ 7; omega) ?_
          intro w3 hB
          rw [F7.cells_set f2 hq7] at hB
          clear hA; have hA := hB; clear hB
          have hS1 := (hA.get (A := Part.cells b10 [.int .i64 (q : Int), .int .i64 t] 38) sZ : (fun w' => BlockIs w' b10 [.int .i64 (q : Int), .int .i64 t] 38) w3)
          refine ⟨hS1, ?_⟩
          try go_frame
          refine wpAnyH_done (by kernel_rfl) ?_ _
          try go_frame
          clear hS0 hS1
          have hA' : At [GrP p m es] w [Part.cells b3 (upF1 f2 ((q : Int), t)).cells 24, rowI2 vo (out ++ QQ), rowI2 (.slice (some ⟨bt, offt, none⟩) l.length capl) l, Part.cells b5 [.int .i64 0, .int .i64 0, .int .i64 0, .int .i64 0, .int .i64 0, .int .i64 0, .int .i64 0] 24, GrP p m es] _ := hA.pick pZ
          rw [← htk.out] at hA'
          clear hA
          have hF := hA'.facts
          go_wp2_with (first | ((with_reducible refine gst ?_); refine wS hA ?_; clear hF hA; intro w1 hA; (try simp only [uA] at hA); have hF := hA.facts; (try simp only [fZ] at hF)) | ((with_reducible refine gbx ?_); refine wB hA ?_; clear hF hA; intro b1 w1 hA hb1; (try simp only [uA] at hA); have hF := hA.facts; (try simp only [fZ] at hF)))
          go_roundg (gk - 1)
          case measure => omega
          case rel => exact ⟨j + 1, by simp, by omega, hA'⟩
        · have hF := hA.facts
          (try simp only [uA] at hA); have hF := hA.facts; (try simp only [fZ] at hF)
          go_wp2_with (first | ((with_reducible refine gst ?_); refine wS hA ?_; clear hF hA; intro w1 hA; (try simp only [uA] at hA); have hF := hA.facts; (try simp only [fZ] at hF)) | ((with_reducible refine gbx ?_); refine wB hA ?_; clear hF hA; intro b1 w1 hA hb1; (try simp only [uA] at hA); have hF := hA.facts; (try simp only [fZ] at hF)))
          go_roundg G
          case measure => exact hGk.out
          case rel =>
            rw [List.take_of_length_le (by omega)] at hA
            refine ⟨upF f1 l, out ++ QQ, hup.out.1, Nat.le_of_eq hG'.out, ?_, fun r g h => ?_, hA.pick pZ⟩
            · have h1 := hup.out.2
              have h2 := hol'.out
              have h3 := hQl'.out
              rw [List.length_append]
              omega
            · rw [List.append_assoc, ← hQ'.out]
              exact hru'.out _ _ (.go hfi'.out h)
    · have hB := hA.call1 (A := GrP p m es) sZ hT
      clear hF hA hT; have hA := hB; clear hB
      simp only [List.cons_append, List.nil_append] at hA
      have hfi' := Lib.hid hfi
      clear hfi
      (try simp only [uA] at hA); have hF := hA.facts; (try simp only [fZ] at hF)
      go_upto_region 4 with (first | ((with_reducible refine gst ?_); refine wS hA ?_; clear hF hA; intro w1 hA; (try simp only [uA] at hA); have hF := hA.facts; (try simp only [fZ] at hF)) | ((with_reducible refine gbx ?_); refine wB hA ?_; clear hF hA; intro b1 w1 hA hb1; (try simp only [uA] at hA); have hF := hA.facts; (try simp only [fZ] at hF)))
      try go_frame
      have hB := hA.drew
      clear hF hA; have hA := hB; clear hB
      refine wp_region_held (S := fun w' => BlockIs w' b3 [.int .i64 f1.f0, .int .i64 f1.f1, .int .i64 f1.f2, .int .i64 f1.f3, .int .i64 f1.f4, .int .i64 f1.f5, .int .i64 f1.f6] 24) hm ?_
      change wpAnyH _ _ _ _ _ 4 _ _ (World.drew _)
      generalize World.drew _ = wd at *
      have hS0 := (hA.get (A := Part.cells b3 [.int .i64 f1.f0, .int .i64 f1.f1, .int .i64 f1.f2, .int .i64 f1.f3, .int .i64 f1.f4, .int .i64 f1.f5, .int .i64 f1.f6] 24) sZ : (fun w' => BlockIs w' b3 [.int .i64 f1.f0, .int .i64 f1.f1, .int .i64 f1.f2, .int .i64 f1.f3, .int .i64 f1.f4, .int .i64 f1.f5, .int .i64 f1.f6] 24) wd)
      refine tP 0 19 (u6) (s := hS0) (h := ?_)
      try go_frame
      refine tZ 1 20 (.agg #[.int .i64 f1.f0, .int .i64 f1.f1, .int .i64 f1.f2, .int .i64 f1.f3, .int .i64 f1.f4, .int .i64 f1.f5, .int .i64 f1.f6]) (r := (fun w' hS => run_load_row (ty := 24) (n := 7) (b := b3) (j := 0) rfl (by exact rfl) hS (by kernel_rfl) (by kernel_rfl) rfl rfl)) (s := hS0) (h := ?_)
      try go_frame
      refine tP 2 4 (u6) (s := hS0) (h := ?_)
      try go_frame
      refine wpAnyH_one (i := 3) (by kernel_rfl) ?_
      refine opStore_at (i := 3) (b := b5) (j := 0) (vs := [.int .i64 f1.f0, .int .i64 f1.f1, .int .i64 f1.f2, .int .i64 f1.f3, .int .i64 f1.f4, .int .i64 f1.f5, .int .i64 f1.f6]) rfl rfl (by kernel_rfl) rfl (by exact rfl) (by exact rfl) rfl hA sZ (by kernel_rfl) rfl (by show 0 + 7 ≤ 7; omega) ?_
      intro w3 hB
      simp only [uA] at hB
      clear hA; have hA := hB; clear hB
      have hS1 := (hA.get (A := Part.cells b3 [.int .i64 f1.f0, .int .i64 f1.f1, .int .i64 f1.f2, .int .i64 f1.f3, .int .i64 f1.f4, .int .i64 f1.f5, .int .i64 f1.f6] 24) sZ : (fun w' => BlockIs w' b3 [.int .i64 f1.f0, .int .i64 f1.f1, .int .i64 f1.f2, .int .i64 f1.f3, .int .i64 f1.f4, .int .i64 f1.f5, .int .i64 f1.f6] 24) w3)
      refine ⟨hS1, ?_⟩
      try go_frame
      refine wpAnyH_done (by kernel_rfl) ?_ _
      try go_frame
      clear hS0 hS1
      (try simp only [uA] at hA); have hF := hA.facts; (try simp only [fZ] at hF)
      go_wp2_with (first | ((with_reducible refine gst ?_); refine wS hA ?_; clear hF hA; intro w1 hA; (try simp only [uA] at hA); have hF := hA.facts; (try simp only [fZ] at hF)) | ((with_reducible refine gbx ?_); refine wB hA ?_; clear hF hA; intro b1 w1 hA hb1; (try simp only [uA] at hA); have hF := hA.facts; (try simp only [fZ] at hF)))
      refine bodyPost_ret (v := .tuple #[u6, f1.val]) (by simp [results, Try.results12, go_sem, F7.val, hF]) rfl ?_
      exact ⟨u6, out, f1, rfl, by have := hru'.out [] f1 (.stop hfi'.out); rwa [List.append_nil] at this, hf1'.out, by have := hol'.out; omega, hA.pick pZ⟩
end Go.Proofs.Ytgicohkmfbbbdaa.Gr
end

section
namespace Go.Proofs.Ytgicohkmfbbbdaa.Gr
open _root_.Go.Proofs.Ytgicohkmfbbbdaa.Mark (ltID sortID)
open _root_.Go.Proofs.Ytgicohkmfbbbdaa.Attr (guardI eqlI_any neqI_any)
open Go.RowKit
set_option linter.unusedSimpArgs false
set_option linter.unusedVariables false
attribute [-go_sem] run_eql_struct run_neq_struct run_eqGuard_agg
attribute [local go_sem] guardI eqlI_any neqI_any

def IdxRel (w : World) (v : Value) (l : List I2) (x : I2) (b3 : Nat) (k : Nat) (u : Value) (wr : World) : Prop :=
  ∃ i : Nat, u = .int .i64 i ∧ i + k = l.length ∧ x ∉ l.take i ∧ At [rowI2 v l] w [Part.cells b3 [.int .i64 x.1, .int .i64 x.2] 38, rowI2 v l] wr
/-- a name's place in a row -/
def idxI (l : List I2) (x : I2) : Int := if x ∈ l then l.idxOf x else -1
theorem idxI_at {l : List I2} {x : I2} {i : Nat} (h : l[i]? = some x) (hn : x ∉ l.take i) : idxI l x = i := by
  have hm : x ∈ l := List.mem_of_getElem? h
  unfold idxI
  rw [if_pos hm]
  obtain ⟨hi, hx⟩ := List.getElem?_eq_some_iff.1 h
  have h1 := List.idxOf_lt_length_of_mem hm
  have h2 : l[l.idxOf x] = x := List.getElem_idxOf h1
  rcases Nat.lt_trichotomy (l.idxOf x) i with q | q | q
  · exact absurd (List.mem_iff_getElem.2 ⟨l.idxOf x, by rw [List.length_take]; omega, by rw [List.getElem_take]; exact h2⟩) hn
  · rw [q]
  · exact absurd hx (by simpa using List.not_of_lt_findIdx (p := (· == x)) (xs := l) (i := i) (by simpa [List.idxOf] using q))
theorem idxI_no {l : List I2} {x : I2} (h : x ∉ l) : idxI l x = -1 := if_neg h
def IdxPost (w : World) (v : Value) (l : List I2) (x : I2) (e : Ending) (w' : World) : Prop := e = .returned (.int .i64 (idxI l x)) ∧ At [rowI2 v l] w [rowI2 v l] w'
set_option maxRecDepth 100000 in
set_option maxHeartbeats 2000000 in
theorem index_any {w : World} {v : Value} {l : List I2} (h : Sep [rowI2 v l] w) (x : I2) (hmax : l.length ≤ 1000000) :
    Calls Try.prog 65 #[v, idV x] w (IdxPost w v l x) := by
  have hA := At.start h
  clear h
  obtain ⟨ax, cap, rfl, hax, hcap, _⟩ := hA.row_form (v := v) (xs := flatI l) sR
  have hax' := Lib.hid hax
  clear hax
  obtain ⟨r1, t1⟩ := x
  simp only [idV]
  (try simp only [uA] at hA); have hF := hA.facts; (try simp only [fZ] at hF)
  go_enter Try.func65, Try.ntmps65
  go_wp2_with (first | ((with_reducible refine gbx ?_); refine wX 38 (.agg #[.int .i64 r1, .int .i64 t1]) [.int .i64 r1, .int .i64 t1] hA ?_; clear hF hA; intro b3 w1 hA hb3; (try simp only [uA] at hA); have hF := hA.facts; (try simp only [fZ] at hF)) | ((with_reducible refine gst ?_); refine wS hA ?_; clear hF hA; intro w1 hA; (try simp only [uA] at hA); have hF := hA.facts; (try simp only [fZ] at hF)) | ((with_reducible refine gbx ?_); refine wB hA ?_; clear hF hA; intro b1 w1 hA hb1; (try simp only [uA] at hA); have hF := hA.facts; (try simp only [fZ] at hF)))
  try go_frame
  go_loopg [8] l.length (IdxRel w (.slice ax l.length cap) l (r1, t1) b3)
  case atStart => exact ⟨0, rfl, by simp, by simp, hA⟩
  case round =>
    obtain ⟨i, rfl, hik, hno, hB⟩ := hrel
    have hno' := Lib.hid hno
    clear hF hA hno; have hA := hB; clear hB
    by_cases hi : i < l.length
    · obtain ⟨g, c, rfl, _, hcm, hcl, hct, hB⟩ := hA.row_open (ax := ax) (cap := cap) (n := l.length) (xs := flatI l) sR (by omega)
      have hx : l[i]? = some l[i] := List.getElem?_eq_getElem hi
      have he := elem2 hct hx
      have htk : l.take (i + 1) = l.take i ++ [l[i]] := List.take_succ_eq_append_getElem hi
      generalize hy : l[i] = y at *
      obtain ⟨r0, t0⟩ := y
      simp only [idL] at he
      clear hA; have hA := hB; clear hB
      obtain ⟨d, hd⟩ : ∃ d, (decide (r1 = r0) && decide (t1 = t0)) = d := ⟨_, rfl⟩
      have hd' := Lib.hid (show d = decide ((r1, t1) = (r0, t0)) from by rw [← hd, Bool.eq_iff_iff]; simp)
      have hx' := Lib.hid hx
      have htk' := Lib.hid htk
      clear hx htk hy
      (try simp only [uA] at hA); have hF := hA.facts; (try simp only [fZ] at hF)
      cases d
      · go_wp2_with (first | ((with_reducible refine gst ?_); refine wS hA ?_; clear hF hA; intro w1 hA; (try simp only [uA] at hA); have hF := hA.facts; (try simp only [fZ] at hF)) | ((with_reducible refine gbx ?_); refine wB hA ?_; clear hF hA; intro b1 w1 hA hb1; (try simp only [uA] at hA); have hF := hA.facts; (try simp only [fZ] at hF)))
        try go_frame
        (refine wp_region_all (Cl _ _ _) (by kernel_rfl) (by kernel_rfl) (Cl.drew hA) ?_); (have hn1 := Cl.none hA); (have hn2 := Cl.none2 hA); (repeat (first | go_big_quiet_skip | (go_big_quiet_want; (first | (refine quiet_loads_at (ty := 38) (n := 2) rfl rfl sR (by kernel_rfl) (by kernel_rfl) (by first | assumption | ((try simp only [List.drop_succ_cons, List.drop_zero, List.take_succ_cons, List.take_zero]) <;> exact rfl)) (by exact rfl) ?_; go_frame; go_big_quiet_on) | (refine quiet_load_at rfl rfl sR (by kernel_rfl) (by first | assumption | exact rfl) ?_; go_frame; go_big_quiet_on) | (go_big_quiet_op; (first | go_big_quiet_on | ((apply Exists.intro); (refine ⟨fun w1 hw => ?_, ?_⟩); (focus ((have hw := Cl.out hw); (fail))); (go_big_quiet_on))))))))
        (refine wpQuiet_nil ?_); (intro w1 hB); (clear hF hA hn1 hn2); (have hA := Cl.out hB); (clear hB); (try simp only [uA] at hA); have hF := hA.facts; (try simp only [fZ] at hF)
        go_wp2_with (first | ((with_reducible refine gst ?_); refine wS hA ?_; clear hF hA; intro w1 hA; (try simp only [uA] at hA); have hF := hA.facts; (try simp only [fZ] at hF)) | ((with_reducible refine gbx ?_); refine wB hA ?_; clear hF hA; intro b1 w1 hA hb1; (try simp only [uA] at hA); have hF := hA.facts; (try simp only [fZ] at hF)))
        go_roundg (gk - 1)
        case measure => omega
        case rel =>
          have hB := shut_i hA sR hcl hcap hcm hct
          refine ⟨i + 1, by simp, by omega, ?_, hB.pick pZ⟩
          rw [htk'.out]
          intro hm
          rcases List.mem_append.1 hm with hm | hm
          · exact hno'.out hm
          · exact of_decide_eq_false hd'.out.symm (List.mem_singleton.1 hm)
      · go_wp2_with (first | ((with_reducible refine gst ?_); refine wS hA ?_; clear hF hA; intro w1 hA; (try simp only [uA] at hA); have hF := hA.facts; (try simp only [fZ] at hF)) | ((with_reducible refine gbx ?_); refine wB hA ?_; clear hF hA; intro b1 w1 hA hb1; (try simp only [uA] at hA); have hF := hA.facts; (try simp only [fZ] at hF)))
        try go_frame
        (refine wp_region_all (Cl _ _ _) (by kernel_rfl) (by kernel_rfl) (Cl.drew hA) ?_); (have hn1 := Cl.none hA); (have hn2 := Cl.none2 hA); (repeat (first | go_big_quiet_skip | (go_big_quiet_want; (first | (refine quiet_loads_at (ty := 38) (n := 2) rfl rfl sR (by kernel_rfl) (by kernel_rfl) (by first | assumption | ((try simp only [List.drop_succ_cons, List.drop_zero, List.take_succ_cons, List.take_zero]) <;> exact rfl)) (by exact rfl) ?_; go_frame; go_big_quiet_on) | (refine quiet_load_at rfl rfl sR (by kernel_rfl) (by first | assumption | exact rfl) ?_; go_frame; go_big_quiet_on) | (go_big_quiet_op; (first | go_big_quiet_on | ((apply Exists.intro); (refine ⟨fun w1 hw => ?_, ?_⟩); (focus ((have hw := Cl.out hw); (fail))); (go_big_quiet_on))))))))
        (refine wpQuiet_nil ?_); (intro w1 hB); (clear hF hA hn1 hn2); (have hA := Cl.out hB); (clear hB); (try simp only [uA] at hA); have hF := hA.facts; (try simp only [fZ] at hF)
        go_wp2_with (first | ((with_reducible refine gst ?_); refine wS hA ?_; clear hF hA; intro w1 hA; (try simp only [uA] at hA); have hF := hA.facts; (try simp only [fZ] at hF)) | ((with_reducible refine gbx ?_); refine wB hA ?_; clear hF hA; intro b1 w1 hA hb1; (try simp only [uA] at hA); have hF := hA.facts; (try simp only [fZ] at hF)))
        go_ret
        have e0 := of_decide_eq_true hd'.out.symm
        have hx0 := hx'.out
        rw [← e0] at hx0
        exact ⟨by rw [idxI_at hx0 hno'.out]; rfl, (shut_i hA sR hcl hcap hcm hct).only1 sR⟩
    · have hF := hA.facts
      (try simp only [uA] at hA); have hF := hA.facts; (try simp only [fZ] at hF)
      go_wp2_with (first | ((with_reducible refine gst ?_); refine wS hA ?_; clear hF hA; intro w1 hA; (try simp only [uA] at hA); have hF := hA.facts; (try simp only [fZ] at hF)) | ((with_reducible refine gbx ?_); refine wB hA ?_; clear hF hA; intro b1 w1 hA hb1; (try simp only [uA] at hA); have hF := hA.facts; (try simp only [fZ] at hF)))
      go_ret
      have hno2 := hno'.out
      rw [List.take_of_length_le (by omega)] at hno2
      exact ⟨by rw [idxI_no hno2]; rfl, hA.only1 sZ⟩
set_option maxRecDepth 100000 in
theorem contains_any {w : World} {v : Value} {l : List I2} (h : Sep [rowI2 v l] w) (x : I2) (hmax : l.length ≤ 1000000) :
    Calls Try.prog 53 #[v, idV x] w fun e w' => e = .returned (.bool (decide (x ∈ l))) ∧ At [rowI2 v l] w [rowI2 v l] w' := by
  have hA := At.start h
  clear h
  have hc := fun (w1 : World) (q : Sep [rowI2 v l] w1) => index_any q x hmax
  have hdx : decide (x ∈ l) = decide (0 ≤ idxI l x) := by
    rw [decide_eq_decide]
    unfold idxI
    split <;> rename_i q
    · exact ⟨fun _ => by omega, fun _ => q⟩
    · exact ⟨fun h => absurd h q, fun h => by omega⟩
  rw [hdx]
  unfold IdxPost at hc
  generalize idxI l x = ix at *
  obtain ⟨r1, t1⟩ := x
  simp only [idV] at *
  have hdx' := Lib.hid hdx
  clear hdx
  (try simp only [uA] at hA); have hF := hA.facts; (try simp only [fZ] at hF)
  go_enter Try.func53, Try.ntmps53
  go_wp2_with (first | ((with_reducible refine gbx ?_); refine wX 38 (.agg #[.int .i64 r1, .int .i64 t1]) [.int .i64 r1, .int .i64 t1] hA ?_; clear hF hA; intro b3 w1 hA hb3; (try simp only [uA] at hA); have hF := hA.facts; (try simp only [fZ] at hF)) | ((with_reducible refine gst ?_); refine wS hA ?_; clear hF hA; intro w1 hA; (try simp only [uA] at hA); have hF := hA.facts; (try simp only [fZ] at hF)) | ((with_reducible refine gbx ?_); refine wB hA ?_; clear hF hA; intro b1 w1 hA hb1; (try simp only [uA] at hA); have hF := hA.facts; (try simp only [fZ] at hF)))
  refine (hc _ (hA.sep1 (A := rowI2 v l) sZ)).mono ?_
  rintro e w1 ⟨rfl, hT⟩
  have hB := hA.call1 (A := rowI2 v l) sZ hT
  clear hF hA hT; have hA := hB; clear hB
  simp only [List.cons_append, List.nil_append] at hA
  (try simp only [uA] at hA); have hF := hA.facts; (try simp only [fZ] at hF)
  go_wp2_with (first | ((with_reducible refine gst ?_); refine wS hA ?_; clear hF hA; intro w1 hA; (try simp only [uA] at hA); have hF := hA.facts; (try simp only [fZ] at hF)) | ((with_reducible refine gbx ?_); refine wB hA ?_; clear hF hA; intro b1 w1 hA hb1; (try simp only [uA] at hA); have hF := hA.facts; (try simp only [fZ] at hF)))
  go_ret
  exact ⟨rfl, hA.only1 sZ⟩
end Go.Proofs.Ytgicohkmfbbbdaa.Gr
end
