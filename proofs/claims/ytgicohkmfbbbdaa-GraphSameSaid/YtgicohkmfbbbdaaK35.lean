/- GrbJ, GrbQ, joined. -/
import Derived.Test.YtgicohkmfbbbdaaK29
section
namespace Go.Proofs.Ytgicohkmfbbbdaa.Tar
/-- by knots: who leads to one that comes later is in a knot with it, and ahead by its number -/
theorem ordP_pairs {nx : Nat → List Nat} {n : Nat} {kn : Nat → Nat} {found : Nat} (hk : Kn nx n kn found) (sq : Nat → Int) : ∀ (fuel : Nat) (gone : List Nat), Shut nx n kn gone →
    (∀ p ∈ ordP nx n kn sq fuel gone, p < n ∧ kn p ∉ gone) ∧ (ordP nx n kn sq fuel gone).Pairwise fun p q => R nx p q → R nx q p ∧ ltS sq p q
  | 0, _, _ => ⟨nofun, .nil⟩
  | f + 1, gone, hs => by
    unfold ordP
    cases hq : (List.range n).find? (freeP nx n kn gone) with
    | none => exact ⟨nofun, .nil⟩
    | some i =>
      have hf := List.find?_some hq
      have hs2 := shut_next hk hs hf
      have ih := ordP_pairs hk sq f (kn i :: gone) hs2
      have hsp := sortS_spec (sq := sq) (knotL_inc n kn (kn i))
      have hm : ∀ p ∈ sortS sq (knotL n kn (kn i)), p < n ∧ kn p = kn i := fun p hp => knotL_mem.1 (hsp.2.mem_iff.1 hp)
      simp only
      refine ⟨fun p hp => ?_, List.pairwise_append.2 ⟨?_, ih.2, fun p hp q hq2 r => ?_⟩⟩
      · rcases List.mem_append.1 hp with h | h
        · exact ⟨(hm p h).1, by rw [(hm p h).2]; exact (freeP_iff.1 hf).1⟩
        · exact ⟨(ih.1 p h).1, fun q => (ih.1 p h).2 (List.mem_cons_of_mem _ q)⟩
      · refine (List.Pairwise.and_mem.1 hsp.1).imp ?_
        rintro a b ⟨ha, hb, hlt⟩ _
        exact ⟨hk.same b a (hm b hb).1 (by rw [(hm a ha).2, (hm b hb).2]), hlt⟩
      · have h1 := shut_reach hk hs2 r (hm p hp).1 (by rw [(hm p hp).2]; simp)
        exact absurd h1 (ih.1 q hq2).2
theorem ordR_pairs {nx : Nat → List Nat} {n : Nat} (hn : ∀ x, x < n → ∀ y ∈ nx x, y < n) (sq : Nat → Int) : (ordR nx n sq).Pairwise fun p q => R nx p q → R nx q p ∧ ltS sq p q := by
  obtain ⟨kn, found, hk⟩ := kn_exists hn
  rw [← ordP_R hk]
  exact (ordP_pairs hk sq n [] nofun).2
end Go.Proofs.Ytgicohkmfbbbdaa.Tar
namespace Go.Proofs.Ytgicohkmfbbbdaa.Gr
open _root_.Go.Proofs.Ytgicohkmfbbbdaa.Mark (ltID sortID)
open Go.RowKit
open Attr (A8 rightI rightI_iff ownsB)
set_option linter.unusedSimpArgs false
set_option linter.unusedVariables false

def f0F : F7 := ⟨0, 0, 0, 0, 0, 0, 0⟩
theorem f0_at {q : Nat} (hq : q < 7) : f0F.at q = 0 := by
  rcases (show q = 0 ∨ q = 1 ∨ q = 2 ∨ q = 3 ∨ q = 4 ∨ q = 5 ∨ q = 6 by omega) with rfl | rfl | rfl | rfl | rfl | rfl | rfl <;> rfl
/-- each has its own slot ahead -/
def SelfE (es : List (I2 × A8)) : Prop := ∀ x a, getA es x = some a → a.dep x.1.toNat = x.2
theorem SelfE.add {es : List (I2 × A8)} (ho : Own es) (h : SelfE es) (x : I2) (a : A8) : SelfE (addG es x a).1 := by
  unfold addG
  split
  · rename_i hw
    split
    · split <;> exact h
    · rename_i hn
      intro y b hy
      have ho2 := ho.add x a
      have hm := getA_mem hy
      rcases List.mem_append.1 hm with q | q
      · exact h y b (getA_of_mem ho.uq q)
      · cases List.mem_singleton.1 q
        exact (owns_parts.1 hw).2.2
  · exact h
theorem builtE_self (l : List (I2 × A8)) : SelfE (builtE l) := by
  suffices H : ∀ (l es : List (I2 × A8)), Own es → SelfE es → SelfE (l.foldl (fun es n => (addG es n.1 n.2).1) es) from H l [] own_nil fun x a h => by simp [getA] at h
  intro l
  induction l with
  | nil => exact fun es _ h => h
  | cons n l ih => exact fun es ho h => ih _ (ho.add n.1 n.2) (h.add ho n.1 n.2)
section
variable {es : List (I2 × A8)}
theorem behind_iff {f : F7} {x : I2} : behind f x = true ↔ RtI x ∧ x.2 < f.at x.1.toNat := by
  unfold behind
  rw [Bool.and_eq_true, rightI_iff, decide_eq_true_eq]
  constructor
  · rintro ⟨⟨h1, h2, h3, h4⟩, h5⟩; exact ⟨⟨h1, by omega, h3, h4⟩, h5⟩
  · rintro ⟨⟨h1, h2, h3, h4⟩, h5⟩; exact ⟨⟨h1, by omega, h3, h4⟩, h5⟩
theorem lead_iff {f : F7} {x y : I2} : y ∈ leadsG es f x ↔ ∃ a q, getA es x = some a ∧ q < 7 ∧ f.at q < a.dep q ∧ y = ((q : Int), a.dep q - 1) := by
  constructor
  · intro h
    obtain ⟨a, ha, hy⟩ := leadsG_mem h
    obtain ⟨q, h1, h2, h3⟩ := leads_mem hy
    exact ⟨a, q, ha, h1, h2, h3⟩
  · rintro ⟨a, q, ha, h1, h2, rfl⟩
    unfold leadsG
    rw [ha]
    unfold leads leadsU
    exact List.mem_map.2 ⟨q, List.mem_filter.2 ⟨List.mem_range.2 h1, decide_eq_true h2⟩, rfl⟩
theorem RI.trans {f : F7} {a b c : I2} (h : RI es f a b) (k : RI es f b c) : RI es f a c := by
  induction k with
  | refl => exact h
  | step _ hy ih => exact .step ih hy
/-- what is needed is not behind the front -/
theorem front_not {f : F7} {l : List I2} (h : FirstIs es f (some l)) : ∀ x ∈ l, behind f x = false := by
  obtain ⟨q, hq, _, h1, h2, h3, h4⟩ := h
  intro x hx
  have hr := (h3 x).1 hx
  cases hr with
  | refl => exact h1
  | step _ hy =>
    obtain ⟨a, q2, ha, hq2, hlt, rfl⟩ := lead_iff.1 hy
    cases hb : behind f ((q2 : Int), a.dep q2 - 1) with
    | false => rfl
    | true =>
      have := (behind_iff.1 hb).2
      simp only [Int.toNat_natCast] at this
      omega
theorem front_cl {f : F7} {l : List I2} (h : FirstIs es f (some l)) {x y : I2} (hx : x ∈ l) (hy : y ∈ leadsG es f x) : y ∈ l := by
  obtain ⟨q, hq, _, h1, h2, h3, h4⟩ := h
  exact (h3 y).2 (.step ((h3 x).1 hx) hy)
/-- all slots of a replica from the front on, up to one that is needed, are needed -/
theorem front_down {f : F7} {l : List I2} (ho : Own es) (hs : SelfE es) (hf : FOk f) (h : FirstIs es f (some l)) {x : I2} (hx : x ∈ l) : ∀ (d : Nat) (t : Int), t + d = x.2 → f.at x.1.toNat ≤ t → (x.1, t) ∈ l
  | 0, t, he, _ => by
    have : (x.1, t) = x := by rw [show t = x.2 by omega]
    rw [this]; exact hx
  | d + 1, t, he, hle => by
    have ih := front_down ho hs hf h hx d (t + 1) (by omega) (by omega)
    obtain ⟨_, hg, _⟩ := first_in h
    have hgx := hg _ ih
    obtain ⟨a, ha⟩ : ∃ a, getA es (x.1, t + 1) = some a := by
      cases hq : getA es (x.1, t + 1) with
      | none => rw [hq] at hgx; cases hgx
      | some a => exact ⟨a, rfl⟩
    have hr : RtI x := ho.of_get (hg x hx)
    have hsf := hs _ a ha
    simp only at hsf
    have hq7 : x.1.toNat < 7 := by obtain ⟨h1, h2, _⟩ := hr; omega
    refine front_cl h ih (lead_iff.2 ⟨a, x.1.toNat, ha, hq7, by omega, ?_⟩)
    rw [hsf]
    obtain ⟨h1, _⟩ := hr
    rw [show ((x.1.toNat : Nat) : Int) = x.1 by omega, show t + 1 - 1 = t by omega]
theorem upF_le : ∀ {l : List I2} {f : F7} {q : Nat}, q < 7 → (∀ x ∈ l, RtI x) → (upF f l).at q = f.at q ∨ ∃ x ∈ l, x.1.toNat = q ∧ (upF f l).at q = x.2 + 1
  | [], _, _, _, _ => .inl rfl
  | x :: l, f, q, hq, hr => by
    have h := upF_le (l := l) (f := upF1 f x) hq fun y hy => hr y (by simp [hy])
    rcases h with h | ⟨y, hy, h1, h2⟩
    · have h3 := upF1_at (f := f) (hr x (by simp)) hq
      by_cases e : q = x.1.toNat
      · rw [if_pos e] at h3
        rcases Int.le_total (x.2 + 1) (f.at q) with h4 | h4
        · left
          show (upF (upF1 f x) l).at q = _
          rw [h, h3]; omega
        · right
          refine ⟨x, by simp, e.symm, ?_⟩
          show (upF (upF1 f x) l).at q = _
          rw [h, h3]; omega
      · rw [if_neg e] at h3
        left
        show (upF (upF1 f x) l).at q = _
        rw [h, h3]
    · exact .inr ⟨y, by simp [hy], h1, h2⟩
/-- behind the new front is what was, and what was needed -/
theorem up_behind {f : F7} {l : List I2} (ho : Own es) (hs : SelfE es) (hf : FOk f) (h : FirstIs es f (some l)) {x : I2} : behind (upF f l) x = true ↔ behind f x = true ∨ x ∈ l := by
  obtain ⟨_, hg, _⟩ := first_in h
  have hr : ∀ y ∈ l, RtI y := fun y hy => ho.of_get (hg y hy)
  rw [behind_iff, behind_iff]
  constructor
  · rintro ⟨h1, h2⟩
    have hq7 : x.1.toNat < 7 := by obtain ⟨h1, h2, _⟩ := h1; omega
    by_cases hlt : x.2 < f.at x.1.toNat
    · exact .inl ⟨h1, hlt⟩
    · right
      rcases upF_le (f := f) hq7 hr with e | ⟨y, hy, e1, e2⟩
      · rw [e] at h2; exact absurd h2 hlt
      · have hd := front_down ho hs hf h hy (y.2 - x.2).toNat x.2 (by omega) (by rw [e1]; omega)
        obtain ⟨a, _⟩ := h1
        obtain ⟨b, _⟩ := hr y hy
        have : y.1 = x.1 := by omega
        rw [this] at hd
        exact hd
  · rintro (⟨h1, h2⟩ | hx)
    · exact ⟨h1, by
        have := upF_ge (f := f) hr (k := x.1.toNat) (by obtain ⟨a, b, _⟩ := h1; omega)
        omega⟩
    · exact ⟨hr x hx, upF_mem hr hx⟩
/-- what is behind the front is closed -/
def ClF (es : List (I2 × A8)) (f : F7) : Prop := ∀ x, behind f x = true → ∀ y ∈ leadsG es f0F x, behind f y = true
theorem cl_start : ClF es f0F := fun x hx => by
  have := behind_iff.1 hx
  have h1 := this.1
  have h2 := this.2
  rw [f0_at (by obtain ⟨a, b, _⟩ := h1; omega)] at h2
  obtain ⟨_, _, h3, _⟩ := h1
  omega
theorem lead_cut {f : F7} (hd : Deps es) {x y : I2} (hy : y ∈ leadsG es f0F x) : y ∈ leadsG es f x ∨ (RtI y → behind f y = true) := by
  obtain ⟨a, q, ha, hq, hlt, rfl⟩ := lead_iff.1 hy
  by_cases h : f.at q < a.dep q
  · exact .inl (lead_iff.2 ⟨a, q, ha, hq, h, rfl⟩)
  · right
    intro hr
    rw [behind_iff]
    refine ⟨hr, ?_⟩
    simp only [Int.toNat_natCast]
    omega
theorem lead_rt (hd : Deps es) {f : F7} (hf : FOk f) {x y : I2} (hy : y ∈ leadsG es f x) : RtI y := by
  obtain ⟨a, q, ha, hq, hlt, rfl⟩ := lead_iff.1 hy
  have := hd x a ha q hq
  have := hf q hq
  exact ⟨by show (0 : Int) ≤ q; omega, by show (q : Int) < 7; omega, by show 0 ≤ a.dep q - 1; omega, by show a.dep q - 1 < 1024; omega⟩
theorem f0_ok : FOk f0F := fun q hq => by rw [f0_at hq]; omega
theorem cl_next {f : F7} {l : List I2} (ho : Own es) (hs : SelfE es) (hf : FOk f) (h : FirstIs es f (some l)) (hc : ClF es f) : ClF es (upF f l) := by
  intro x hx y hy
  rw [up_behind ho hs hf h] at hx ⊢
  rcases hx with hx | hx
  · exact .inl (hc x hx y hy)
  · rcases lead_cut ho.deps hy with q | q
    · exact .inr (front_cl h hx q)
    · exact .inl (q (lead_rt ho.deps f0_ok hy))
theorem cl_reach {f : F7} (hc : ClF es f) {x y : I2} (hx : behind f x = true) (r : RI es f0F x y) : behind f y = true := by
  induction r with
  | refl => exact hx
  | step _ hy ih => exact hc _ ih _ hy
/-- who leads to one that is not behind the front does so past the front -/
theorem reach_cut {f : F7} (ho : Own es) (hc : ClF es f) {x y : I2} (r : RI es f0F x y) (hy : behind f y = false) : RI es f x y := by
  induction r with
  | refl => exact .refl
  | step t h ih =>
    rename_i z y
    have hz : behind f z = false := by
      cases hb : behind f z with
      | false => rfl
      | true => have := hc z hb _ h; rw [hy] at this; cases this
    refine .step (ih hz) ?_
    rcases lead_cut (f := f) ho.deps h with q | q
    · exact q
    · have := q (lead_rt ho.deps f0_ok h)
      rw [hy] at this
      cases this
theorem reach_f0 {f : F7} (hf : FOk f) {x y : I2} (r : RI es f x y) : RI es f0F x y := by
  induction r with
  | refl => exact .refl
  | step t h ih =>
    refine .step ih ?_
    obtain ⟨a, q, ha, hq, hlt, e⟩ := lead_iff.1 h
    exact lead_iff.2 ⟨a, q, ha, hq, by rw [f0_at hq]; have := (hf q hq).1; omega, e⟩
/-- leads to, by names and by places -/
theorem place_edge {Lk : List I2} {f : F7} {i k : Nat} {x y : I2} (hx : Lk[i]? = some x) (hy : y ∈ leadsG es f x) (hk : Lk[k]? = some y) (hn : Lk.Nodup) : k ∈ nxL es f Lk i := by
  unfold nxL
  rw [hx]
  unfold nextP
  refine List.mem_filterMap.2 ⟨y, hy, ?_⟩
  rw [if_pos (List.mem_of_getElem? hk)]
  obtain ⟨hl, rfl⟩ := List.getElem?_eq_some_iff.1 hk
  rw [List.Nodup.idxOf_getElem hn]
theorem edge_place {Lk : List I2} {f : F7} {i k : Nat} (h : k ∈ nxL es f Lk i) : ∃ x y, Lk[i]? = some x ∧ Lk[k]? = some y ∧ y ∈ leadsG es f x := by
  unfold nxL at h
  split at h
  · rename_i x hx
    unfold nextP at h
    obtain ⟨y, hy, e⟩ := List.mem_filterMap.1 h
    split at e
    · rename_i hm
      cases e
      exact ⟨x, y, hx, by rw [List.getElem?_eq_getElem (List.idxOf_lt_length_of_mem hm), List.getElem_idxOf], hy⟩
    · cases e
  · cases h
theorem mem_of_RI {Lk : List I2} {f : F7} {x z : I2} (hx : x ∈ Lk) (hcl : ∀ z ∈ Lk, ∀ y ∈ leadsG es f z, (getA es y).isSome = true → y ∈ Lk) (r : RI es f x z) : (getA es z).isSome = true → z ∈ Lk := by
  induction r with
  | refl => exact fun _ => hx
  | step t h ih =>
    intro hg
    refine hcl _ (ih ?_) _ h hg
    obtain ⟨a, ha, _⟩ := leadsG_mem h
    rw [ha]; rfl
theorem R_of_RI {Lk : List I2} {f : F7} {i : Nat} {x : I2} (hn : Lk.Nodup) (hx : Lk[i]? = some x) (hcl : ∀ z ∈ Lk, ∀ y ∈ leadsG es f z, (getA es y).isSome = true → y ∈ Lk) {y : I2} (r : RI es f x y) : ∀ {k : Nat}, Lk[k]? = some y → Tar.R (nxL es f Lk) i k := by
  induction r with
  | refl =>
    intro k hk
    obtain ⟨h1, e1⟩ := List.getElem?_eq_some_iff.1 hx
    obtain ⟨h2, e2⟩ := List.getElem?_eq_some_iff.1 hk
    have : i = k := by
      rcases Nat.lt_trichotomy i k with q | q | q
      · exact absurd (by rw [e1, e2]) (List.pairwise_iff_getElem.1 hn i k h1 h2 q)
      · exact q
      · exact absurd (by rw [e1, e2]) (List.pairwise_iff_getElem.1 hn k i h2 h1 q)
    rw [this]
    exact .refl _
  | step t h ih =>
    intro k hk
    obtain ⟨m, hm, e⟩ := List.mem_iff_getElem.1 (mem_of_RI (List.mem_of_getElem? hx) hcl t (by
      obtain ⟨a, ha, _⟩ := leadsG_mem h
      rw [ha]; rfl))
    exact (ih (k := m) (by rw [List.getElem?_eq_getElem hm, e])).trans (.one (place_edge (by rw [List.getElem?_eq_getElem hm, e]) h hk hn))
theorem RI_of_R {Lk : List I2} {f : F7} {i k : Nat} (r : Tar.R (nxL es f Lk) i k) : ∀ {x y : I2}, Lk[i]? = some x → Lk[k]? = some y → RI es f x y := by
  induction r with
  | refl _ =>
    intro x y hx hy
    rw [hx] at hy
    cases hy
    exact .refl
  | step h _ ih =>
    intro x y hx hy
    obtain ⟨x2, z, h1, h2, h3⟩ := edge_place h
    rw [hx] at h1
    cases h1
    exact (RI.step .refl h3).trans (ih h2 hy)
/-- an instance's number -/
def seqE (es : List (I2 × A8)) (x : I2) : Int := ((getA es x).getD A8.zero).s
theorem ordG_pairs {f : F7} {l : List I2} (hs : l.Pairwise ltID) (hcl : ∀ z ∈ l, ∀ y ∈ leadsG es f z, (getA es y).isSome = true → y ∈ l) :
    (ordG es f l).Pairwise fun o x => RI es f o x → RI es f x o ∧ (seqE es o < seqE es x ∨ seqE es o = seqE es x ∧ ltID o x) := by
  have hn : l.Nodup := hs.imp fun q e => by rw [e] at q; exact lt_irr q
  have hp := Tar.ordR_pairs (nx := nxL es f l) (n := l.length) (fun x _ y hy => nxL_lt hy) (sqE (enL es l))
  have hm : ∀ p ∈ ordN es f l, p < l.length := fun p hp => List.mem_range.1 ((ordN_perm es f l).mem_iff.1 hp)
  unfold ordG
  rw [List.pairwise_map]
  refine (List.Pairwise.and_mem.1 hp).imp ?_
  rintro p q ⟨h1, h2, h⟩ r
  obtain ⟨x, hx⟩ : ∃ x, l[p]? = some x := ⟨_, List.getElem?_eq_getElem (hm p h1)⟩
  obtain ⟨y, hy⟩ : ∃ y, l[q]? = some y := ⟨_, List.getElem?_eq_getElem (hm q h2)⟩
  have ex : idK (enL es l) p = x := enL_id hx
  have ey : idK (enL es l) q = y := enL_id hy
  have sx : sqE (enL es l) p = seqE es x := by unfold sqE enL seqE; rw [hx]
  have sy : sqE (enL es l) q = seqE es y := by unfold sqE enL seqE; rw [hy]
  rw [ex, ey] at r ⊢
  obtain ⟨g1, g2⟩ := h (R_of_RI hn hx hcl r hy)
  refine ⟨RI_of_R g1 hy hx, ?_⟩
  unfold Tar.ltS at g2
  rw [sx, sy] at g2
  refine g2.imp id fun ⟨a, b⟩ => ⟨a, ?_⟩
  obtain ⟨hp', rfl⟩ := List.getElem?_eq_some_iff.1 hx
  obtain ⟨hq', rfl⟩ := List.getElem?_eq_some_iff.1 hy
  exact List.pairwise_iff_getElem.1 hs p q hp' hq' b
theorem run_pairs (ho : Own es) (hs : SelfE es) {f g : F7} {got : List I2} (h : RunR es f got g) : FOk f → ClF es f →
    (∀ x ∈ got, (getA es x).isSome = true ∧ behind f x = false ∧ behind g x = true) ∧ got.Nodup ∧ got.Pairwise (fun o x => RI es f0F o x → RI es f0F x o ∧ (seqE es o < seqE es x ∨ seqE es o = seqE es x ∧ ltID o x)) ∧ (∀ x, behind f x = true → behind g x = true) := by
  induction h with
  | stop h => exact fun _ _ => ⟨nofun, .nil, .nil, fun _ h => h⟩
  | go h t ih =>
    rename_i f g l r
    intro hf hc
    obtain ⟨i1, i2, i3, i4⟩ := ih (up_less ho hf h).1 (cl_next ho hs hf h hc)
    obtain ⟨p1, p2, _⟩ := first_in h
    have hmem : ∀ x, x ∈ ordG es f l ↔ x ∈ l := fun x => (ordG_perm es f l).mem_iff
    have hup := fun x => up_behind ho hs hf h (x := x)
    have hnr : ∀ x ∈ r, x ∉ l ∧ behind f x = false := fun x hx => by
      have h1 := (i1 x hx).2.1
      constructor
      · intro q
        rw [(hup x).2 (.inr q)] at h1
        cases h1
      · cases hb : behind f x with
        | false => rfl
        | true => rw [(hup x).2 (.inl hb)] at h1; cases h1
    have hln : (ordG es f l).Nodup := (ordG_perm es f l).nodup_iff.2 (p1.imp fun q e => by rw [e] at q; exact lt_irr q)
    refine ⟨fun x hx => ?_, List.nodup_append.2 ⟨hln, i2, fun x hx y hy e => ?_⟩, List.pairwise_append.2 ⟨?_, i3, fun x hx y hy rr => ?_⟩, fun x hx => i4 x ((hup x).2 (.inl hx))⟩
    · rcases List.mem_append.1 hx with q | q
      · rw [hmem] at q
        exact ⟨p2 x q, front_not h x q, i4 x ((hup x).2 (.inr q))⟩
      · exact ⟨(i1 x q).1, (hnr x q).2, (i1 x q).2.2⟩
    · subst e
      exact (hnr x hy).1 ((hmem x).1 hx)
    · refine (List.Pairwise.and_mem.1 (ordG_pairs p1 fun z hz y hy _ => front_cl h hz hy)).imp ?_
      rintro o x ⟨h1, h2, hp⟩ rr
      obtain ⟨g1, g2⟩ := hp (reach_cut ho hc rr (front_not h x ((hmem x).1 h2)))
      exact ⟨reach_f0 hf g1, g2⟩
    · have h1 := cl_reach (cl_next ho hs hf h hc) ((hup x).2 (.inr ((hmem x).1 hx))) rr
      rw [(i1 y hy).2.1] at h1
      cases h1
end
end Go.Proofs.Ytgicohkmfbbbdaa.Gr
end

section
namespace Go.Proofs.Ytgicohkmfbbbdaa.Gr
open _root_.Go.Proofs.Ytgicohkmfbbbdaa.Mark (ltID sortID)
open _root_.Go.Proofs.Ytgicohkmfbbbdaa.Ref (IA)
open Go.RowKit
open Attr (A8 rightI rightI_iff ownsB)
set_option linter.unusedSimpArgs false
set_option linter.unusedVariables false

theorem getA_snoc_self {es : List IA} {x : I2} {a : A8} (h : getA es x = none) : getA (es ++ [(x, a)]) x = some a := by
  unfold getA at h ⊢
  have h1 : es.find? (fun e => decide (e.1 = x)) = none := by simpa using h
  rw [List.find?_append, h1]
  simp
theorem getA_snoc_ne {es : List IA} {x y : I2} {a : A8} (h : y ≠ x) : getA (es ++ [(x, a)]) y = getA es y := by
  unfold getA
  rw [List.find?_append]
  have : [(x, a)].find? (fun e => decide (e.1 = y)) = none := by
    rw [List.find?_cons, decide_eq_false (fun e => h e.symm)]
    rfl
  rw [this, Option.or_none]
theorem getA_add {es : List IA} {x y : I2} {a b : A8} (h : getA (addG es x a).1 y = some b) : getA es y = some b ∨ (y = x ∧ b = a ∧ getA es x = none) := by
  unfold addG at h
  split at h
  · split at h
    · split at h
      · exact .inl h
      · exact .inl h
    · rename_i hn
      by_cases e : y = x
      · subst e
        rw [getA_snoc_self hn] at h
        cases h
        exact .inr ⟨rfl, rfl, hn⟩
      · rw [getA_snoc_ne e] at h
        exact .inl h
  · exact .inl h
theorem getA_keep {es : List IA} {x y : I2} {a b : A8} (h : getA es y = some b) : getA (addG es x a).1 y = some b := by
  unfold addG
  split
  · split
    · split <;> exact h
    · rename_i hn
      have e : y ≠ x := fun e => by rw [e, hn] at h; cases h
      rw [getA_snoc_ne e]
      exact h
  · exact h
theorem run_more {es : List IA} (ho : Own es) (hs : SelfE es) {f g : F7} {got : List I2} (h : RunR es f got g) : FOk f → ClF es f → FOk g ∧ ClF es g ∧ ∀ x, behind g x = true ↔ behind f x = true ∨ x ∈ got := by
  induction h with
  | stop h => exact fun hf hc => ⟨hf, hc, fun x => by simp⟩
  | go h t ih =>
    rename_i f g l r
    intro hf hc
    obtain ⟨i1, i2, i3⟩ := ih (up_less ho hf h).1 (cl_next ho hs hf h hc)
    refine ⟨i1, i2, fun x => ?_⟩
    rw [i3, up_behind ho hs hf h, List.mem_append, (ordG_perm es f l).mem_iff, or_assoc]
/-- the order of two of which the first leads to the second -/
def Fore (es : List IA) (o x : I2) : Prop := RI es f0F o x → RI es f0F x o ∧ (seqE es o < seqE es x ∨ seqE es o = seqE es x ∧ ltID o x)
/-- a play, so far -/
structure Pl (M : I2 → A8 → Prop) (es : List IA) (f : F7) (out : List I2) : Prop where
  own : Own es
  self : SelfE es
  fok : FOk f
  cl : ClF es f
  beh : ∀ x, behind f x = true ↔ x ∈ out
  got : ∀ x ∈ out, (getA es x).isSome = true
  sub : ∀ x a, getA es x = some a → M x a
  once : out.Nodup
  fore : out.Pairwise (Fore es)
theorem Pl.start (M : I2 → A8 → Prop) : Pl M [] f0F [] := by
  refine ⟨own_nil, fun x a h => by simp [getA] at h, f0_ok, cl_start, fun x => ?_, nofun, fun x a h => by simp [getA] at h, .nil, .nil⟩
  constructor
  · intro h
    have h1 := (behind_iff.1 h).1
    have h2 := (behind_iff.1 h).2
    rw [f0_at (by obtain ⟨a, b, _⟩ := h1; omega)] at h2
    obtain ⟨_, _, h3, _⟩ := h1
    omega
  · nofun
/-- leads of those that are there in both -/
theorem leads_get {es es' : List IA} {f : F7} {x : I2} (h : getA es' x = getA es x) : leadsG es' f x = leadsG es f x := by unfold leadsG; rw [h]
theorem Pl.shut {M : I2 → A8 → Prop} {es : List IA} {f : F7} {out : List I2} (h : Pl M es f out) {x y : I2} (hx : x ∈ out) (r : RI es f0F x y) : y ∈ out := by
  induction r with
  | refl => exact hx
  | step _ hy ih => exact (h.beh _).1 (h.cl _ ((h.beh _).2 ih) _ hy)
/-- from what came, another that knows as much and carried it out leads to the same -/
theorem Pl.over {M : I2 → A8 → Prop} {es es' : List IA} {f : F7} {out : List I2} (h : Pl M es f out) (he : ∀ z ∈ out, getA es' z = getA es z) {x y : I2} (hx : x ∈ out) : RI es' f0F x y ↔ RI es f0F x y := by
  constructor
  · intro r
    suffices H : RI es f0F x y ∧ y ∈ out from H.1
    induction r with
    | refl => exact ⟨.refl, hx⟩
    | step _ hy ih =>
      have hy2 := hy
      rw [leads_get (he _ ih.2)] at hy2
      exact ⟨.step ih.1 hy2, h.shut ih.2 (.step .refl hy2)⟩
  · intro r
    induction r with
    | refl => exact .refl
    | step t hy ih => exact .step ih (by rw [leads_get (he _ (h.shut hx t))]; exact hy)
theorem Pl.add {M : I2 → A8 → Prop} {es : List IA} {f : F7} {out : List I2} (h : Pl M es f out) (x : I2) (a : A8) (hm : M x a) : Pl M (addG es x a).1 f out := by
  have hk : ∀ z ∈ out, getA (addG es x a).1 z = getA es z := fun z hz => by
    have := h.got z hz
    cases hq : getA es z with
    | none => rw [hq] at this; cases this
    | some b => exact getA_keep hq
  refine ⟨h.own.add x a, h.self.add h.own x a, h.fok, fun y hy z hz => ?_, h.beh, fun y hy => by rw [hk y hy]; exact h.got y hy, fun y b hb => ?_, h.once, ?_⟩
  · rw [leads_get (hk y ((h.beh y).1 hy))] at hz
    exact h.cl y hy z hz
  · rcases getA_add hb with q | ⟨rfl, rfl, _⟩
    · exact h.sub y b q
    · exact hm
  · refine (List.Pairwise.and_mem.1 h.fore).imp ?_
    rintro o y ⟨ho, hy, hf⟩ r
    obtain ⟨g1, g2⟩ := hf ((h.over hk ho).1 r)
    refine ⟨(h.over hk hy).2 g1, ?_⟩
    unfold seqE at g2 ⊢
    rw [hk o ho, hk y hy]
    exact g2
theorem Pl.run {M : I2 → A8 → Prop} {es : List IA} {f g : F7} {out got : List I2} (h : Pl M es f out) (hr : RunR es f got g) : Pl M es g (out ++ got) := by
  obtain ⟨r1, r2, r3, r4⟩ := run_pairs h.own h.self hr h.fok h.cl
  obtain ⟨m1, m2, m3⟩ := run_more h.own h.self hr h.fok h.cl
  refine ⟨h.own, h.self, m1, m2, fun x => by rw [m3, h.beh, List.mem_append], fun x hx => ?_, h.sub, List.nodup_append.2 ⟨h.once, r2, fun x hx y hy e => ?_⟩, List.pairwise_append.2 ⟨h.fore, r3, fun x hx y hy r => ?_⟩⟩
  · rcases List.mem_append.1 hx with q | q
    · exact h.got x q
    · exact (r1 x q).1
  · subst e
    have h1 := (r1 x hy).2.1
    rw [(h.beh x).2 hx] at h1
    cases h1
  · have h1 := (r1 y hy).2.1
    rw [(h.beh y).2 (h.shut hx r)] at h1
    cases h1
/-- one place ahead of another -/
theorem fore_lt {es : List IA} {out : List I2} (hp : out.Pairwise (Fore es)) {i k : Nat} {p q : I2} (hi : out[i]? = some p) (hk : out[k]? = some q) (hlt : i < k) : Fore es p q := by
  obtain ⟨h1, rfl⟩ := List.getElem?_eq_some_iff.1 hi
  obtain ⟨h2, rfl⟩ := List.getElem?_eq_some_iff.1 hk
  exact List.pairwise_iff_getElem.1 hp i k h1 h2 hlt
/-- both carry out what leads to another in the same order -/
theorem Pl.same {M : I2 → A8 → Prop} (hM : ∀ x a b, M x a → M x b → a = b) {es es' : List IA} {f f' : F7} {out out' : List I2} (h : Pl M es f out) (h' : Pl M es' f' out') {p q : I2} {i k m n : Nat} (hi : out[i]? = some p) (hk : out[k]? = some q) (hm : out'[m]? = some p) (hn : out'[n]? = some q)
    (r : RI es f0F p q) : i < k ↔ m < n := by
  suffices H : ∀ {es es' : List IA} {f f' : F7} {out out' : List I2}, Pl M es f out → Pl M es' f' out' → ∀ {i k m n : Nat}, out[i]? = some p → out[k]? = some q → out'[m]? = some p → out'[n]? = some q → RI es f0F p q → i < k → m < n by
    refine ⟨H h h' hi hk hm hn r, H h' h hm hn hi hk ?_⟩
    have hc : ∀ z, RI es f0F p z → RI es' f0F p z ∧ z ∈ out' := by
      intro z t
      induction t with
      | refl => exact ⟨.refl, List.mem_of_getElem? hm⟩
      | step t hy ih =>
        have hz := h.got _ (h.shut (List.mem_of_getElem? hi) t)
        have hz' := h'.got _ ih.2
        have e : leadsG es' f0F _ = leadsG es f0F _ := leads_get (by
          obtain ⟨a, ha⟩ := Option.isSome_iff_exists.1 hz
          obtain ⟨b, hb⟩ := Option.isSome_iff_exists.1 hz'
          rw [ha, hb, hM _ _ _ (h.sub _ _ ha) (h'.sub _ _ hb)])
        rw [← e] at hy
        exact ⟨.step ih.1 hy, h'.shut ih.2 (.step .refl hy)⟩
    exact (hc q r).1
  intro es es' f f' out out' h h' i k m n hi hk hm hn r hlt
  obtain ⟨g1, g2⟩ := fore_lt h.fore hi hk hlt r
  have hge : ∀ z, z ∈ out → z ∈ out' → getA es' z = getA es z := fun z hz hz' => by
    obtain ⟨a, ha⟩ := Option.isSome_iff_exists.1 (h.got z hz)
    obtain ⟨b, hb⟩ := Option.isSome_iff_exists.1 (h'.got z hz')
    rw [ha, hb, hM _ _ _ (h.sub _ _ ha) (h'.sub _ _ hb)]
  have hc : ∀ x z, x ∈ out → x ∈ out' → RI es f0F x z → RI es' f0F x z ∧ z ∈ out' := by
    intro x z hx hx' t
    induction t with
    | refl => exact ⟨.refl, hx'⟩
    | step t hy ih =>
      have e : leadsG es' f0F _ = leadsG es f0F _ := leads_get (hge _ (h.shut hx t) ih.2)
      rw [← e] at hy
      exact ⟨.step ih.1 hy, h'.shut ih.2 (.step .refl hy)⟩
  have hp := List.mem_of_getElem? hi
  have hq := List.mem_of_getElem? hk
  have hp' := List.mem_of_getElem? hm
  have hq' := List.mem_of_getElem? hn
  have es1 : seqE es' p = seqE es p := by unfold seqE; rw [hge p hp hp']
  have es2 : seqE es' q = seqE es q := by unfold seqE; rw [hge q hq hq']
  rcases Nat.lt_trichotomy m n with c | c | c
  · exact c
  · subst c
    rw [hm] at hn
    cases hn
    rcases g2 with g | ⟨_, g⟩
    · omega
    · exact absurd g lt_irr
  · obtain ⟨k1, k2⟩ := fore_lt h'.fore hn hm c (hc q p hq hq' g1).1
    rw [es1, es2] at k2
    rcases g2 with g | ⟨g, u⟩
    · rcases k2 with v | ⟨v, _⟩ <;> omega
    · rcases k2 with v | ⟨_, v⟩
      · omega
      · exact absurd (lt_tr u v) lt_irr
/-- who covers another leads to it, when it came -/
theorem Pl.covers {M : I2 → A8 → Prop} (hM : ∀ x a b, M x a → M x b → a = b) {es : List IA} {f : F7} {out : List I2} (h : Pl M es f out) {p q : I2} {a : A8} (hp : p ∈ out) (ha : M p a) (hq : RtI q) (hc : q.2 < a.dep q.1.toNat) : RI es f0F p q := by
  obtain ⟨b, hb⟩ := Option.isSome_iff_exists.1 (h.got p hp)
  cases hM _ _ _ ha (h.sub _ _ hb)
  obtain ⟨r, t⟩ := q
  obtain ⟨q1, q2, q3, q4⟩ := hq
  simp only at q1 q2 q3 q4 hc
  have hr7 : r.toNat < 7 := by omega
  have hrr : ((r.toNat : Nat) : Int) = r := by omega
  have hl : RI es f0F p (r, a.dep r.toNat - 1) := .step .refl (lead_iff.2 ⟨a, r.toNat, hb, hr7, by rw [f0_at hr7]; omega, by rw [hrr]⟩)
  suffices H : ∀ (d : Nat) (s : Int), 0 ≤ s → s + d = a.dep r.toNat - 1 → RI es f0F p (r, s) from H (a.dep r.toNat - 1 - t).toNat t (by omega) (by omega)
  intro d
  induction d with
  | zero =>
    intro s h0 e
    rw [show s = a.dep r.toNat - 1 by omega]
    exact hl
  | succ d ih =>
    intro s h0 e
    have h2 := ih (s + 1) (by omega) (by omega)
    obtain ⟨c, hc2⟩ := Option.isSome_iff_exists.1 (h.got _ (h.shut hp h2))
    have h3 := h.self _ c hc2
    simp only at h3
    refine .step h2 (lead_iff.2 ⟨c, r.toNat, hc2, hr7, by rw [f0_at hr7, h3]; omega, ?_⟩)
    rw [h3, hrr, show s + 1 - 1 = s by omega]
theorem Pl.len {l : List IA} {es : List IA} {f : F7} {out : List I2} (h : Pl (fun x a => (x, a) ∈ l) es f out) : es.length ≤ l.length ∧ out.length ≤ l.length := by
  have h1 : (es.map (·.1)).length ≤ (l.map (·.1)).length := nodup_le h.own.uq fun x hx => by
    obtain ⟨e, he, rfl⟩ := List.mem_map.1 hx
    exact List.mem_map.2 ⟨_, h.sub _ _ (getA_of_mem h.own.uq he), rfl⟩
  have h2 : out.length ≤ (l.map (·.1)).length := nodup_le h.once fun x hx => by
    obtain ⟨a, ha⟩ := Option.isSome_iff_exists.1 (h.got x hx)
    exact List.mem_map.2 ⟨_, h.sub _ _ ha, rfl⟩
  simpa using And.intro h1 h2
end Go.Proofs.Ytgicohkmfbbbdaa.Gr
end
