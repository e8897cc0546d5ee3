/- GrbJ, RefT, joined. -/
import Derived.Test.YtgicohkmfbbbdaaJ27
import Derived.Test.YtgicohkmfbbbdaaJ29
import Derived.Test.YtgicohkmfbbbdaaJ19
section
namespace Go.Proofs.Ytgicohkmfbbbdaa.Tar
/-- by knots: who leads to one that comes later is in a knot with it, and ahead by its number -/
theorem ordP_pairs {nx : Nat → List Nat} {n : Nat} {kn : Nat → Nat} {found : Nat} (hk : Kn nx n kn found) (sq : Nat → Int) : ∀ (fuel : Nat) (gone : List Nat), Shut nx n kn gone →
    (∀ p ∈ ordP nx n kn sq fuel gone, p < n ∧ kn p ∉ gone) ∧ (ordP nx n kn sq fuel gone).Pairwise fun p q => R nx p q → R nx q p ∧ ltS sq p q
  | 0, _, _ => ⟨nofun, .nil⟩
  | f + 1, gone, hs => by
    unfold ordP
    cases hq : (List.range n).find? (freeP nx n kn gone) with
    | none => exact ⟨nofun, .nil⟩
    | some i =>
      have hf := List.find?_some hq
      have hs2 := shut_next hk hs hf
      have ih := ordP_pairs hk sq f (kn i :: gone) hs2
      have hsp := sortS_spec (sq := sq) (knotL_inc n kn (kn i))
      have hm : ∀ p ∈ sortS sq (knotL n kn (kn i)), p < n ∧ kn p = kn i := fun p hp => knotL_mem.1 (hsp.2.mem_iff.1 hp)
      simp only
      refine ⟨fun p hp => ?_, List.pairwise_append.2 ⟨?_, ih.2, fun p hp q hq2 r => ?_⟩⟩
      · rcases List.mem_append.1 hp with h | h
        · exact ⟨(hm p h).1, by rw [(hm p h).2]; exact (freeP_iff.1 hf).1⟩
        · exact ⟨(ih.1 p h).1, fun q => (ih.1 p h).2 (List.mem_cons_of_mem _ q)⟩
      · refine (List.Pairwise.and_mem.1 hsp.1).imp ?_
        rintro a b ⟨ha, hb, hlt⟩ _
        exact ⟨hk.same b a (hm b hb).1 (by rw [(hm a ha).2, (hm b hb).2]), hlt⟩
      · have h1 := shut_reach hk hs2 r (hm p hp).1 (by rw [(hm p hp).2]; simp)
        exact absurd h1 (ih.1 q hq2).2
theorem ordR_pairs {nx : Nat → List Nat} {n : Nat} (hn : ∀ x, x < n → ∀ y ∈ nx x, y < n) (sq : Nat → Int) : (ordR nx n sq).Pairwise fun p q => R nx p q → R nx q p ∧ ltS sq p q := by
  obtain ⟨kn, found, hk⟩ := kn_exists hn
  rw [← ordP_R hk]
  exact (ordP_pairs hk sq n [] nofun).2
end Go.Proofs.Ytgicohkmfbbbdaa.Tar
namespace Go.Proofs.Ytgicohkmfbbbdaa.Gr
open _root_.Go.Proofs.Ytgicohkmfbbbdaa.Mark (ltID sortID)
open Go.RowKit
open Attr (A8 rightI rightI_iff ownsB)
set_option linter.unusedSimpArgs false
set_option linter.unusedVariables false

def f0F : F7 := ⟨0, 0, 0, 0, 0, 0, 0⟩
theorem f0_at {q : Nat} (hq : q < 7) : f0F.at q = 0 := by
  rcases (show q = 0 ∨ q = 1 ∨ q = 2 ∨ q = 3 ∨ q = 4 ∨ q = 5 ∨ q = 6 by omega) with rfl | rfl | rfl | rfl | rfl | rfl | rfl <;> rfl
/-- each has its own slot ahead -/
def SelfE (es : List (I2 × A8)) : Prop := ∀ x a, getA es x = some a → a.dep x.1.toNat = x.2
theorem SelfE.add {es : List (I2 × A8)} (ho : Own es) (h : SelfE es) (x : I2) (a : A8) : SelfE (addG es x a).1 := by
  unfold addG
  split
  · rename_i hw
    split
    · split <;> exact h
    · rename_i hn
      intro y b hy
      have ho2 := ho.add x a
      have hm := getA_mem hy
      rcases List.mem_append.1 hm with q | q
      · exact h y b (getA_of_mem ho.uq q)
      · cases List.mem_singleton.1 q
        exact (owns_parts.1 hw).2.2
  · exact h
theorem builtE_self (l : List (I2 × A8)) : SelfE (builtE l) := by
  suffices H : ∀ (l es : List (I2 × A8)), Own es → SelfE es → SelfE (l.foldl (fun es n => (addG es n.1 n.2).1) es) from H l [] own_nil fun x a h => by simp [getA] at h
  intro l
  induction l with
  | nil => exact fun es _ h => h
  | cons n l ih => exact fun es ho h => ih _ (ho.add n.1 n.2) (h.add ho n.1 n.2)
section
variable {es : List (I2 × A8)}
theorem behind_iff {f : F7} {x : I2} : behind f x = true ↔ RtI x ∧ x.2 < f.at x.1.toNat := by
  unfold behind
  rw [Bool.and_eq_true, rightI_iff, decide_eq_true_eq]
  constructor
  · rintro ⟨⟨h1, h2, h3, h4⟩, h5⟩; exact ⟨⟨h1, by omega, h3, h4⟩, h5⟩
  · rintro ⟨⟨h1, h2, h3, h4⟩, h5⟩; exact ⟨⟨h1, by omega, h3, h4⟩, h5⟩
theorem lead_iff {f : F7} {x y : I2} : y ∈ leadsG es f x ↔ ∃ a q, getA es x = some a ∧ q < 7 ∧ f.at q < a.dep q ∧ y = ((q : Int), a.dep q - 1) := by
  constructor
  · intro h
    obtain ⟨a, ha, hy⟩ := leadsG_mem h
    obtain ⟨q, h1, h2, h3⟩ := leads_mem hy
    exact ⟨a, q, ha, h1, h2, h3⟩
  · rintro ⟨a, q, ha, h1, h2, rfl⟩
    unfold leadsG
    rw [ha]
    unfold leads leadsU
    exact List.mem_map.2 ⟨q, List.mem_filter.2 ⟨List.mem_range.2 h1, decide_eq_true h2⟩, rfl⟩
theorem RI.trans {f : F7} {a b c : I2} (h : RI es f a b) (k : RI es f b c) : RI es f a c := by
  induction k with
  | refl => exact h
  | step _ hy ih => exact .step ih hy
/-- what is needed is not behind the front -/
theorem front_not {f : F7} {l : List I2} (h : FirstIs es f (some l)) : ∀ x ∈ l, behind f x = false := by
  obtain ⟨q, hq, _, h1, h2, h3, h4⟩ := h
  intro x hx
  have hr := (h3 x).1 hx
  cases hr with
  | refl => exact h1
  | step _ hy =>
    obtain ⟨a, q2, ha, hq2, hlt, rfl⟩ := lead_iff.1 hy
    cases hb : behind f ((q2 : Int), a.dep q2 - 1) with
    | false => rfl
    | true =>
      have := (behind_iff.1 hb).2
      simp only [Int.toNat_natCast] at this
      omega
theorem front_cl {f : F7} {l : List I2} (h : FirstIs es f (some l)) {x y : I2} (hx : x ∈ l) (hy : y ∈ leadsG es f x) : y ∈ l := by
  obtain ⟨q, hq, _, h1, h2, h3, h4⟩ := h
  exact (h3 y).2 (.step ((h3 x).1 hx) hy)
/-- all slots of a replica from the front on, up to one that is needed, are needed -/
theorem front_down {f : F7} {l : List I2} (ho : Own es) (hs : SelfE es) (hf : FOk f) (h : FirstIs es f (some l)) {x : I2} (hx : x ∈ l) : ∀ (d : Nat) (t : Int), t + d = x.2 → f.at x.1.toNat ≤ t → (x.1, t) ∈ l
  | 0, t, he, _ => by
    have : (x.1, t) = x := by rw [show t = x.2 by omega]
    rw [this]; exact hx
  | d + 1, t, he, hle => by
    have ih := front_down ho hs hf h hx d (t + 1) (by omega) (by omega)
    obtain ⟨_, hg, _⟩ := first_in h
    have hgx := hg _ ih
    obtain ⟨a, ha⟩ : ∃ a, getA es (x.1, t + 1) = some a := by
      cases hq : getA es (x.1, t + 1) with
      | none => rw [hq] at hgx; cases hgx
      | some a => exact ⟨a, rfl⟩
    have hr : RtI x := ho.of_get (hg x hx)
    have hsf := hs _ a ha
    simp only at hsf
    have hq7 : x.1.toNat < 7 := by obtain ⟨h1, h2, _⟩ := hr; omega
    refine front_cl h ih (lead_iff.2 ⟨a, x.1.toNat, ha, hq7, by omega, ?_⟩)
    rw [hsf]
    obtain ⟨h1, _⟩ := hr
    rw [show ((x.1.toNat : Nat) : Int) = x.1 by omega, show t + 1 - 1 = t by omega]
theorem upF_le : ∀ {l : List I2} {f : F7} {q : Nat}, q < 7 → (∀ x ∈ l, RtI x) → (upF f l).at q = f.at q ∨ ∃ x ∈ l, x.1.toNat = q ∧ (upF f l).at q = x.2 + 1
  | [], _, _, _, _ => .inl rfl
  | x :: l, f, q, hq, hr => by
    have h := upF_le (l := l) (f := upF1 f x) hq fun y hy => hr y (by simp [hy])
    rcases h with h | ⟨y, hy, h1, h2⟩
    · have h3 := upF1_at (f := f) (hr x (by simp)) hq
      by_cases e : q = x.1.toNat
      · rw [if_pos e] at h3
        rcases Int.le_total (x.2 + 1) (f.at q) with h4 | h4
        · left
          show (upF (upF1 f x) l).at q = _
          rw [h, h3]; omega
        · right
          refine ⟨x, by simp, e.symm, ?_⟩
          show (upF (upF1 f x) l).at q = _
          rw [h, h3]; omega
      · rw [if_neg e] at h3
        left
        show (upF (upF1 f x) l).at q = _
        rw [h, h3]
    · exact .inr ⟨y, by simp [hy], h1, h2⟩
/-- behind the new front is what was, and what was needed -/
theorem up_behind {f : F7} {l : List I2} (ho : Own es) (hs : SelfE es) (hf : FOk f) (h : FirstIs es f (some l)) {x : I2} : behind (upF f l) x = true ↔ behind f x = true ∨ x ∈ l := by
  obtain ⟨_, hg, _⟩ := first_in h
  have hr : ∀ y ∈ l, RtI y := fun y hy => ho.of_get (hg y hy)
  rw [behind_iff, behind_iff]
  constructor
  · rintro ⟨h1, h2⟩
    have hq7 : x.1.toNat < 7 := by obtain ⟨h1, h2, _⟩ := h1; omega
    by_cases hlt : x.2 < f.at x.1.toNat
    · exact .inl ⟨h1, hlt⟩
    · right
      rcases upF_le (f := f) hq7 hr with e | ⟨y, hy, e1, e2⟩
      · rw [e] at h2; exact absurd h2 hlt
      · have hd := front_down ho hs hf h hy (y.2 - x.2).toNat x.2 (by omega) (by rw [e1]; omega)
        obtain ⟨a, _⟩ := h1
        obtain ⟨b, _⟩ := hr y hy
        have : y.1 = x.1 := by omega
        rw [this] at hd
        exact hd
  · rintro (⟨h1, h2⟩ | hx)
    · exact ⟨h1, by
        have := upF_ge (f := f) hr (k := x.1.toNat) (by obtain ⟨a, b, _⟩ := h1; omega)
        omega⟩
    · exact ⟨hr x hx, upF_mem hr hx⟩
/-- what is behind the front is closed -/
def ClF (es : List (I2 × A8)) (f : F7) : Prop := ∀ x, behind f x = true → ∀ y ∈ leadsG es f0F x, behind f y = true
theorem cl_start : ClF es f0F := fun x hx => by
  have := behind_iff.1 hx
  have h1 := this.1
  have h2 := this.2
  rw [f0_at (by obtain ⟨a, b, _⟩ := h1; omega)] at h2
  obtain ⟨_, _, h3, _⟩ := h1
  omega
theorem lead_cut {f : F7} (hd : Deps es) {x y : I2} (hy : y ∈ leadsG es f0F x) : y ∈ leadsG es f x ∨ (RtI y → behind f y = true) := by
  obtain ⟨a, q, ha, hq, hlt, rfl⟩ := lead_iff.1 hy
  by_cases h : f.at q < a.dep q
  · exact .inl (lead_iff.2 ⟨a, q, ha, hq, h, rfl⟩)
  · right
    intro hr
    rw [behind_iff]
    refine ⟨hr, ?_⟩
    simp only [Int.toNat_natCast]
    omega
theorem lead_rt (hd : Deps es) {f : F7} (hf : FOk f) {x y : I2} (hy : y ∈ leadsG es f x) : RtI y := by
  obtain ⟨a, q, ha, hq, hlt, rfl⟩ := lead_iff.1 hy
  have := hd x a ha q hq
  have := hf q hq
  exact ⟨by show (0 : Int) ≤ q; omega, by show (q : Int) < 7; omega, by show 0 ≤ a.dep q - 1; omega, by show a.dep q - 1 < 1024; omega⟩
theorem f0_ok : FOk f0F := fun q hq => by rw [f0_at hq]; omega
theorem cl_next {f : F7} {l : List I2} (ho : Own es) (hs : SelfE es) (hf : FOk f) (h : FirstIs es f (some l)) (hc : ClF es f) : ClF es (upF f l) := by
  intro x hx y hy
  rw [up_behind ho hs hf h] at hx ⊢
  rcases hx with hx | hx
  · exact .inl (hc x hx y hy)
  · rcases lead_cut ho.deps hy with q | q
    · exact .inr (front_cl h hx q)
    · exact .inl (q (lead_rt ho.deps f0_ok hy))
theorem cl_reach {f : F7} (hc : ClF es f) {x y : I2} (hx : behind f x = true) (r : RI es f0F x y) : behind f y = true := by
  induction r with
  | refl => exact hx
  | step _ hy ih => exact hc _ ih _ hy
/-- who leads to one that is not behind the front does so past the front -/
theorem reach_cut {f : F7} (ho : Own es) (hc : ClF es f) {x y : I2} (r : RI es f0F x y) (hy : behind f y = false) : RI es f x y := by
  induction r with
  | refl => exact .refl
  | step t h ih =>
    rename_i z y
    have hz : behind f z = false := by
      cases hb : behind f z with
      | false => rfl
      | true => have := hc z hb _ h; rw [hy] at this; cases this
    refine .step (ih hz) ?_
    rcases lead_cut (f := f) ho.deps h with q | q
    · exact q
    · have := q (lead_rt ho.deps f0_ok h)
      rw [hy] at this
      cases this
theorem reach_f0 {f : F7} (hf : FOk f) {x y : I2} (r : RI es f x y) : RI es f0F x y := by
  induction r with
  | refl => exact .refl
  | step t h ih =>
    refine .step ih ?_
    obtain ⟨a, q, ha, hq, hlt, e⟩ := lead_iff.1 h
    exact lead_iff.2 ⟨a, q, ha, hq, by rw [f0_at hq]; have := (hf q hq).1; omega, e⟩
/-- leads to, by names and by places -/
theorem place_edge {Lk : List I2} {f : F7} {i k : Nat} {x y : I2} (hx : Lk[i]? = some x) (hy : y ∈ leadsG es f x) (hk : Lk[k]? = some y) (hn : Lk.Nodup) : k ∈ nxL es f Lk i := by
  unfold nxL
  rw [hx]
  unfold nextP
  refine List.mem_filterMap.2 ⟨y, hy, ?_⟩
  rw [if_pos (List.mem_of_getElem? hk)]
  obtain ⟨hl, rfl⟩ := List.getElem?_eq_some_iff.1 hk
  rw [List.Nodup.idxOf_getElem hn]
theorem edge_place {Lk : List I2} {f : F7} {i k : Nat} (h : k ∈ nxL es f Lk i) : ∃ x y, Lk[i]? = some x ∧ Lk[k]? = some y ∧ y ∈ leadsG es f x := by
  unfold nxL at h
  split at h
  · rename_i x hx
    unfold nextP at h
    obtain ⟨y, hy, e⟩ := List.mem_filterMap.1 h
    split at e
    · rename_i hm
      cases e
      exact ⟨x, y, hx, by rw [List.getElem?_eq_getElem (List.idxOf_lt_length_of_mem hm), List.getElem_idxOf], hy⟩
    · cases e
  · cases h
theorem mem_of_RI {Lk : List I2} {f : F7} {x z : I2} (hx : x ∈ Lk) (hcl : ∀ z ∈ Lk, ∀ y ∈ leadsG es f z, (getA es y).isSome = true → y ∈ Lk) (r : RI es f x z) : (getA es z).isSome = true → z ∈ Lk := by
  induction r with
  | refl => exact fun _ => hx
  | step t h ih =>
    intro hg
    refine hcl _ (ih ?_) _ h hg
    obtain ⟨a, ha, _⟩ := leadsG_mem h
    rw [ha]; rfl
theorem R_of_RI {Lk : List I2} {f : F7} {i : Nat} {x : I2} (hn : Lk.Nodup) (hx : Lk[i]? = some x) (hcl : ∀ z ∈ Lk, ∀ y ∈ leadsG es f z, (getA es y).isSome = true → y ∈ Lk) {y : I2} (r : RI es f x y) : ∀ {k : Nat}, Lk[k]? = some y → Tar.R (nxL es f Lk) i k := by
  induction r with
  | refl =>
    intro k hk
    obtain ⟨h1, e1⟩ := List.getElem?_eq_some_iff.1 hx
    obtain ⟨h2, e2⟩ := List.getElem?_eq_some_iff.1 hk
    have : i = k := by
      rcases Nat.lt_trichotomy i k with q | q | q
      · exact absurd (by rw [e1, e2]) (List.pairwise_iff_getElem.1 hn i k h1 h2 q)
      · exact q
      · exact absurd (by rw [e1, e2]) (List.pairwise_iff_getElem.1 hn k i h2 h1 q)
    rw [this]
    exact .refl _
  | step t h ih =>
    intro k hk
    obtain ⟨m, hm, e⟩ := List.mem_iff_getElem.1 (mem_of_RI (List.mem_of_getElem? hx) hcl t (by
      obtain ⟨a, ha, _⟩ := leadsG_mem h
      rw [ha]; rfl))
    exact (ih (k := m) (by rw [List.getElem?_eq_getElem hm, e])).trans (.one (place_edge (by rw [List.getElem?_eq_getElem hm, e]) h hk hn))
theorem RI_of_R {Lk : List I2} {f : F7} {i k : Nat} (r : Tar.R (nxL es f Lk) i k) : ∀ {x y : I2}, Lk[i]? = some x → Lk[k]? = some y → RI es f x y := by
  induction r with
  | refl _ =>
    intro x y hx hy
    rw [hx] at hy
    cases hy
    exact .refl
  | step h _ ih =>
    intro x y hx hy
    obtain ⟨x2, z, h1, h2, h3⟩ := edge_place h
    rw [hx] at h1
    cases h1
    exact (RI.step .refl h3).trans (ih h2 hy)
/-- an instance's number -/
def seqE (es : List (I2 × A8)) (x : I2) : Int := ((getA es x).getD A8.zero).s
theorem ordG_pairs {f : F7} {l : List I2} (hs : l.Pairwise ltID) (hcl : ∀ z ∈ l, ∀ y ∈ leadsG es f z, (getA es y).isSome = true → y ∈ l) :
    (ordG es f l).Pairwise fun o x => RI es f o x → RI es f x o ∧ (seqE es o < seqE es x ∨ seqE es o = seqE es x ∧ ltID o x) := by
  have hn : l.Nodup := hs.imp fun q e => by rw [e] at q; exact lt_irr q
  have hp := Tar.ordR_pairs (nx := nxL es f l) (n := l.length) (fun x _ y hy => nxL_lt hy) (sqE (enL es l))
  have hm : ∀ p ∈ ordN es f l, p < l.length := fun p hp => List.mem_range.1 ((ordN_perm es f l).mem_iff.1 hp)
  unfold ordG
  rw [List.pairwise_map]
  refine (List.Pairwise.and_mem.1 hp).imp ?_
  rintro p q ⟨h1, h2, h⟩ r
  obtain ⟨x, hx⟩ : ∃ x, l[p]? = some x := ⟨_, List.getElem?_eq_getElem (hm p h1)⟩
  obtain ⟨y, hy⟩ : ∃ y, l[q]? = some y := ⟨_, List.getElem?_eq_getElem (hm q h2)⟩
  have ex : idK (enL es l) p = x := enL_id hx
  have ey : idK (enL es l) q = y := enL_id hy
  have sx : sqE (enL es l) p = seqE es x := by unfold sqE enL seqE; rw [hx]
  have sy : sqE (enL es l) q = seqE es y := by unfold sqE enL seqE; rw [hy]
  rw [ex, ey] at r ⊢
  obtain ⟨g1, g2⟩ := h (R_of_RI hn hx hcl r hy)
  refine ⟨RI_of_R g1 hy hx, ?_⟩
  unfold Tar.ltS at g2
  rw [sx, sy] at g2
  refine g2.imp id fun ⟨a, b⟩ => ⟨a, ?_⟩
  obtain ⟨hp', rfl⟩ := List.getElem?_eq_some_iff.1 hx
  obtain ⟨hq', rfl⟩ := List.getElem?_eq_some_iff.1 hy
  exact List.pairwise_iff_getElem.1 hs p q hp' hq' b
theorem run_pairs (ho : Own es) (hs : SelfE es) {f g : F7} {got : List I2} (h : RunR es f got g) : FOk f → ClF es f →
    (∀ x ∈ got, (getA es x).isSome = true ∧ behind f x = false ∧ behind g x = true) ∧ got.Nodup ∧ got.Pairwise (fun o x => RI es f0F o x → RI es f0F x o ∧ (seqE es o < seqE es x ∨ seqE es o = seqE es x ∧ ltID o x)) ∧ (∀ x, behind f x = true → behind g x = true) := by
  induction h with
  | stop h => exact fun _ _ => ⟨nofun, .nil, .nil, fun _ h => h⟩
  | go h t ih =>
    rename_i f g l r
    intro hf hc
    obtain ⟨i1, i2, i3, i4⟩ := ih (up_less ho hf h).1 (cl_next ho hs hf h hc)
    obtain ⟨p1, p2, _⟩ := first_in h
    have hmem : ∀ x, x ∈ ordG es f l ↔ x ∈ l := fun x => (ordG_perm es f l).mem_iff
    have hup := fun x => up_behind ho hs hf h (x := x)
    have hnr : ∀ x ∈ r, x ∉ l ∧ behind f x = false := fun x hx => by
      have h1 := (i1 x hx).2.1
      constructor
      · intro q
        rw [(hup x).2 (.inr q)] at h1
        cases h1
      · cases hb : behind f x with
        | false => rfl
        | true => rw [(hup x).2 (.inl hb)] at h1; cases h1
    have hln : (ordG es f l).Nodup := (ordG_perm es f l).nodup_iff.2 (p1.imp fun q e => by rw [e] at q; exact lt_irr q)
    refine ⟨fun x hx => ?_, List.nodup_append.2 ⟨hln, i2, fun x hx y hy e => ?_⟩, List.pairwise_append.2 ⟨?_, i3, fun x hx y hy rr => ?_⟩, fun x hx => i4 x ((hup x).2 (.inl hx))⟩
    · rcases List.mem_append.1 hx with q | q
      · rw [hmem] at q
        exact ⟨p2 x q, front_not h x q, i4 x ((hup x).2 (.inr q))⟩
      · exact ⟨(i1 x q).1, (hnr x q).2, (i1 x q).2.2⟩
    · subst e
      exact (hnr x hy).1 ((hmem x).1 hx)
    · refine (List.Pairwise.and_mem.1 (ordG_pairs p1 fun z hz y hy _ => front_cl h hz hy)).imp ?_
      rintro o x ⟨h1, h2, hp⟩ rr
      obtain ⟨g1, g2⟩ := hp (reach_cut ho hc rr (front_not h x ((hmem x).1 h2)))
      exact ⟨reach_f0 hf g1, g2⟩
    · have h1 := cl_reach (cl_next ho hs hf h hc) ((hup x).2 (.inr ((hmem x).1 hx))) rr
      rw [(i1 y hy).2.1] at h1
      cases h1
end
end Go.Proofs.Ytgicohkmfbbbdaa.Gr
end

section
namespace Go.Proofs.Ytgicohkmfbbbdaa.Ref
open _root_.Go.Proofs.Ytgicohkmfbbbdaa.Gr
open Go.RowKit
set_option linter.unusedSimpArgs false
set_option linter.unusedVariables false

/-- a row of truths: its block -/
structure Br where
  g : Nat
  bc : Nat
  bs : List Bool
def Br.v (x : Br) : Value := .slice (some ⟨x.g, 0, none⟩) x.bs.length x.bc
def Br.cells (x : Br) : List Value := [.slice (some ⟨x.g, 0, none⟩) x.bs.length x.bc]
theorem Br.cells_len (x : Br) : x.cells.length = 1 := rfl
theorem Br.one (x : Br) : ∀ u ∈ x.cells, u.oneCell' = true := fun u hu => by rw [List.mem_singleton.1 hu]; rfl
def boolL (l : List Bool) : List Value := l.map Value.bool
theorem boolL_len (l : List Bool) : (boolL l).length = l.length := by simp [boolL]
theorem boolL_flat (l : List Bool) : boolL l = l.flatMap fun b => [Value.bool b] := by
  induction l with
  | nil => rfl
  | cons x l ih => rw [List.flatMap_cons, ← ih]; rfl
theorem boolL_get {l : List Bool} {k : Nat} {b : Bool} (h : l[k]? = some b) : (boolL l)[k]? = some (.bool b) := by unfold boolL; rw [List.getElem?_map, h]; rfl
theorem boolL_set (l : List Bool) (k : Nat) (b : Bool) : (boolL l).set k (.bool b) = boolL (l.set k b) := by unfold boolL; rw [List.map_set]
abbrev rowB (v : Value) (l : List Bool) : Part := Part.row 4 1 v l.length (boolL l)
def flatB (T : List Br) : List Value := T.flatMap Br.cells
theorem flatB_len (T : List Br) : (flatB T).length = T.length * 1 := flat_len _ _ Br.cells_len _
theorem flatB_get {T : List Br} {i : Nat} {x : Br} (h : T[i]? = some x) : (flatB T)[i]? = some x.v := by
  have := flat_at Br.cells 1 Br.cells_len T i x h 0 (by omega)
  rw [Nat.mul_one, Nat.add_zero] at this
  exact this
abbrev rowT (v : Value) (T : List Br) : Part := Part.row 60 1 v T.length (flatB T)
theorem rowT_snoc (v : Value) (T : List Br) (x : Br) : Part.row 60 1 v (T.length + 1) (flatB T ++ x.cells) = rowT v (T ++ [x]) := by
  unfold rowT
  rw [List.length_append]
  simp [flatB]
def restB (T : List Br) : Part := Part.all (T.map fun x => rowB x.v x.bs)
theorem eqvB (l1 l2 : List Br) (d : Br) (F : List Part) : Eqv (restB (l1 ++ d :: l2) :: F) (rowB d.v d.bs :: restB (l1 ++ l2) :: F) := by
  refine (Eqv.all _ F).trans ?_
  have p1 : ((l1 ++ d :: l2).map (fun x => rowB x.v x.bs) ++ F).Perm (rowB d.v d.bs :: ((l1 ++ l2).map (fun x => rowB x.v x.bs) ++ F)) := by
    simp only [List.map_append, List.map_cons, List.append_assoc, List.cons_append]
    exact List.perm_middle
  refine (Eqv.perm p1).trans ?_
  exact (Eqv.all ((l1 ++ l2).map (fun x => rowB x.v x.bs)) F).symm.prepend [rowB d.v d.bs]
theorem outB {L0 L F : List Part} {w0 w : World} {N l1 l2 : List Br} {d : Br} (q : N = l1 ++ d :: l2) (h : At L0 w0 L w) (s : Sel (restB N) L F) : At L0 w0 (rowB d.v d.bs :: restB (l1 ++ l2) :: F) w := (h.take s).to (by rw [q]; exact eqvB l1 l2 d F)
theorem inB {L0 L F G : List Part} {w0 w : World} {N l1 l2 : List Br} {d : Br} (q : N = l1 ++ d :: l2) (h : At L0 w0 L w) (s : Sel (rowB d.v d.bs) L F) (r : Sel (restB (l1 ++ l2)) F G) : At L0 w0 (restB N :: G) w := (h.perm (s.perm.trans (r.perm.cons _))).to (by rw [q]; exact (eqvB l1 l2 d G).symm)
theorem nilT {L0 L : List Part} {w0 w : World} (h : At L0 w0 L w) : At L0 w0 (rowT (.slice none 0 0) [] :: restB [] :: L) w := (h.to (Eqv.all [] L).symm).row_nil 60 1
theorem infoB : (Try.prog.info? 4).map (fun i => (i.zero, i.size, i.bytes)) = some (some (.bool false), 1, 1) := by kernel_rfl
theorem infoBs : (Try.prog.info? 60).map (fun i => (i.zero, i.size, i.bytes)) = some (some (.slice none 0 0), 1, 24) := by kernel_rfl
theorem madeB {L0 F : List Part} {w0 w : World} {v : Value} {n : Nat} (h : At L0 w0 (Part.row 4 1 v n (madeCells (Value.cells (.bool false)) (n * 1)).toList :: F) w) : At L0 w0 (rowB v (List.replicate n false) :: F) w := by
  rw [made_flat (fun b : Bool => [Value.bool b]) 1 (fun _ => rfl) false (Value.cells (.bool false)) rfl n, ← boolL_flat] at h
  have e : rowB v (List.replicate n false) = Part.row 4 1 v n (boolL (List.replicate n false)) := by unfold rowB; rw [List.length_replicate]
  rw [e]
  exact h
section
variable {P : Program} {o : Oper} {a : Act} {L0 L F : List Part} {w0 : World} {K : Act → Prop}
theorem run_load_cell {w : World} {ty : TypeId} {x : Operand} (hop : o.op = .load ty x) {b j : Nat} (hx : a.eval x = .pointer (some ⟨b, j, none⟩)) (hu : (P.underlying ty).map (·.isRow) = some false) {v : Value} (hc : w.cell? ⟨b, j, none⟩ = some v) : (execOp a.eval o).run P w = .ok (.value v) w := by
  obtain ⟨d, hu, hd⟩ := Option.map_eq_some_iff.1 hu
  have hagg : (isAgg ty).run P w = .ok false w := by
    unfold isAgg
    rw [Sem.run_bind, run_underlying hu w]
    cases d <;> simp_all
  simp [execOp, hop, hx, Instr.loadAt, Instr.sureAddr, loadVar, Sem.run_bind, hagg, Result.andThen, run_load, hc]
theorem reads_cell {w : World} {g n cap j : Nat} {xs : List Value} {v : Value} (h : Reads w (.slice (some ⟨g, 0, none⟩) n cap) n xs) (hv : xs[j]? = some v) : w.cell? ⟨g, j, none⟩ = some v := by
  obtain ⟨ax, c, e, _, hr⟩ := h
  cases e
  obtain ⟨b, off, e2, hc⟩ := hr j v hv
  cases e2
  rwa [Nat.zero_add] at hc
/-- a cell of a row -/
theorem quiet_row1_at {ty e : TypeId} {x : Operand} {g n cap j : Nat} {xs : List Value} {v : Value} (hop : o.op = .load ty x) (hx : a.eval x = .pointer (some ⟨g, j, none⟩)) (s : Sel (Part.row e 1 (.slice (some ⟨g, 0, none⟩) n cap) n xs) L F) (hu : (P.underlying ty).map (·.isRow) = some false) (hv : xs[j]? = some v)
    (hk : K (a.put o.dst v)) : o.quiet P a (Cl L0 w0 L) K := quiet_at v (fun w' hw => run_load_cell hop hx hu (reads_cell ((show At L0 w0 L w' from hw).row_reads s) hv)) hk
theorem pool_cell {w : World} {T : List Br} {i k : Nat} {d : Br} {b : Bool} (h : At L0 w0 L w) (s : Sel (restB T) L F) (hi : T[i]? = some d) (hb : d.bs[k]? = some b) : w.cell? ⟨d.g, k, none⟩ = some (.bool b) := by
  have h1 := outB (split_at hi) h s
  exact reads_cell (cap := d.bc) (h1.row_reads (e := 4) (size := 1) (v := d.v) (n := d.bs.length) (xs := boolL d.bs) .here) (boolL_get hb)
/-- a cell of a table -/
theorem quiet_pool_at {ty : TypeId} {x : Operand} {T : List Br} {i k : Nat} {d : Br} {b : Bool} (hop : o.op = .load ty x) (hx : a.eval x = .pointer (some ⟨d.g, k, none⟩)) (s : Sel (restB T) L F) (hu : (P.underlying ty).map (·.isRow) = some false) (hi : T[i]? = some d) (hb : d.bs[k]? = some b)
    (hk : K (a.put o.dst (.bool b))) : o.quiet P a (Cl L0 w0 L) K := quiet_at (.bool b) (fun w' hw => run_load_cell hop hx hu (pool_cell (show At L0 w0 L w' from hw) s hi hb)) hk
end
/-- a table, as a function -/
def tF (T : List Br) (i k : Nat) : Bool := ((T[i]?).bind fun x => x.bs[k]?).getD false
theorem tF_get {T : List Br} {i k : Nat} {x : Br} {b : Bool} (h : T[i]? = some x) (hb : x.bs[k]? = some b) : tF T i k = b := by unfold tF; rw [h]; show (x.bs[k]?).getD false = b; rw [hb]; rfl
/-- a table of so many -/
def Sq (T : List Br) (n : Nat) : Prop := T.length = n ∧ ∀ (i : Nat) (x : Br), T[i]? = some x → x.bs.length = n
theorem Sq.cell {T : List Br} {n i k : Nat} (h : Sq T n) (hi : i < n) (hk : k < n) : ∃ x, T[i]? = some x ∧ x.bs[k]? = some (tF T i k) := by
  obtain ⟨x, hx⟩ : ∃ x, T[i]? = some x := ⟨_, List.getElem?_eq_getElem (by rw [h.1]; exact hi)⟩
  obtain ⟨b, hb⟩ : ∃ b, x.bs[k]? = some b := ⟨_, List.getElem?_eq_getElem (by rw [h.2 i x hx]; exact hk)⟩
  exact ⟨x, hx, by rw [tF_get hx hb]; exact hb⟩
theorem Sq.set {T : List Br} {n i k : Nat} {x : Br} (h : Sq T n) (hx : T[i]? = some x) (hk : k < n) (b : Bool) : Sq (T.set i ⟨x.g, x.bc, x.bs.set k b⟩) n ∧ ∀ p q, p < n → q < n → tF (T.set i ⟨x.g, x.bc, x.bs.set k b⟩) p q = Tar.up2 (tF T) i k b p q := by
  have hi := (List.getElem?_eq_some_iff.1 hx).1
  have hxl := h.2 i x hx
  refine ⟨⟨by rw [List.length_set]; exact h.1, fun j y hy => ?_⟩, fun p q hp hq => ?_⟩
  · by_cases e : i = j
    · subst e
      rw [List.getElem?_set_self hi] at hy
      cases hy
      rw [List.length_set]
      exact hxl
    · rw [List.getElem?_set_ne e] at hy
      exact h.2 j y hy
  · unfold Tar.up2
    obtain ⟨y, hy, hyq⟩ := h.cell hp hq
    by_cases e : p = i
    · subst e
      rw [hx] at hy
      cases hy
      by_cases e2 : q = k
      · subst e2
        rw [if_pos ⟨rfl, rfl⟩]
        exact tF_get (List.getElem?_set_self hi) (List.getElem?_set_self (by omega))
      · rw [if_neg fun q => e2 q.2]
        exact tF_get (List.getElem?_set_self hi) (by rw [show (⟨x.g, x.bc, x.bs.set k b⟩ : Br).bs = x.bs.set k b from rfl, List.getElem?_set_ne (fun z => e2 z.symm)]; exact hyq)
    · rw [if_neg fun q => e q.1]
      exact tF_get (by rw [List.getElem?_set_ne (fun z => e z.symm)]; exact hy) hyq
theorem flatB_set {T : List Br} {i : Nat} {x : Br} (h : T[i]? = some x) (bs : List Bool) (hl : bs.length = x.bs.length) : flatB (T.set i ⟨x.g, x.bc, bs⟩) = flatB T := by
  have e : ∀ K : List Br, flatB K = (K.map Br.v) := fun K => by
    unfold flatB
    induction K with
    | nil => rfl
    | cons y K ih => rw [List.flatMap_cons, ih]; rfl
  rw [e, e, List.map_set, show (⟨x.g, x.bc, bs⟩ : Br).v = x.v from by unfold Br.v; rw [hl], set_same (by rw [List.getElem?_map, h]; rfl)]
theorem fill_congr {nx : Nat → List Nat} {n m i k : Nat} {t s : Nat → Nat → Bool} (h : Tar.Fill nx n m i k t) (e : ∀ p q, p < n → q < n → s p q = t p q) : Tar.Fill nx n m i k s :=
  ⟨fun x y hx hy q => h.ok x y hx hy (by rw [← e x y hx hy]; exact q), fun x y hx hy q => by rw [e x y hx hy]; exact h.low x y hx hy q, fun x y h1 hx hy q => by rw [e x y hx hy]; exact h.row x y h1 hx hy q, fun y h1 hy hi q => by rw [e i y hi hy]; exact h.cell y h1 hy hi q⟩
end Go.Proofs.Ytgicohkmfbbbdaa.Ref
end
