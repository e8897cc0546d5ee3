/- What a net is in memory: its limit, its frames, each with data of its own. -/
import Derived.Test.YtdbhndieommkaaaBase2
import Derived.Test.YtdbhndieommkaaaProg
namespace Go.Proofs.Ytdbhndieommkaaa.NetW
open Go.RowKit

/-- a slice of bytes reads as a list -/
def BytesAt (w : World) (v : Value) (xs : List Int) : Prop :=
  ∃ a cap, v = .slice a xs.length cap ∧ (a = none → cap = 0) ∧ ∀ j, j < xs.length → ∃ b off, a = some ⟨b, off, none⟩ ∧ w.cell? ⟨b, off + j, none⟩ = some (.int .u8 (xs.getD j 0))
theorem BytesAt.ext {w w' : World} {v : Value} {xs : List Int} (h : BytesAt w v xs) (he : Ext w w') : BytesAt w' v xs := by
  obtain ⟨a, cap, hv, hn, hc⟩ := h
  refine ⟨a, cap, hv, hn, fun j hj => ?_⟩
  obtain ⟨b, off, ha, hx⟩ := hc j hj
  exact ⟨b, off, ha, he.cell_of hx⟩
/-- bytes in a row that was made for them -/
def Bytes (w : World) (v : Value) (xs : List Int) : Prop := w.ownsRow 0 5 1 v xs.length (xs.map (Value.int .u8))
theorem Bytes.same {w w' : World} {v : Value} {xs : List Int} (h : Bytes w v xs) (he : ∀ g, v.ownBlock = some g → w'.heap[g]? = w.heap[g]?) : Bytes w' v xs := by
  obtain ⟨h1, h2⟩ := h
  refine ⟨h1, ?_⟩
  rcases h2 with h2 | ⟨g, cap, cur, hv, hg, hh, r⟩
  · exact .inl h2
  · exact .inr ⟨g, cap, cur, hv, hg, by rw [he g (by rw [hv]; rfl)]; exact hh, r⟩
theorem Bytes.lt {w : World} {v : Value} {xs : List Int} (h : Bytes w v xs) {g : Nat} (hg : v.ownBlock = some g) : g < w.heap.size := by
  obtain ⟨_, ⟨rfl, _⟩ | ⟨g', cap, cur, rfl, _, hh, _⟩⟩ := h
  · simp [Value.ownBlock] at hg
  · simp [Value.ownBlock] at hg
    subst hg
    rcases Nat.lt_or_ge g' w.heap.size with h | h
    · exact h
    · rw [Array.getElem?_eq_none h] at hh; cases hh
theorem Bytes.ext {w w' : World} {v : Value} {xs : List Int} (h : Bytes w v xs) (he : Ext w w') : Bytes w' v xs := h.same fun g hg => Below.block he g (h.lt hg)
theorem Bytes.at {w : World} {v : Value} {xs : List Int} (h : Bytes w v xs) : BytesAt w v xs := by
  obtain ⟨h1, ⟨rfl, h0⟩ | ⟨g, cap, cur, rfl, _, hh, hc, _, hs, ht⟩⟩ := h
  · have : xs = [] := List.eq_nil_of_length_eq_zero h0
    subst this
    exact ⟨none, 0, rfl, fun _ => rfl, fun j hj => by simp at hj⟩
  · refine ⟨some ⟨g, 0, none⟩, cap, rfl, fun h => by simp at h, fun j hj => ⟨g, 0, rfl, ?_⟩⟩
    have e : cur.toList[j]? = (xs.map (Value.int .u8))[j]? := by rw [← ht, List.getElem?_take, if_pos (by omega)]
    simp only [Nat.zero_add, World.cell?, hh]
    simp only [Option.isSome_none, Bool.false_eq_true, if_false]
    rw [← Array.getElem?_toList, e]
    simp [List.getD, List.getElem?_eq_getElem hj]

structure Fr where
  fro : Int
  too : Int
  dv : Value
  data : List Int
def Fr.cells (f : Fr) : List Value := [.int .i64 f.fro, .int .i64 f.too, f.dv]
def flat (fs : List Fr) : List Value := fs.flatMap Fr.cells
theorem flat_snoc (fs : List Fr) (f : Fr) : flat (fs ++ [f]) = flat fs ++ f.cells := by simp [flat]
theorem flat_length (fs : List Fr) : (flat fs).length = fs.length * 3 := by
  induction fs with
  | nil => rfl
  | cons f r ih => simp only [flat, List.flatMap_cons, List.length_append, List.length_cons] at *; simp only [Fr.cells, List.length_cons, List.length_nil] at *; omega
theorem flat_at : ∀ (fs : List Fr) (i j : Nat) (hi : i < fs.length), j < 3 → (flat fs)[i * 3 + j]? = (fs[i].cells)[j]?
  | f :: r, 0, j, _, hj => by simp only [flat, List.flatMap_cons]; rw [List.getElem?_append_left (by simp [Fr.cells]; omega)]; simp
  | f :: r, i + 1, j, hi, hj => by
    have := flat_at r i j (by simpa using hi) hj
    simp only [flat, List.flatMap_cons] at *
    rw [List.getElem?_append_right (by simp [Fr.cells]; omega)]
    simp only [Fr.cells, List.length_cons, List.length_nil] at *
    rw [show (i + 1) * 3 + j - (0 + 1 + 1 + 1) = i * 3 + j by omega, this]; simp

/-- p is a net of some limit, with these frames, in the row lv. -/
structure NetIs (w : World) (p : Nat) (limit : Int) (fs : List Fr) (lv : Value) : Prop where
  head : BlockIs w p [.int .i64 limit, lv] 85
  row : w.ownsRow 0 41 3 lv fs.length (flat fs)
  data : ∀ f ∈ fs, Bytes w f.dv f.data
  lp : lv.ownBlock ≠ some p
  dp : ∀ f ∈ fs, f.dv.ownBlock ≠ some p
  dl : ∀ f ∈ fs, ∀ g, f.dv.ownBlock = some g → lv.ownBlock ≠ some g
  dd : fs.Pairwise fun a b => ∀ g, a.dv.ownBlock = some g → b.dv.ownBlock ≠ some g
/-- the blocks that a net may write -/
def Foot (p : Nat) (lv : Value) (k : Nat) : Prop := k = p ∨ lv.ownBlock = some k
theorem ownsRow_same {w w' : World} {base : Nat} {T : TypeId} {size : Nat} {v : Value} {n : Nat} {xs : List Value} (h : w.ownsRow base T size v n xs) (he : ∀ g, v.ownBlock = some g → w'.heap[g]? = w.heap[g]?) : w'.ownsRow base T size v n xs := by
  obtain ⟨h1, h2⟩ := h
  refine ⟨h1, ?_⟩
  rcases h2 with h2 | ⟨g, cap, cur, hv, hg, hh, r⟩
  · exact .inl h2
  · exact .inr ⟨g, cap, cur, hv, hg, by rw [he g (by rw [hv]; rfl)]; exact hh, r⟩
theorem ownsRow_lt {w : World} {base : Nat} {T : TypeId} {size : Nat} {v : Value} {n : Nat} {xs : List Value} (h : w.ownsRow base T size v n xs) {g : Nat} (hg : v.ownBlock = some g) : g < w.heap.size := by
  obtain ⟨_, ⟨rfl, _⟩ | ⟨g', cap, cur, rfl, _, hh, _⟩⟩ := h
  · simp [Value.ownBlock] at hg
  · simp [Value.ownBlock] at hg
    subst hg
    rcases Nat.lt_or_ge g' w.heap.size with h | h
    · exact h
    · rw [Array.getElem?_eq_none h] at hh; cases hh
theorem NetIs.ext {w w' : World} {p : Nat} {limit : Int} {fs : List Fr} {lv : Value} (h : NetIs w p limit fs lv) (e : Ext w w') : NetIs w' p limit fs lv :=
  ⟨h.head.ext e, ownsRow_same h.row fun g hg => Below.block e g (ownsRow_lt h.row hg), fun f hf => (h.data f hf).ext e, h.lp, h.dp, h.dl, h.dd⟩
/-- where other blocks alone were written, a net is as it was -/
theorem NetIs.exc {S : Nat → Prop} {w w' : World} {p : Nat} {limit : Int} {fs : List Fr} {lv : Value} (h : NetIs w p limit fs lv) (e : Exc S w w') (hp : ¬ S p) (hl : ∀ g, lv.ownBlock = some g → ¬ S g) (hd : ∀ f ∈ fs, ∀ g, f.dv.ownBlock = some g → ¬ S g) : NetIs w' p limit fs lv :=
  ⟨h.head.exc e hp, ownsRow_same h.row fun g hg => e.block g (ownsRow_lt h.row hg) (hl g hg), fun f hf => (h.data f hf).same fun g hg => e.block g ((h.data f hf).lt hg) (hd f hf g hg), h.lp, h.dp, h.dl, h.dd⟩
end Go.Proofs.Ytdbhndieommkaaa.NetW
