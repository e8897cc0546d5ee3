/- Small words on rows that a call has made. No program in sight. -/
import Derived.Test.YtpbeennielgogaaDoorBase
namespace Go.Proofs.YtpbeennielgogaaDoor
open Go.RowKit
set_option linter.unusedVariables false
set_option linter.unusedSimpArgs false
theorem Ext.drewN {a b : World} (h : Ext a b) (n : Nat) : Ext a (b.drewN n) := ⟨h.os, h.tape, h.output, h.size, h.block⟩
theorem Exc.drewN {S : Nat → Prop} {a b : World} (h : Exc S a b) (n : Nat) : Exc S a (b.drewN n) := ⟨h.os, h.tape, h.output, h.size, h.block⟩
theorem own_block_le {w : World} {base : Nat} {T : TypeId} {size : Nat} {v : Value} {n : Nat} {xs : List Value} (h : w.ownsRow base T size v n xs) : ∀ k, v.ownBlock = some k → base ≤ k := by
  obtain ⟨_, ⟨rfl, _⟩ | ⟨g, cap, cur, rfl, hg, _⟩⟩ := h
  · intro k hk; simp [Value.ownBlock] at hk
  · intro k hk; simp [Value.ownBlock] at hk; omega
theorem Ext.grown {a w w' : World} {row : Option Nat} (h : Ext a w) (hg : w.grownBy w' row) (hr : ∀ k, row = some k → a.heap.size ≤ k) : Ext a w' := Below.grown h hg (Below.size h) hr
theorem one_cell {w : World} {v : Value} {T : TypeId} (j : Nat) (u : Value) (h : [v][j]? = some u) : (w.alloc (.cells #[v] T)).cell? ((⟨w.heap.size, 0, none⟩ : Addr).add j) = some u := by
  cases j with
  | zero => simp at h; subst h; simp [Addr.add]
  | succ j => simp at h
theorem grown_base {w w' : World} {T : TypeId} {c : Array Value} {base : Nat} (h : base ≤ w.heap.size) : base ≤ (w.alloc (.cells c T)).heap.size := by simp; omega
/-- an owned row of one-cell elements: its block -/
theorem own_open {w : World} {base : Nat} {T : TypeId} {v : Value} {n : Nat} {xs : List Value} (h : w.ownsRow base T 1 v n xs) (hn : 0 < n) :
    ∃ g cap c, v = .slice (some ⟨g, 0, none⟩) n cap ∧ base ≤ g ∧ BlockIs w g c T ∧ n ≤ cap ∧ c.length = cap ∧ (∀ j, j < n → c[j]? = xs[j]?) := by
  obtain ⟨hl, ⟨_, h0⟩ | ⟨g, cap, cur, hv, hg, hh, hc, _, hs, ht⟩⟩ := h
  · omega
  · refine ⟨g, cap, cur.toList, hv, hg, by unfold BlockIs; simpa using hh, hc, by simpa using hs, fun j hj => ?_⟩
    rw [← ht, List.getElem?_take, if_pos (by omega)]
theorem BlockIs.three {w : World} {b : Nat} {x y z : Value} {T : TypeId} (h : BlockIs w b [x, y, z] T) :
    w.cell? ⟨b, 0, none⟩ = some x ∧ w.cell? ⟨b, 1, none⟩ = some y ∧ w.cell? ⟨b, 2, none⟩ = some z ∧ w.frozen? ⟨b, 0, none⟩ = false ∧ w.frozen? ⟨b, 1, none⟩ = false ∧ w.frozen? ⟨b, 2, none⟩ = false ∧ b < w.heap.size :=
  ⟨by rw [h.cell]; rfl, by rw [h.cell]; rfl, by rw [h.cell]; rfl, h.free _, h.free _, h.free _, h.lt⟩
theorem BlockIs.two {w : World} {b : Nat} {x y : Value} {T : TypeId} (h : BlockIs w b [x, y] T) :
    w.cell? ⟨b, 0, none⟩ = some x ∧ w.cell? ⟨b, 1, none⟩ = some y ∧ w.frozen? ⟨b, 0, none⟩ = false ∧ w.frozen? ⟨b, 1, none⟩ = false ∧ b < w.heap.size :=
  ⟨by rw [h.cell]; rfl, by rw [h.cell]; rfl, h.free _, h.free _, h.lt⟩
theorem BlockIs.new {w : World} {c : List Value} {T : TypeId} {b : Nat} (hb : b = w.heap.size) : BlockIs (w.alloc (.cells c.toArray T)) b c T := by subst hb; exact BlockIs.alloc w c T
end Go.Proofs.YtpbeennielgogaaDoor
