/- What a step of a net and of the document's frames keeps. No walk here. -/
import Derived.Test.YtdbhndieommkaaaNetP5
namespace Go.Proofs.Ytdbhndieommkaaa.NetW
open Go.RowKit

theorem BytesAv.step {N M S : Nat → Prop} {w w' : World} {v : Value} {xs : List Int} (h : BytesAv N w v xs) (he : Exc S w w') (hs : ∀ k, k < w.heap.size → S k → N k) (hm : ∀ k, k < w.heap.size → M k → N k) : BytesAv M w' v xs := by
  obtain ⟨a, cap, hv, hn, hc⟩ := h
  refine ⟨a, cap, hv, hn, fun j hj => ?_⟩
  obtain ⟨b, off, ha, hq, hx⟩ := hc j hj
  refine ⟨b, off, ha, fun s => hq (hm b (cell_lt hx) s), ?_⟩
  rw [he.cell (p := ⟨b, off + j, none⟩) (cell_lt hx) (fun s => hq (hs b (cell_lt hx) s))]
  exact hx
/-- the blocks of a net -/
def NB (p : Nat) (lv : Value) (fs : List Fr) (k : Nat) : Prop := k = p ∨ lv.ownBlock = some k ∨ ∃ f ∈ fs, f.dv.ownBlock = some k
theorem NB.foot {p : Nat} {lv : Value} {k : Nat} (fs : List Fr) (h : Foot p lv k) : NB p lv fs k := by
  rcases h with h | h
  · exact .inl h
  · exact .inr (.inl h)
theorem NB.lt {w : World} {p : Nat} {limit : Int} {fs : List Fr} {lv : Value} (h : NetIs w p limit fs lv) (k : Nat) (hk : NB p lv fs k) : k < w.heap.size := by
  rcases hk with hk | hk | ⟨f, hf, hk⟩
  · subst hk; exact h.head.lt
  · exact ownsRow_lt h.row hk
  · exact (h.data f hf).lt hk
/-- a net, and the document's frames beside it: the same, and none written by the net; all that the net writes lies from B on -/
structure St (B : Nat) (w : World) (p : Nat) (limit : Int) (fs rs : List Fr) (lv v : Value) : Prop where
  net : NetIs w p limit fs lv
  row : w.ownsRow 0 53 3 v rs.length (flat rs)
  rowN : ∀ g, v.ownBlock = some g → ¬ NB p lv fs g
  data : ∀ r ∈ rs, BytesAv (NB p lv fs) w r.dv r.data
  key : rs.map Fr.key = fs.map Fr.key
  ok : ∀ f ∈ fs, f.ok
  bd : ∀ f ∈ fs, ∀ x ∈ f.data, 0 ≤ x ∧ x ≤ 255
  low : ∀ k, NB p lv fs k → B ≤ k
theorem St.len {B : Nat} {w : World} {p : Nat} {limit : Int} {fs rs : List Fr} {lv v : Value} (h : St B w p limit fs rs lv v) : rs.length = fs.length := by
  have := congrArg List.length h.key
  simpa using this
theorem St.at {B : Nat} {w : World} {p : Nat} {limit : Int} {fs rs : List Fr} {lv v : Value} (h : St B w p limit fs rs lv v) (i : Nat) (hi : i < fs.length) (hi' : i < rs.length) : rs[i].fro = fs[i].fro ∧ rs[i].too = fs[i].too ∧ rs[i].data = fs[i].data := by
  have e : (rs.map Fr.key)[i]'(by simpa using hi') = (fs.map Fr.key)[i]'(by simpa using hi) := by simp only [h.key]
  simp only [List.getElem_map, Fr.key, Prod.mk.injEq] at e
  exact e
theorem St.ext {B : Nat} {w w' : World} {p : Nat} {limit : Int} {fs rs : List Fr} {lv v : Value} (h : St B w p limit fs rs lv v) (e : Ext w w') : St B w' p limit fs rs lv v :=
  ⟨h.net.ext e, own_ext h.row e, h.rowN, fun r hr => (h.data r hr).ext e, h.key, h.ok, h.bd, h.low⟩
/-- one more in both -/
theorem St.push {B : Nat} {w w1 w2 : World} {p : Nat} {limit : Int} {fs rs : List Fr} {lv v lv' v' : Value} {f r : Fr} (h : St B w p limit fs rs lv v) (hB : B ≤ w.heap.size)
    (hn : NetIs w1 p limit (fs ++ [f]) lv') (hx : Exc (Foot p lv) w w1) (hl : ∀ g, lv'.ownBlock = some g → lv.ownBlock = some g ∨ w.heap.size ≤ g) (hf : ∀ g, f.dv.ownBlock = some g → w.heap.size ≤ g)
    (hr : BytesAv (NB p lv fs) w r.dv r.data) (hk : r.key = f.key) (hok : f.ok) (hbd : ∀ x ∈ f.data, 0 ≤ x ∧ x ≤ 255)
    (he : Ext w1 w2) (hrow : w2.ownsRow w1.heap.size 53 3 v' (rs.length + 1) (flat (rs ++ [r]))) :
    St B w2 p limit (fs ++ [f]) (rs ++ [r]) lv' v' := by
  have hnew : ∀ k, NB p lv' (fs ++ [f]) k → NB p lv fs k ∨ w.heap.size ≤ k := by
    rintro k (e | e | ⟨q, hq, e⟩)
    · exact .inl (.inl e)
    · rcases hl k e with e | e
      · exact .inl (.inr (.inl e))
      · exact .inr e
    · rcases List.mem_append.1 hq with hq | hq
      · exact .inl (.inr (.inr ⟨q, hq, e⟩))
      · have : q = f := by simpa using hq
        subst this
        exact .inr (hf k e)
  have hav : ∀ {x : Value} {xs : List Int}, BytesAv (NB p lv fs) w x xs → BytesAv (NB p lv' (fs ++ [f])) w2 x xs := fun {x xs} hb => by
    refine BytesAv.ext (BytesAv.step hb hx (fun k _ q => NB.foot fs q) fun k hk q => ?_) he
    rcases hnew k q with q | q
    · exact q
    · omega
  refine ⟨hn.ext he, by rw [List.length_append]; exact own_base hrow (Nat.zero_le _), fun g hg q => ?_, ?_, by rw [List.map_append, List.map_append, h.key]; simp [hk], ?_, ?_, ?_⟩
  · have h1 := own_ge hrow g hg
    have h2 := NB.lt hn g q
    omega
  · intro q hq
    rcases List.mem_append.1 hq with hq | hq
    · exact hav (h.data q hq)
    · have : q = r := by simpa using hq
      subst this
      exact hav hr
  · intro q hq
    rcases List.mem_append.1 hq with hq | hq
    · exact h.ok q hq
    · have : q = f := by simpa using hq
      subst this
      exact hok
  · intro q hq
    rcases List.mem_append.1 hq with hq | hq
    · exact h.bd q hq
    · have : q = f := by simpa using hq
      subst this
      exact hbd
  · intro k hk
    rcases hnew k hk with q | q
    · exact h.low k q
    · omega
/-- one less in both -/
theorem St.drop {B : Nat} {w w1 w2 : World} {p : Nat} {limit : Int} {fs rs : List Fr} {lv v lv' v' : Value} {S : Nat → Prop} {i : Nat} (h : St B w p limit fs rs lv v)
    (hn : NetIs w1 p limit (fs.eraseIdx i) lv') (hx : Exc S w w1) (hs : ∀ k, S k → NB p lv fs k) (hl : lv'.ownBlock = lv.ownBlock)
    (he : Ext w1 w2) (hrow : w2.ownsRow w1.heap.size 53 3 v' (rs.eraseIdx i).length (flat (rs.eraseIdx i))) :
    St B w2 p limit (fs.eraseIdx i) (rs.eraseIdx i) lv' v' := by
  have hnew : ∀ k, NB p lv' (fs.eraseIdx i) k → NB p lv fs k := by
    rintro k (e | e | ⟨q, hq, e⟩)
    · exact .inl e
    · exact .inr (.inl (hl ▸ e))
    · exact .inr (.inr ⟨q, List.mem_of_mem_eraseIdx hq, e⟩)
  refine ⟨hn.ext he, own_base hrow (Nat.zero_le _), fun g hg q => ?_, fun r hr => ?_, ?_, fun f hf => h.ok f (List.mem_of_mem_eraseIdx hf), fun f hf => h.bd f (List.mem_of_mem_eraseIdx hf), fun k hk => h.low k (hnew k hk)⟩
  · have h1 := own_ge hrow g hg
    have h2 := NB.lt hn g q
    omega
  · exact BytesAv.ext (BytesAv.step (h.data r (List.mem_of_mem_eraseIdx hr)) hx (fun k _ q => hs k q) fun k _ q => hnew k q) he
  · have e : ∀ (l : List Fr) (j : Nat), (l.eraseIdx j).map Fr.key = (l.map Fr.key).eraseIdx j := by
      intro l
      induction l with
      | nil => intro j; rfl
      | cons a l ih =>
        intro j
        cases j with
        | zero => rfl
        | succ j => simp [List.eraseIdx_cons_succ, ih]
    rw [e, e, h.key]

/-- what a step of both leaves -/
def StepPost (B p : Nat) (limit : Int) (fs : List Fr) (lv : Value) (w : World) (e : Ending) (w' : World) : Prop :=
  ∃ v' lv' fs' rs', e = .returned (.tuple #[v', .bool true]) ∧ St B w' p limit fs' rs' lv' v' ∧ Exc (NB p lv fs) w w' ∧ fs'.length ≤ fs.length + 1
end Go.Proofs.Ytdbhndieommkaaa.NetW
