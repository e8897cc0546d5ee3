/- PathK, PathL, LockM, LockW, joined. -/
import Derived.Test.YtalfoiodejoicaaGreatDoorJ4
import Derived.Test.YtalfoiodejoicaaGreatDoorJ3
import Derived.Test.YtalfoiodejoicaaGreatDoorChecked
import Derived.StringKeys
section
namespace Go.Proofs.YtalfoiodejoicaaGreatDoor.Path
open Go.RowKit
set_option linter.unusedSimpArgs false
set_option linter.unusedVariables false

theorem walk_mem : ∀ {l acc a : List Bs}, walkL acc l = some a → ∀ q ∈ a, q ∈ acc ∨ q ∈ l
  | [], acc, a, h, q, hq => by simp [walkL] at h; subst h; exact .inl hq
  | p :: r, acc, a, h, q, hq => by
    rw [walkL] at h
    cases hs : stepW acc p with
    | none => simp [hs] at h
    | some b =>
      simp only [hs] at h
      rcases walk_mem h q hq with h1 | h1
      · unfold stepW at hs
        split at hs
        · cases hs; exact .inl h1
        · split at hs
          · split at hs
            · cases hs
            · cases hs; exact .inl (List.dropLast_subset _ h1)
          · split at hs
            · cases hs
              rcases List.mem_append.1 h1 with h1 | h1
              · exact .inl h1
              · rw [List.mem_singleton.1 h1]; exact .inr (by simp)
            · cases hs
      · exact .inr (by simp [h1])
theorem splits_mem_len : ∀ (s : Bs), ∀ q ∈ splits s, q.length ≤ s.length
  | [], q, hq => by simp [splits] at hq; subst hq; simp
  | c :: r, q, hq => by
    have ih := splits_mem_len r
    rw [splits_cons] at hq
    split at hq
    · rcases List.mem_cons.1 hq with rfl | hq
      · simp
      · have := ih q hq; simp; omega
    · cases hs : splits r with
      | nil => exact absurd hs (splits_ne r)
      | cons a b =>
        rw [hs] at hq ih
        simp only [List.headD_cons, List.tail_cons] at hq
        rcases List.mem_cons.1 hq with rfl | hq
        · have := ih a (by simp); simp; omega
        · have := ih q (by simp [hq]); simp; omega
theorem join_len : ∀ (l : List Bs) (m : Nat), (∀ q ∈ l, q.length ≤ m) → (joinS l).length ≤ l.length * (m + 1)
  | [], m, _ => by simp [joinS, Lib.join]
  | [p], m, h => by rw [join_one]; have := h p (by simp); simp; omega
  | p :: q :: r, m, h => by
    rw [join_cons _ _ (by simp)]
    have ih := join_len (q :: r) m (fun x hx => h x (by simp [hx]))
    have := h p (by simp)
    simp only [List.length_append, List.length_cons] at ih ⊢
    have e : (r.length + 1 + 1) * (m + 1) = (r.length + 1) * (m + 1) + (m + 1) := by rw [Nat.add_mul (r.length + 1)]; omega
    omega
theorem join_walk_len {s : Bs} {l : List Bs} (h : walkL [] (splits s) = some l) : (joinS l).length ≤ l.length * (s.length + 1) :=
  join_len l s.length (fun q hq => by
    rcases walk_mem h q hq with h1 | h1
    · simp at h1
    · exact splits_mem_len s q h1)
theorem flatS_at {c : List Value} {ws : List ByteArray} (ht : c.take (ws.length * 1) = flatS ws) {j : Nat} {x : ByteArray} (hx : ws[j]? = some x) : c[j]? = some (.string x) := by
  have := cells_at strC_len (enc := strC) ht hx 0 (by omega)
  simpa [strC] using this

def NormPost (s : ByteArray) (w : World) (e : Ending) (w' : World) : Prop :=
  ∃ q : ByteArray, e = .returned (.tuple #[.string q, .int .i64 (normL (bl s)).2]) ∧ bl q = (normL (bl s)).1 ∧ Ext w w'
set_option maxRecDepth 100000 in
theorem normal_any (s : ByteArray) (w : World) (hs : s.size ≤ 2000000) : Calls Tryz.prog 108 #[.string s] w (NormPost s w) := by
  have hA := At.start (w0 := w) (L0 := []) trivial
  have hF := hA.facts
  go_enter Tryz.func108, Tryz.ntmps108
  go_wp2_with fail
  refine (walk_any s w hs).mono ?_
  rintro e w1 ⟨v, ws, rfl, hT, hres, hlen⟩
  have hB := hA.call0 hT
  clear hF hA hT
  have hA := hB
  clear hB
  simp only [List.append_nil] at hA
  obtain ⟨ax, cap, hv, hax0, hcap0, _⟩ := hA.row_form (v := v) (n := ws.length) (xs := flatS ws) (by with_reducible repeat (first | exact Sel.here | apply Sel.there))
  subst hv
  have hcap := Lib.hid hcap0
  clear hax0 hcap0
  have hn : normL (bl s) = (match walkL [] (splits (bl s)) with
    | none => ([], 30)
    | some l => if l = [] then ([], 13) else if 8 < l.length then ([], 31) else if 64 < (joinS l).length then ([], 11) else (joinS l, 0)) := rfl
  rcases hres with hre | ⟨hre, hw0⟩
  · rw [hre] at hn
    simp only at hn
    have hjl := join_walk_len hre
    rw [hre]
    simp only [walkRes]
    simp only [List.length_map] at hjl hn
    by_cases e1 : ws = []
    · subst e1
      simp only [List.map_nil, if_pos] at hn
      have hn' := Lib.hid hn
      clear hn hre hjl hlen hcap
      (try simp only [setL, List.set_cons_zero, List.set_cons_succ, List.cons_append, List.nil_append] at hA); (have hF := hA.facts); (try simp only [facts_cons, facts_nil, facts_cells, facts_old, facts_fact, facts_obj, facts_map, facts_iter, facts_row, and_true, true_and] at hF)
      go_wp2_with fail
      go_ret2
      exact ⟨⟨#[]⟩, by rw [hn'.out]; rfl, by rw [hn'.out], hA.toExt⟩
    · rw [if_neg (by simpa using e1)] at hn
      have hl0 : ((ws.length : Int) == 0) = false := by simpa using e1
      by_cases e2 : 8 < ws.length
      · rw [if_pos e2] at hn
        have hn' := Lib.hid hn
        clear hn hre hjl hlen hcap e1
        (try simp only [setL, List.set_cons_zero, List.set_cons_succ, List.cons_append, List.nil_append] at hA); (have hF := hA.facts); (try simp only [facts_cons, facts_nil, facts_cells, facts_old, facts_fact, facts_obj, facts_map, facts_iter, facts_row, and_true, true_and] at hF)
        go_wp2_with fail
        go_ret2
        exact ⟨⟨#[]⟩, by rw [hn'.out]; rfl, by rw [hn'.out], hA.toExt⟩
      · rw [if_neg e2] at hn
        have hl1 : 0 < ws.length := List.length_pos_iff.2 e1
        obtain ⟨g, c, hax, _, hcm, hcl, hct, hB⟩ := hA.row_open (ax := ax) (cap := cap) (n := ws.length) (xs := flatS ws) (by with_reducible repeat (first | exact Sel.here | apply Sel.there)) hl1
        subst hax
        have hj : (Lib.join (ws.map (·.data.toList)) [47]).length ≤ 140737488355328 := by
          have h1 : (joinS (ws.map bl)).length ≤ ws.length * (s.size + 1) := by simpa using hjl
          have h2 : ws.length * (s.size + 1) ≤ 8 * 2000001 := Nat.mul_le_mul (by omega) (by omega)
          have h3 : (Lib.join (ws.map (·.data.toList)) [47]).length = (joinS (ws.map bl)).length := rfl
          omega
        have hcl' : g < w1.heap.size := (hB.get (A := Part.cells g c 9) (by with_reducible repeat (first | exact Sel.here | apply Sel.there)) : BlockIs w1 g c _).lt
        have hjoin := Tryz.strings_Join g 0 cap ws ⟨#[47]⟩ w1 (fun j x hx => by
          rw [Nat.zero_add]
          exact ((hB.get (A := Part.cells g c 9) (by with_reducible repeat (first | exact Sel.here | apply Sel.there)) : BlockIs w1 g c _).cell j).trans (flatS_at hct hx)) hcl' (by omega) hcap.out hj
        clear hA
        have hA := hB
        have hext : Ext w w1 := hA.toExt
        clear hB hre hlen e1
        have hn' := Lib.hid hn
        have hct' := Lib.hid hct
        have hcl2 := Lib.hid hcl
        clear hn hct hcl hjl hj
        go_wp2_with fail
        refine hjoin.mono ?_
        clear hjoin
        rintro e w2 ⟨rfl, hb⟩
        have hext2 := hext.trans hb
        clear hb hext hA
        obtain ⟨jn, hjn⟩ : ∃ q : ByteArray, (⟨(Lib.join (ws.map (·.data.toList)) [47]).toArray⟩ : ByteArray) = q := ⟨_, rfl⟩
        have hjb : joinS (ws.map bl) = bl jn := by rw [← hjn]; rfl
        have hjs : (joinS (ws.map bl)).length = jn.size := by rw [hjb]; simp
        have hjb' := Lib.hid hjb
        have hn2 := hn'.out
        rw [hjs] at hn2
        rw [hjn]
        clear hjn hjb hjs hn' hct' hcl2
        by_cases e3 : 64 < jn.size
        · rw [if_pos e3] at hn2
          have hn3 := Lib.hid hn2
          clear hn2
          go_wp2_with fail
          go_ret2
          exact ⟨⟨#[]⟩, by rw [hn3.out]; rfl, by rw [hn3.out], hext2⟩
        · rw [if_neg e3] at hn2
          have hn3 := Lib.hid hn2
          clear hn2
          go_wp2_with fail
          go_ret2
          exact ⟨jn, by rw [hn3.out]; rfl, by rw [hn3.out]; exact hjb'.out.symm, hext2⟩
  · rw [hre] at hn
    simp only at hn
    subst hw0
    rw [hre]
    simp only [walkRes]
    have hn' := Lib.hid hn
    clear hn hre hlen hcap
    (try simp only [setL, List.set_cons_zero, List.set_cons_succ, List.cons_append, List.nil_append] at hA); (have hF := hA.facts); (try simp only [facts_cons, facts_nil, facts_cells, facts_old, facts_fact, facts_obj, facts_map, facts_iter, facts_row, and_true, true_and] at hF)
    go_wp2_with fail
    go_ret2
    exact ⟨⟨#[]⟩, by rw [hn'.out]; rfl, by rw [hn'.out], hA.toExt⟩
end Go.Proofs.YtalfoiodejoicaaGreatDoor.Path
end

section
namespace Go.Proofs.YtalfoiodejoicaaGreatDoor.Path
open Go.RowKit
set_option linter.unusedSimpArgs false
set_option linter.unusedVariables false

theorem eqB (s q : ByteArray) : (s.toList == q.toList) = decide (bl s = bl q) := by
  rw [Lib.toList_data, Lib.toList_data]
  cases h : (s.data.toList == q.data.toList)
  · symm; simpa using h
  · symm; simpa using h
set_option maxRecDepth 100000 in
theorem right_any (s : ByteArray) (w : World) (hs : s.size ≤ 2000000) : Calls Tryz.prog 68 #[.string s] w fun e w' => e = .returned (.bool (rightB (bl s))) ∧ Ext w w' := by
  have hr := right_norm (bl s)
  go_enter Tryz.func68, Tryz.ntmps68
  go_wp2_with fail
  refine (normal_any s w hs).mono ?_
  rintro e w1 ⟨q, rfl, hq, hx⟩
  rw [← hq] at hr
  have heq := eqB s q
  obtain ⟨n2, hn2⟩ : ∃ n, (normL (bl s)).2 = n := ⟨_, rfl⟩
  rw [hn2] at hr ⊢
  clear hn2 hq
  by_cases h0 : n2 = 0
  · subst h0
    by_cases h1 : bl s = bl q
    · have hb : rightB (bl s) = true := hr.1 ⟨rfl, h1.symm⟩
      rw [decide_eq_true h1] at heq
      have hb' := Lib.hid hb
      clear hb hr h1
      go_wp2_with fail
      go_ret
      exact ⟨by rw [hb'.out]; rfl, hx⟩
    · have hb : rightB (bl s) = false := by
        cases hb : rightB (bl s)
        · rfl
        · exact absurd (hr.2 hb).2.symm h1
      rw [decide_eq_false h1] at heq
      have hb' := Lib.hid hb
      clear hb hr h1
      go_wp2_with fail
      go_ret
      exact ⟨by rw [hb'.out]; rfl, hx⟩
  · have hb : rightB (bl s) = false := by
      cases hb : rightB (bl s)
      · rfl
      · exact absurd (hr.2 hb).1 h0
    have hb' := Lib.hid hb
    have h0' : (n2 == 0) = false := by simpa using h0
    clear hb hr h0 heq
    go_wp2_with fail
    go_ret
    exact ⟨by rw [hb'.out]; rfl, hx⟩
theorem right_is {s : ByteArray} {b : Bool} (w : World) (hs : s.size ≤ 2000000) (hb : rightB (bl s) = b) : Calls Tryz.prog 68 #[.string s] w fun e w' => e = .returned (.bool b) ∧ Ext w w' := hb ▸ right_any s w hs
theorem pre_is (q p : ByteArray) (w : World) : Calls Tryz.prog 150 #[.string q, .string p] w fun e w' => e = .returned (.bool ((bl p).isPrefixOf (bl q))) ∧ w = w' :=
  (Tryz.strings_HasPrefix q p w).mono fun _ _ ⟨he, hw⟩ => ⟨he, hw.symm⟩
set_option maxRecDepth 100000 in
theorem above_any (p q : ByteArray) (w : World) (hp : p.size ≤ 2000000) (hq : q.size ≤ 2000000) : Calls Tryz.prog 127 #[.string p, .string q] w fun e w' => e = .returned (.bool (aboveB (bl p) (bl q))) ∧ Ext w w' := by
  have heq := eqB p q
  cases h1 : rightB (bl p)
  · have hb := Lib.hid (show aboveB (bl p) (bl q) = false by simp [aboveB, h1])
    clear heq
    go_enter Tryz.func127, Tryz.ntmps127
    go_wp2_with fail
    refine (right_is w hp h1).mono ?_
    rintro e w1 ⟨rfl, hx⟩
    go_wp2_with fail
    go_ret
    exact ⟨by rw [hb.out]; rfl, hx⟩
  · cases h2 : rightB (bl q)
    · have hb := Lib.hid (show aboveB (bl p) (bl q) = false by simp [aboveB, h1, h2])
      clear heq
      go_enter Tryz.func127, Tryz.ntmps127
      go_wp2_with fail
      refine (right_is w hp h1).mono ?_
      rintro e w1 ⟨rfl, hx⟩
      go_wp2_with fail
      refine (right_is w1 hq h2).mono ?_
      rintro e w2 ⟨rfl, hx2⟩
      go_wp2_with fail
      go_ret
      exact ⟨by rw [hb.out]; rfl, hx.trans hx2⟩
    · by_cases h3 : bl p = bl q
      · have hb := Lib.hid (show aboveB (bl p) (bl q) = true by simp [aboveB, h1, h2, h3])
        rw [decide_eq_true h3] at heq
        clear h3
        go_enter Tryz.func127, Tryz.ntmps127
        go_wp2_with fail
        refine (right_is w hp h1).mono ?_
        rintro e w1 ⟨rfl, hx⟩
        go_wp2_with fail
        refine (right_is w1 hq h2).mono ?_
        rintro e w2 ⟨rfl, hx2⟩
        go_wp2_with fail
        go_ret
        exact ⟨by rw [hb.out]; rfl, hx.trans hx2⟩
      · have hb := Lib.hid (show aboveB (bl p) (bl q) = (bl p ++ [47]).isPrefixOf (bl q) by simp [aboveB, h1, h2, h3])
        rw [decide_eq_false h3] at heq
        clear h3
        go_enter Tryz.func127, Tryz.ntmps127
        go_wp2_with fail
        refine (right_is w hp h1).mono ?_
        rintro e w1 ⟨rfl, hx⟩
        go_wp2_with fail
        refine (right_is w1 hq h2).mono ?_
        rintro e w2 ⟨rfl, hx2⟩
        go_wp2_with fail
        refine (pre_is _ _ _).mono ?_
        rintro e _ ⟨rfl, rfl⟩
        have hpa : bl (p ++ ⟨#[47]⟩) = bl p ++ [47] := by simp [bl]
        rw [hpa, ← hb.out]
        clear hpa
        obtain ⟨bb, hbb⟩ : ∃ b, aboveB (bl p) (bl q) = b := ⟨_, rfl⟩
        rw [hbb]
        have hbb' := Lib.hid hbb
        clear hb hbb
        cases bb
        all_goals
          go_wp2_with fail
          go_ret
          exact ⟨by rw [hbb'.out]; rfl, hx.trans hx2⟩
set_option maxRecDepth 100000 in
theorem overlap_any (p q : ByteArray) (w : World) (hp : p.size ≤ 2000000) (hq : q.size ≤ 2000000) : Calls Tryz.prog 82 #[.string p, .string q] w fun e w' => e = .returned (.bool (overB (bl p) (bl q))) ∧ Ext w w' := by
  have h1 := above_any p q w hp hq
  have h2 := fun w => above_any q p w hq hp
  have ho : overB (bl p) (bl q) = (aboveB (bl p) (bl q) || aboveB (bl q) (bl p)) := rfl
  rw [ho]
  clear ho
  generalize aboveB (bl p) (bl q) = b1 at *
  generalize aboveB (bl q) (bl p) = b2 at *
  cases b1
  · go_enter Tryz.func82, Tryz.ntmps82
    go_wp2_with fail
    refine h1.mono ?_
    clear h1
    rintro e w1 ⟨rfl, hx⟩
    go_wp2_with fail
    refine (h2 w1).mono ?_
    clear h2
    rintro e w2 ⟨rfl, hx2⟩
    cases b2
    all_goals
      go_wp2_with fail
      go_ret
      exact ⟨rfl, hx.trans hx2⟩
  · go_enter Tryz.func82, Tryz.ntmps82
    go_wp2_with fail
    refine h1.mono ?_
    clear h1
    rintro e w1 ⟨rfl, hx⟩
    go_wp2_with fail
    go_ret
    exact ⟨rfl, hx⟩
end Go.Proofs.YtalfoiodejoicaaGreatDoor.Path
end

section
namespace Go.Proofs.YtalfoiodejoicaaGreatDoor.Lock
open Go.RowKit
open Go.Maps (Keyed)
open Path (bl rightB overB)
set_option linter.unusedVariables false
set_option linter.unusedSimpArgs false

/-- an entry -/
structure Ent where
  path : ByteArray
  num : Int
  foot : ByteArray
  mode : Int
  n : Int
  stamp : Int
deriving DecidableEq
def keyV (p : ByteArray) (n : Int) (f : ByteArray) : Value := .agg #[.string p, .int .u64 n, .string f]
def Ent.key (e : Ent) : Value := keyV e.path e.num e.foot
def Ent.cells (e : Ent) : List Value := [.string e.path, .int .u64 e.num, .string e.foot, .int .i64 e.mode, .int .u64 e.n, .int .i64 e.stamp]
def Ent.val (e : Ent) : Value := .agg #[.string e.path, .int .u64 e.num, .string e.foot, .int .i64 e.mode, .int .u64 e.n, .int .i64 e.stamp]
def ent (e : Ent) : Value × Value := (e.key, e.val)
def ents (l : List Ent) : List (Value × Value) := l.map ent
/-- a counter -/
def ctrE (c : ByteArray × Int) : Value × Value := (.string c.1, .int .u64 c.2)
def ctrs (l : List (ByteArray × Int)) : List (Value × Value) := l.map ctrE
abbrev headC (p m c : Nat) (first : Int) : Part := Part.cells p [.int .u64 first, .map (some m), .map (some c)] 123
abbrev mapC (m : Nat) (es : List (Value × Value)) : Part := Part.map Tryz.prog 160 m es
abbrev ctrC (c : Nat) (cs : List (Value × Value)) : Part := Part.map Tryz.prog 9 c cs
/-- the book at p: its entries' map at m, its counters' at c -/
structure Bk where
  p : Nat
  m : Nat
  c : Nat
  first : Int
  es : List Ent
  cs : List (ByteArray × Int)
def BookP (b : Bk) : Part := Part.all [headC b.p b.m b.c b.first, mapC b.m (ents b.es), ctrC b.c (ctrs b.cs)]
theorem eqv0 (b : Bk) (F : List Part) : Eqv (BookP b :: F) (headC b.p b.m b.c b.first :: mapC b.m (ents b.es) :: ctrC b.c (ctrs b.cs) :: F) := Eqv.all [headC b.p b.m b.c b.first, mapC b.m (ents b.es), ctrC b.c (ctrs b.cs)] F
theorem begin0 {w : World} {b : Bk} (h : Sep [BookP b] w) : At [BookP b] w [headC b.p b.m b.c b.first, mapC b.m (ents b.es), ctrC b.c (ctrs b.cs)] w := (At.start h).to (eqv0 b [])
theorem open0 {L0 L F : List Part} {w0 w : World} {b : Bk} (h : At L0 w0 L w) (q : Sel (BookP b) L F) : At L0 w0 (headC b.p b.m b.c b.first :: mapC b.m (ents b.es) :: ctrC b.c (ctrs b.cs) :: F) w := (h.take q).to (eqv0 b F)
theorem fold0 {L0 L F G H : List Part} {w0 w : World} (b : Bk) (h : At L0 w0 L w) (s1 : Sel (headC b.p b.m b.c b.first) L F) (s2 : Sel (mapC b.m (ents b.es)) F G) (s3 : Sel (ctrC b.c (ctrs b.cs)) G H) : At L0 w0 (BookP b :: H) w :=
  (h.perm (s1.perm.trans ((s2.perm.trans (s3.perm.cons _)).cons _))).to (eqv0 b H).symm
theorem close0 {L0 L F G H : List Part} {w0 w : World} (b : Bk) (h : At L0 w0 L w) (s1 : Sel (headC b.p b.m b.c b.first) L F) (s2 : Sel (mapC b.m (ents b.es)) F G) (s3 : Sel (ctrC b.c (ctrs b.cs)) G H) : At L0 w0 [BookP b] w := (fold0 b h s1 s2 s3).only1 .here

-- the keys
theorem laidOut : laidOutB Tryz.prog = true := by kernel_rfl
theorem wideP : (match Tryz.prog.underlying 160 with | some (.array _ _) | some (.struct _) => true | _ => false) = true := by kernel_rfl
theorem rowP : (160 : TypeId) < Tryz.prog.types.size := of_decide_eq_true (by kernel_rfl)
set_option maxRecDepth 100000 in
theorem lawP : Keyed Tryz.prog 160 := Keyed.of_law (deep_law_laid laidOut (m := 3) (by omega) rowP (by kernel_rfl) wideP)
theorem lawT : Keyed Tryz.prog 9 := Go.Maps.string_keyed Tryz.underlying9
theorem keyTypeP : Tryz.prog.keyType 160 = true := by kernel_rfl
theorem cellsP : Tryz.prog.cellsOf 160 = 3 := by kernel_rfl
theorem cellsS : Tryz.prog.cellsOf 25 = 2 := by kernel_rfl
theorem cellsU : Tryz.prog.cellsOf 23 = 1 := by kernel_rfl
theorem cellsStr : Tryz.prog.cellsOf 9 = 1 := by kernel_rfl
theorem formedP (c0 c1 c2 : Value) : (Value.agg #[c0, c1, c2]).formed Tryz.prog 160 = true := by simp [Value.formed, Tryz.underlying160, cellsP]
def big64 : Int := 18446744073709551616
theorem keyP {p : ByteArray} {n : Int} {f : ByteArray} (hp : p.size ≤ maxLen) (h0 : 0 ≤ n) (h1 : n < big64) (hf : f.size ≤ maxLen) : ∃ l, keyOf Tryz.prog 160 (keyV p n f) = some l := by
  have hw : (Lit.int .u64 n).wf = true := by simp [Lit.wf, IntKind.min, IntKind.max, IntKind.signed, IntKind.bits]; unfold big64 at h1; omega
  obtain ⟨d, hd⟩ : ∃ d, Tryz.prog.types.size = d + 2 := ⟨Tryz.prog.types.size - 2, by have : 2 ≤ Tryz.prog.types.size := of_decide_eq_true (by kernel_rfl); omega⟩
  have hl : Tryz.prog.keyLits (Tryz.prog.types.size + 1) 160 [.string p, .int .u64 n, .string f] = some [.string p.data.toList, .int .u64 n, .string f.data.toList] := by
    rw [hd]
    simp [Program.keyLits, Tryz.underlying160, Tryz.underlying25, Tryz.underlying23, Tryz.underlying9, cellsP, cellsS, cellsU, cellsStr, hw, hf, hp]
    rw [if_pos (by decide)]
    rfl
  exact ⟨.string (keyBytes [.string p.data.toList, .int .u64 n, .string f.data.toList]), by
    unfold keyOf
    rw [Tryz.underlying160]
    simp only [keyTypeP, keyV, formedP, Bool.and_self, if_true]
    rw [show (Value.agg #[.string p, .int .u64 n, .string f]).cells.toList = [.string p, .int .u64 n, .string f] from rfl, hl]
    rfl⟩
theorem keyT {p : ByteArray} (hp : p.size ≤ maxLen) : ∃ l, keyOf Tryz.prog 9 (.string p) = some l := ⟨_, WideMaps.keyOf_string_mk Tryz.underlying9 hp⟩

/-- the entry of a place -/
def Ent.is (e : Ent) (p : ByteArray) (n : Int) (f : ByteArray) : Bool := decide (e.path = p ∧ e.num = n ∧ e.foot = f)
def find (es : List Ent) (p : ByteArray) (n : Int) (f : ByteArray) : Option Ent := es.find? (·.is p n f)
theorem find_split {es : List Ent} {p : ByteArray} {n : Int} {f : ByteArray} {e : Ent} (h : find es p n f = some e) : ∃ l1 l2, es = l1 ++ e :: l2 ∧ e.path = p ∧ e.num = n ∧ e.foot = f ∧ ∀ x ∈ l1, x.is p n f = false := by
  obtain ⟨h1, l1, l2, h2, h3⟩ := List.find?_eq_some_iff_append.1 h
  have h4 : e.path = p ∧ e.num = n ∧ e.foot = f := by simpa [Ent.is] using h1
  exact ⟨l1, l2, h2, h4.1, h4.2.1, h4.2.2, fun x hx => by simpa using h3 x hx⟩
theorem find_none {es : List Ent} {p : ByteArray} {n : Int} {f : ByteArray} (h : find es p n f = none) : ∀ q ∈ ents es, q.1 ≠ keyV p n f := by
  intro q hq
  obtain ⟨e, he, rfl⟩ := List.mem_map.1 hq
  have h1 : ¬ e.is p n f = true := List.find?_eq_none.1 h e he
  intro q2
  apply h1
  simp [ent, Ent.key, keyV] at q2
  simp [Ent.is, q2]
theorem find_mem {es : List Ent} {p : ByteArray} {n : Int} {f : ByteArray} {e : Ent} (h : find es p n f = some e) : (keyV p n f, e.val) ∈ ents es := by
  obtain ⟨l1, l2, rfl, rfl, rfl, rfl, _⟩ := find_split h
  simp [ents, ent, Ent.key]
/-- a path's counter -/
def ctr (cs : List (ByteArray × Int)) (p : ByteArray) : Option Int := (cs.find? (·.1 = p)).map (·.2)
def counter (first : Int) (cs : List (ByteArray × Int)) (p : ByteArray) : Int := (ctr cs p).getD first
theorem ctr_none {cs : List (ByteArray × Int)} {p : ByteArray} (h : ctr cs p = none) : ∀ q ∈ ctrs cs, q.1 ≠ .string p := by
  intro q hq
  obtain ⟨s, hs, rfl⟩ := List.mem_map.1 hq
  unfold ctr at h
  simp at h
  intro e
  simp [ctrE] at e
  exact h s.1 s.2 hs e
theorem ctr_mem {cs : List (ByteArray × Int)} {p : ByteArray} {n : Int} (h : ctr cs p = some n) : (.string p, .int .u64 n) ∈ ctrs cs := by
  unfold ctr at h
  simp only [Option.map_eq_some_iff] at h
  obtain ⟨q, h1, h2⟩ := h
  have h3 := List.find?_some h1
  have h4 := List.mem_of_find?_eq_some h1
  refine List.mem_map.2 ⟨q, h4, ?_⟩
  simp at h3
  simp [ctrE, h3, h2]
/-- are two in each other's way? -/
def wayB (a b : Ent) : Bool := (decide (a.mode = 2) || decide (b.mode = 2)) && overB (bl a.path) (bl b.path)
end Go.Proofs.YtalfoiodejoicaaGreatDoor.Lock
end

section
namespace Go.Proofs.YtalfoiodejoicaaGreatDoor.Lock
open Go.RowKit
open Go.Maps (Keyed)
open Path (bl rightB overB)
set_option linter.unusedSimpArgs false
set_option linter.unusedVariables false

/-- a book, new -/
def NewPost (first : Int) (w : World) (e : Ending) (w' : World) : Prop := ∃ b : Bk, e = .returned (.pointer (some ⟨b.p, 0, none⟩)) ∧ b.first = first ∧ b.es = [] ∧ b.cs = [] ∧ At [] w [BookP b] w'
set_option maxRecDepth 100000 in
theorem new_any (w : World) (first : Int) : Calls Tryz.prog 19 #[.int .u64 first] w (NewPost first w) := by
  have hA : At [] w [] w := At.start (L0 := []) trivial
  have hF := hA.facts
  go_enter Tryz.func19, Tryz.ntmps19
  go_wp2_with (first | ((with_reducible show wpList _ _ _ ({ dst := _, op := Op.store _ _ _, type := _, pos := _, after := _, guard := _ } :: _) _ _); refine wpList_store_at rfl rfl rfl (by (try simp only [Act.eval, Array.getD_eq_getD_getElem?, List.getElem?_toArray, List.getElem?_cons_succ, List.getElem?_cons_zero, Option.getD_some]) <;> exact rfl) (by exact rfl) hA (by with_reducible repeat (first | exact Sel.here | apply Sel.there)) (by kernel_rfl) rfl (by first | decide | (simp; done) | omega) ?_; intro w1 hB; clear hF hA; have hA := hB; clear hB; (try simp only [setL, List.set_cons_zero, List.set_cons_succ, List.cons_append, List.nil_append] at hA); (have hF := hA.facts); (try simp only [facts_cons, facts_nil, facts_cells, facts_old, facts_fact, facts_obj, facts_map, facts_iter, and_true, true_and] at hF)) | ((with_reducible show wpList _ _ _ ({ dst := _, op := Op.box _ _, type := _, pos := _, after := _, guard := _ } :: _) _ _); refine wpList_box_at rfl rfl (by (try simp only [Act.eval, Array.getD_eq_getD_getElem?, List.getElem?_toArray, List.getElem?_cons_succ, List.getElem?_cons_zero, Option.getD_some]) <;> exact rfl) (by exact rfl) hA ?_; intro b1 w1 hB hb1; clear hF hA; have hA := hB; clear hB; (try simp only [setL, List.set_cons_zero, List.set_cons_succ, List.cons_append, List.nil_append] at hA); (have hF := hA.facts); (try simp only [facts_cons, facts_nil, facts_cells, facts_old, facts_fact, facts_obj, facts_map, facts_iter, and_true, true_and] at hF)) | (refine wpList_makeMap_at Tryz.prog 160 rfl rfl hA ?_; intro b1 w1 hB hb1; clear hF hA; have hA := hB; clear hB; (try simp only [setL, List.set_cons_zero, List.set_cons_succ, List.cons_append, List.nil_append] at hA); (have hF := hA.facts); (try simp only [facts_cons, facts_nil, facts_cells, facts_old, facts_fact, facts_obj, facts_map, facts_iter, and_true, true_and] at hF); refine wpList_makeMap_at Tryz.prog 9 rfl rfl hA ?_; intro b2 w1 hB hb2; clear hF hA; have hA := hB; clear hB; (try simp only [setL, List.set_cons_zero, List.set_cons_succ, List.cons_append, List.nil_append] at hA); (have hF := hA.facts); (try simp only [facts_cons, facts_nil, facts_cells, facts_old, facts_fact, facts_obj, facts_map, facts_iter, and_true, true_and] at hF)))
  go_ret
  exact ⟨⟨_, _, _, first, [], []⟩, rfl, rfl, rfl, rfl, close0 ⟨_, _, _, first, [], []⟩ hA (by with_reducible repeat (first | exact Sel.here | apply Sel.there)) (by repeat (first | exact Sel.here | apply Sel.there)) (by repeat (first | exact Sel.here | apply Sel.there))⟩
set_option maxRecDepth 100000 in
theorem counter_none {w : World} {b : Bk} (h : Sep [BookP b] w) {p : ByteArray} (hp : p.size ≤ maxLen) (hn : ctr b.cs p = none) :
    Calls Tryz.prog 86 #[.pointer (some ⟨b.p, 0, none⟩), .string p] w fun e w' => e = .returned (.int .u64 b.first) ∧ At [BookP b] w [BookP b] w' := by
  obtain ⟨kl, hk⟩ := keyT hp
  have hmiss := Lib.hid (ctr_none hn)
  have hA := begin0 h
  have hF := hA.facts
  clear h hn
  (try simp only [setL, List.set_cons_zero, List.set_cons_succ, List.cons_append, List.nil_append] at hA); (have hF := hA.facts); (try simp only [facts_cons, facts_nil, facts_cells, facts_old, facts_fact, facts_obj, facts_map, facts_iter, and_true, true_and] at hF)
  go_enter Tryz.func86, Tryz.ntmps86
  go_wp2_with (first | ((with_reducible show wpList _ _ _ ({ dst := _, op := Op.store _ _ _, type := _, pos := _, after := _, guard := _ } :: _) _ _); refine wpList_store_at rfl rfl rfl (by (try simp only [Act.eval, Array.getD_eq_getD_getElem?, List.getElem?_toArray, List.getElem?_cons_succ, List.getElem?_cons_zero, Option.getD_some]) <;> exact rfl) (by exact rfl) hA (by with_reducible repeat (first | exact Sel.here | apply Sel.there)) (by kernel_rfl) rfl (by first | decide | (simp; done) | omega) ?_; intro w1 hB; clear hF hA; have hA := hB; clear hB; (try simp only [setL, List.set_cons_zero, List.set_cons_succ, List.cons_append, List.nil_append] at hA); (have hF := hA.facts); (try simp only [facts_cons, facts_nil, facts_cells, facts_old, facts_fact, facts_obj, facts_map, facts_iter, and_true, true_and] at hF)) | ((with_reducible show wpList _ _ _ ({ dst := _, op := Op.box _ _, type := _, pos := _, after := _, guard := _ } :: _) _ _); refine wpList_box_at rfl rfl (by (try simp only [Act.eval, Array.getD_eq_getD_getElem?, List.getElem?_toArray, List.getElem?_cons_succ, List.getElem?_cons_zero, Option.getD_some]) <;> exact rfl) (by exact rfl) hA ?_; intro b1 w1 hB hb1; clear hF hA; have hA := hB; clear hB; (try simp only [setL, List.set_cons_zero, List.set_cons_succ, List.cons_append, List.nil_append] at hA); (have hF := hA.facts); (try simp only [facts_cons, facts_nil, facts_cells, facts_old, facts_fact, facts_obj, facts_map, facts_iter, and_true, true_and] at hF)) | (refine wpList_look_none_at rfl rfl rfl (by (try simp only [Act.eval, Array.getD_eq_getD_getElem?, List.getElem?_toArray, List.getElem?_cons_succ, List.getElem?_cons_zero, Option.getD_some]) <;> exact rfl) hA (k := 9) (es := ctrs b.cs) (by with_reducible repeat (first | exact Sel.here | apply Sel.there)) lawT Tryz.underlying121 hk hmiss.out (z := .int .u64 0) (fun _ => by kernel_rfl) ?_))
  go_ret
  exact ⟨rfl, close0 b hA (by with_reducible repeat (first | exact Sel.here | apply Sel.there)) (by with_reducible repeat (first | exact Sel.here | apply Sel.there)) (by with_reducible repeat (first | exact Sel.here | apply Sel.there))⟩
set_option maxRecDepth 100000 in
theorem counter_some {w : World} {b : Bk} (h : Sep [BookP b] w) {p : ByteArray} (hp : p.size ≤ maxLen) {n : Int} (hn : ctr b.cs p = some n) :
    Calls Tryz.prog 86 #[.pointer (some ⟨b.p, 0, none⟩), .string p] w fun e w' => e = .returned (.int .u64 n) ∧ At [BookP b] w [BookP b] w' := by
  obtain ⟨kl, hk⟩ := keyT hp
  have hmem := Lib.hid (ctr_mem hn)
  have hA := begin0 h
  have hF := hA.facts
  clear h hn
  (try simp only [setL, List.set_cons_zero, List.set_cons_succ, List.cons_append, List.nil_append] at hA); (have hF := hA.facts); (try simp only [facts_cons, facts_nil, facts_cells, facts_old, facts_fact, facts_obj, facts_map, facts_iter, and_true, true_and] at hF)
  go_enter Tryz.func86, Tryz.ntmps86
  go_wp2_with (first | ((with_reducible show wpList _ _ _ ({ dst := _, op := Op.store _ _ _, type := _, pos := _, after := _, guard := _ } :: _) _ _); refine wpList_store_at rfl rfl rfl (by (try simp only [Act.eval, Array.getD_eq_getD_getElem?, List.getElem?_toArray, List.getElem?_cons_succ, List.getElem?_cons_zero, Option.getD_some]) <;> exact rfl) (by exact rfl) hA (by with_reducible repeat (first | exact Sel.here | apply Sel.there)) (by kernel_rfl) rfl (by first | decide | (simp; done) | omega) ?_; intro w1 hB; clear hF hA; have hA := hB; clear hB; (try simp only [setL, List.set_cons_zero, List.set_cons_succ, List.cons_append, List.nil_append] at hA); (have hF := hA.facts); (try simp only [facts_cons, facts_nil, facts_cells, facts_old, facts_fact, facts_obj, facts_map, facts_iter, and_true, true_and] at hF)) | ((with_reducible show wpList _ _ _ ({ dst := _, op := Op.box _ _, type := _, pos := _, after := _, guard := _ } :: _) _ _); refine wpList_box_at rfl rfl (by (try simp only [Act.eval, Array.getD_eq_getD_getElem?, List.getElem?_toArray, List.getElem?_cons_succ, List.getElem?_cons_zero, Option.getD_some]) <;> exact rfl) (by exact rfl) hA ?_; intro b1 w1 hB hb1; clear hF hA; have hA := hB; clear hB; (try simp only [setL, List.set_cons_zero, List.set_cons_succ, List.cons_append, List.nil_append] at hA); (have hF := hA.facts); (try simp only [facts_cons, facts_nil, facts_cells, facts_old, facts_fact, facts_obj, facts_map, facts_iter, and_true, true_and] at hF)) | (refine wpList_look_some_at rfl rfl rfl (by (try simp only [Act.eval, Array.getD_eq_getD_getElem?, List.getElem?_toArray, List.getElem?_cons_succ, List.getElem?_cons_zero, Option.getD_some]) <;> exact rfl) hA (k := 9) (es := ctrs b.cs) (by with_reducible repeat (first | exact Sel.here | apply Sel.there)) lawT Tryz.underlying121 hk hmem.out ?_))
  go_ret
  exact ⟨rfl, close0 b hA (by with_reducible repeat (first | exact Sel.here | apply Sel.there)) (by with_reducible repeat (first | exact Sel.here | apply Sel.there)) (by with_reducible repeat (first | exact Sel.here | apply Sel.there))⟩
theorem counter_any {w : World} {b : Bk} (h : Sep [BookP b] w) {p : ByteArray} (hp : p.size ≤ maxLen) :
    Calls Tryz.prog 86 #[.pointer (some ⟨b.p, 0, none⟩), .string p] w fun e w' => e = .returned (.int .u64 (counter b.first b.cs p)) ∧ At [BookP b] w [BookP b] w' := by
  cases hn : ctr b.cs p with
  | none => have := counter_none h hp hn; unfold counter; rw [hn]; exact this
  | some n => have := counter_some h hp hn; unfold counter; rw [hn]; exact this

/-- may there be such an entry? -/
def rightM (p : ByteArray) (mode : Int) : Bool := rightB (bl p) && (decide (mode = 1) || decide (mode = 2))
set_option maxRecDepth 100000 in
theorem right_any (p : ByteArray) (mode : Int) (w : World) (hp : p.size ≤ 1000000) : Calls Tryz.prog 90 #[.string p, .int .i64 mode] w fun e w' => e = .returned (.bool (rightM p mode)) ∧ Ext w w' := by
  have hr := Path.right_any p w (by omega)
  unfold rightM
  generalize rightB (bl p) = rb at *
  go_enter Tryz.func90, Tryz.ntmps90
  go_wp2_with fail
  refine hr.mono ?_
  clear hr
  rintro e w1 ⟨rfl, hx⟩
  by_cases h1 : mode = 1
  · subst h1
    cases rb
    all_goals
      go_wp2_with fail
      go_ret
      exact ⟨rfl, hx⟩
  · have e1 : (mode == 1) = false := by simpa using h1
    by_cases h2 : mode = 2
    · subst h2
      cases rb
      all_goals
        go_wp2_with fail
        go_ret
        exact ⟨rfl, hx⟩
    · have e2 : (mode == 2) = false := by simpa using h2
      have d1 := decide_eq_false h1
      have d2 := decide_eq_false h2
      clear h1 h2
      cases rb
      all_goals
        go_wp2_with fail
        go_ret
        exact ⟨by simp [d1, d2], hx⟩
set_option maxRecDepth 100000 in
theorem way_any (x y : Ent) (w : World) (hx : x.path.size ≤ 1000000) (hy : y.path.size ≤ 1000000) : Calls Tryz.prog 128 #[x.val, y.val] w fun e w' => e = .returned (.bool (wayB x y)) ∧ Ext w w' := by
  have ho := fun w => Path.overlap_any x.path y.path w (by omega) (by omega)
  unfold wayB
  generalize overB (bl x.path) (bl y.path) = ob at *
  have hA : At [] w [] w := At.start (L0 := []) trivial
  have hF := hA.facts
  obtain ⟨p1, n1, f1, m1, k1, s1⟩ := x
  obtain ⟨p2, n2, f2, m2, k2, s2⟩ := y
  simp only [Ent.val] at *
  by_cases h1 : m1 = 2
  · subst h1
    go_enter Tryz.func128, Tryz.ntmps128
    go_wp2_with (first | ((with_reducible show wpList _ _ _ ({ dst := _, op := Op.store _ _ _, type := _, pos := _, after := _, guard := _ } :: _) _ _); refine wpList_store_at rfl rfl rfl (by (try simp only [Act.eval, Array.getD_eq_getD_getElem?, List.getElem?_toArray, List.getElem?_cons_succ, List.getElem?_cons_zero, Option.getD_some]) <;> exact rfl) (by exact rfl) hA (by with_reducible repeat (first | exact Sel.here | apply Sel.there)) (by kernel_rfl) rfl (by first | decide | (simp; done) | omega) ?_; intro w1 hB; clear hF hA; have hA := hB; clear hB; (try simp only [setL, List.set_cons_zero, List.set_cons_succ, List.cons_append, List.nil_append] at hA); (have hF := hA.facts); (try simp only [facts_cons, facts_nil, facts_cells, facts_old, facts_fact, facts_obj, facts_map, facts_iter, and_true, true_and] at hF)) | ((with_reducible show wpList _ _ _ ({ dst := _, op := Op.box _ _, type := _, pos := _, after := _, guard := _ } :: _) _ _); refine wpList_box_at rfl rfl (by (try simp only [Act.eval, Array.getD_eq_getD_getElem?, List.getElem?_toArray, List.getElem?_cons_succ, List.getElem?_cons_zero, Option.getD_some]) <;> exact rfl) (by exact rfl) hA ?_; intro b1 w1 hB hb1; clear hF hA; have hA := hB; clear hB; (try simp only [setL, List.set_cons_zero, List.set_cons_succ, List.cons_append, List.nil_append] at hA); (have hF := hA.facts); (try simp only [facts_cons, facts_nil, facts_cells, facts_old, facts_fact, facts_obj, facts_map, facts_iter, and_true, true_and] at hF)))
    refine (ho _).mono ?_
    clear ho
    rintro e w2 ⟨rfl, hx2⟩
    cases ob
    all_goals
      go_wp2_with fail
      go_ret
      exact ⟨rfl, hA.toExt.trans hx2⟩
  · have e1 : (m1 == 2) = false := by simpa using h1
    have d1 := Lib.hid (decide_eq_false h1)
    clear h1
    by_cases h2 : m2 = 2
    · subst h2
      go_enter Tryz.func128, Tryz.ntmps128
      go_wp2_with (first | ((with_reducible show wpList _ _ _ ({ dst := _, op := Op.store _ _ _, type := _, pos := _, after := _, guard := _ } :: _) _ _); refine wpList_store_at rfl rfl rfl (by (try simp only [Act.eval, Array.getD_eq_getD_getElem?, List.getElem?_toArray, List.getElem?_cons_succ, List.getElem?_cons_zero, Option.getD_some]) <;> exact rfl) (by exact rfl) hA (by with_reducible repeat (first | exact Sel.here | apply Sel.there)) (by kernel_rfl) rfl (by first | decide | (simp; done) | omega) ?_; intro w1 hB; clear hF hA; have hA := hB; clear hB; (try simp only [setL, List.set_cons_zero, List.set_cons_succ, List.cons_append, List.nil_append] at hA); (have hF := hA.facts); (try simp only [facts_cons, facts_nil, facts_cells, facts_old, facts_fact, facts_obj, facts_map, facts_iter, and_true, true_and] at hF)) | ((with_reducible show wpList _ _ _ ({ dst := _, op := Op.box _ _, type := _, pos := _, after := _, guard := _ } :: _) _ _); refine wpList_box_at rfl rfl (by (try simp only [Act.eval, Array.getD_eq_getD_getElem?, List.getElem?_toArray, List.getElem?_cons_succ, List.getElem?_cons_zero, Option.getD_some]) <;> exact rfl) (by exact rfl) hA ?_; intro b1 w1 hB hb1; clear hF hA; have hA := hB; clear hB; (try simp only [setL, List.set_cons_zero, List.set_cons_succ, List.cons_append, List.nil_append] at hA); (have hF := hA.facts); (try simp only [facts_cons, facts_nil, facts_cells, facts_old, facts_fact, facts_obj, facts_map, facts_iter, and_true, true_and] at hF)))
      refine (ho _).mono ?_
      clear ho
      rintro e w2 ⟨rfl, hx2⟩
      cases ob
      all_goals
        go_wp2_with fail
        go_ret
        exact ⟨by rw [d1.out]; rfl, hA.toExt.trans hx2⟩
    · have e2 : (m2 == 2) = false := by simpa using h2
      have d2 := Lib.hid (decide_eq_false h2)
      clear h2 ho
      go_enter Tryz.func128, Tryz.ntmps128
      go_wp2_with (first | ((with_reducible show wpList _ _ _ ({ dst := _, op := Op.store _ _ _, type := _, pos := _, after := _, guard := _ } :: _) _ _); refine wpList_store_at rfl rfl rfl (by (try simp only [Act.eval, Array.getD_eq_getD_getElem?, List.getElem?_toArray, List.getElem?_cons_succ, List.getElem?_cons_zero, Option.getD_some]) <;> exact rfl) (by exact rfl) hA (by with_reducible repeat (first | exact Sel.here | apply Sel.there)) (by kernel_rfl) rfl (by first | decide | (simp; done) | omega) ?_; intro w1 hB; clear hF hA; have hA := hB; clear hB; (try simp only [setL, List.set_cons_zero, List.set_cons_succ, List.cons_append, List.nil_append] at hA); (have hF := hA.facts); (try simp only [facts_cons, facts_nil, facts_cells, facts_old, facts_fact, facts_obj, facts_map, facts_iter, and_true, true_and] at hF)) | ((with_reducible show wpList _ _ _ ({ dst := _, op := Op.box _ _, type := _, pos := _, after := _, guard := _ } :: _) _ _); refine wpList_box_at rfl rfl (by (try simp only [Act.eval, Array.getD_eq_getD_getElem?, List.getElem?_toArray, List.getElem?_cons_succ, List.getElem?_cons_zero, Option.getD_some]) <;> exact rfl) (by exact rfl) hA ?_; intro b1 w1 hB hb1; clear hF hA; have hA := hB; clear hB; (try simp only [setL, List.set_cons_zero, List.set_cons_succ, List.cons_append, List.nil_append] at hA); (have hF := hA.facts); (try simp only [facts_cons, facts_nil, facts_cells, facts_old, facts_fact, facts_obj, facts_map, facts_iter, and_true, true_and] at hF)))
      go_ret
      exact ⟨by rw [d1.out, d2.out]; rfl, hA.toExt⟩
end Go.Proofs.YtalfoiodejoicaaGreatDoor.Lock
end
