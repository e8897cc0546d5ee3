/- LockP, joined. -/
import Derived.Test.YtpebabaigakagaaGreatDoorP8
set_option linter.unusedSimpArgs false
set_option linter.unusedVariables false
set_option maxRecDepth 100000
set_option maxHeartbeats 16000000
section
namespace Go.Proofs.YtpebabaigakagaaGreatDoor.Lock
open Path (bl rightB overB)
def putC : List (ByteArray × Int) → ByteArray → Int → List (ByteArray × Int)
 | [], p, n => [(p, n)]
 | c :: cs, p, n => if c.1 = p then (p, n) :: cs else c :: putC cs p n
theorem putC_none : ∀ {cs : List (ByteArray × Int)} {p : ByteArray} {n : Int}, ctr cs p = none → putC cs p n = cs ++ [(p, n)]
 | [], p, n, _ => rfl
 | c :: cs, p, n, h => by
  unfold ctr at h
  by_cases hc : c.1 = p
  · simp [List.find?_cons, hc] at h
  · have h2 : ctr cs p = none := by unfold ctr; simpa [List.find?_cons, hc] using h
    simp [putC, hc, putC_none h2]
theorem putC_mid {l2 : List (ByteArray × Int)} {p : ByteArray} {u n : Int} : ∀ {l1 : List (ByteArray × Int)}, (∀ c ∈ l1, c.1 ≠ p) → putC (l1 ++ (p, u) :: l2) p n = l1 ++ (p, n) :: l2
 | [], _ => by simp [putC]
 | c :: l1, h => by
  have := putC_mid (l1 := l1) (n := n) (u := u) (l2 := l2) (fun x hx => h x (by simp [hx]))
  simp [putC, h c (by simp), this]
theorem ctr_split {cs : List (ByteArray × Int)} {p : ByteArray} {u : Int} (h : ctr cs p = some u) : ∃ l1 l2, cs = l1 ++ (p, u) :: l2 ∧ ∀ c ∈ l1, c.1 ≠ p := by
 unfold ctr at h
 simp only [Option.map_eq_some_iff] at h
 obtain ⟨q, h1, rfl⟩ := h
 obtain ⟨h1, l1, l2, h2, h3⟩ := List.find?_eq_some_iff_append.1 h1
 have h4 : q.1 = p := by simpa using h1
 subst h4
 exact ⟨l1, l2, h2, fun c hc => by simpa using h3 c hc⟩
theorem ctr_put (cs : List (ByteArray × Int)) (p q : ByteArray) (n : Int) : ctr (putC cs p n) q = if p = q then some n else ctr cs q := by
 induction cs with
 | nil => by_cases h : p = q <;> simp [putC, ctr, h]
 | cons c cs ih =>
  unfold ctr at ih ⊢
  by_cases hc : c.1 = p
  · by_cases h : p = q
    · simp [putC, hc, List.find?_cons, h]
    · have h2 : ¬ c.1 = q := fun e => h (hc.symm.trans e)
      simp [putC, hc, List.find?_cons, h]
  · by_cases h2 : c.1 = q
    · have h : ¬ p = q := fun e => hc (h2.trans e.symm)
      have hq : ¬ q = p := fun e => h e.symm
      simp [putC, hc, List.find?_cons, h, hq, h2]
    · simp [putC, hc, List.find?_cons, h2, ih]
theorem putC_len (cs : List (ByteArray × Int)) (p : ByteArray) (n : Int) : (putC cs p n).length ≤ cs.length + 1 := by
 induction cs with
 | nil => simp [putC]
 | cons c cs ih => unfold putC; split <;> simp <;> omega
theorem putC_mem {cs : List (ByteArray × Int)} {p : ByteArray} {n : Int} {c : ByteArray × Int} (h : c ∈ putC cs p n) : c = (p, n) ∨ c ∈ cs := by
 induction cs with
 | nil => simp [putC] at h; exact .inl h
 | cons d cs ih =>
  unfold putC at h
  split at h
  · rcases List.mem_cons.1 h with h | h
    · exact .inl h
    · exact .inr (by simp [h])
  · rcases List.mem_cons.1 h with h | h
    · exact .inr (by simp [h])
    · rcases ih h with q | q
      · exact .inl q
      · exact .inr (by simp [q])
structure S3 where
 first : Int
 es : List Ent
 cs : List (ByteArray × Int)
def lastN : Int := 9223372036854775807
def S3.may (s : S3) (p : ByteArray) (n : Int) (f : ByteArray) (mode : Int) : Int :=
 if rightM p mode = false then 10 else if (find s.es p n f).isSome = true then 15 else if 64 ≤ heldN s.es n f then 14 else if lastN ≤ counter s.first s.cs p then 53 else 0
def S3.newE (s : S3) (p : ByteArray) (n : Int) (f : ByteArray) (mode : Int) : Ent := ⟨p, n, f, mode, counter s.first s.cs p + 1, maxS s.es p + 1⟩
def S3.added (s : S3) (p : ByteArray) (n : Int) (f : ByteArray) (mode : Int) : S3 := ⟨s.first, s.es ++ [s.newE p n f mode], putC s.cs p (counter s.first s.cs p + 1)⟩
def S3.add (s : S3) (p : ByteArray) (n : Int) (f : ByteArray) (mode : Int) : S3 := if s.may p n f mode = 0 then s.added p n f mode else s
def S3.addE (s : S3) (p : ByteArray) (n : Int) (f : ByteArray) (mode : Int) : Ent := if s.may p n f mode = 0 then s.newE p n f mode else nullE
def S3.remove (s : S3) (p : ByteArray) (n : Int) (f : ByteArray) : S3 := ⟨s.first, s.es.filter (fun e => !e.is p n f), s.cs⟩
def S3.dropAll (s : S3) (n : Int) (f : ByteArray) : S3 := ⟨s.first, s.es.filter (fun e => !e.of n f), s.cs⟩
structure Op where
 kind : Int
 mode : Int
 path : ByteArray
 num : Int
 foot : ByteArray
def S3.step (s : S3) (o : Op) : S3 :=
 if o.kind = 1 then s.add o.path o.num o.foot o.mode else if o.kind = 2 then s.remove o.path o.num o.foot else if o.kind = 3 then s.dropAll o.num o.foot else s
structure Op.ok (o : Op) : Prop where
 path : o.path.size ≤ 100
 num0 : 0 ≤ o.num
 num1 : o.num < big64
 foot : o.foot.size ≤ maxLen
structure Inv (s : S3) (k : Nat) : Prop where
 len : s.es.length ≤ k
 clen : s.cs.length ≤ k
 keys : s.es.Pairwise (fun a b => ¬(a.path = b.path ∧ a.num = b.num ∧ a.foot = b.foot))
 ckeys : s.cs.Pairwise (fun a b => a.1 ≠ b.1)
 right : ∀ e ∈ s.es, rightB (bl e.path) = true
 mode : ∀ e ∈ s.es, e.mode = 1 ∨ e.mode = 2
 path : ∀ e ∈ s.es, e.path.size ≤ 100
 num0 : ∀ e ∈ s.es, 0 ≤ e.num
 num1 : ∀ e ∈ s.es, e.num < big64
 foot : ∀ e ∈ s.es, e.foot.size ≤ maxLen
 stamp0 : ∀ e ∈ s.es, 1 ≤ e.stamp
 stamp1 : ∀ e ∈ s.es, e.stamp ≤ k
 n0 : ∀ e ∈ s.es, 0 ≤ e.n
 n1 : ∀ e ∈ s.es, e.n ≤ lastN
 order : s.es.Pairwise (fun a b => overB (bl a.path) (bl b.path) = true → a.stamp < b.stamp)
 nums : s.es.Pairwise (fun a b => a.path = b.path → a.n < b.n)
 ctrs : ∀ e ∈ s.es, e.n ≤ counter s.first s.cs e.path
 first0 : 0 ≤ s.first
 first1 : s.first < big64
 cpath : ∀ c ∈ s.cs, c.1.size ≤ 100
 c0 : ∀ c ∈ s.cs, s.first < c.2
 c1 : ∀ c ∈ s.cs, c.2 ≤ lastN
 cright : ∀ c ∈ s.cs, rightB (bl c.1) = true
theorem inv_new {first : Int} (h0 : 0 ≤ first) (h1 : first < big64) : Inv ⟨first, [], []⟩ 0 where
 len := by simp
 clen := by simp
 keys := .nil
 ckeys := .nil
 right := nofun
 mode := nofun
 path := nofun
 num0 := nofun
 num1 := nofun
 foot := nofun
 stamp0 := nofun
 stamp1 := nofun
 n0 := nofun
 n1 := nofun
 order := .nil
 nums := .nil
 ctrs := nofun
 first0 := h0
 first1 := h1
 cpath := nofun
 c0 := nofun
 c1 := nofun
 cright := nofun
theorem Inv.mono {s : S3} {k j : Nat} (h : Inv s k) (hj : k ≤ j) : Inv s j :=
 { h with len := by have := h.len; omega, clen := by have := h.clen; omega, stamp1 := fun e he => by have := h.stamp1 e he; omega }
theorem Inv.sub {s : S3} {k : Nat} (h : Inv s k) {l : List Ent} (hl : l.Sublist s.es) : Inv ⟨s.first, l, s.cs⟩ k :=
 { len := Nat.le_trans hl.length_le h.len, clen := h.clen, keys := h.keys.sublist hl, ckeys := h.ckeys, right := fun e he => h.right e (hl.subset he), mode := fun e he => h.mode e (hl.subset he),
   path := fun e he => h.path e (hl.subset he), num0 := fun e he => h.num0 e (hl.subset he), num1 := fun e he => h.num1 e (hl.subset he), foot := fun e he => h.foot e (hl.subset he),
   stamp0 := fun e he => h.stamp0 e (hl.subset he), stamp1 := fun e he => h.stamp1 e (hl.subset he), n0 := fun e he => h.n0 e (hl.subset he), n1 := fun e he => h.n1 e (hl.subset he),
   order := h.order.sublist hl, nums := h.nums.sublist hl, ctrs := fun e he => h.ctrs e (hl.subset he), first0 := h.first0, first1 := h.first1, cpath := h.cpath, c0 := h.c0, c1 := h.c1, cright := h.cright }
theorem find_none_iff {es : List Ent} {p : ByteArray} {n : Int} {f : ByteArray} : find es p n f = none ↔ ∀ e ∈ es, ¬(e.path = p ∧ e.num = n ∧ e.foot = f) := by
 unfold find
 rw [List.find?_eq_none]
 simp [Ent.is]
theorem maxS_ge {l : List Ent} {p : ByteArray} {e : Ent} (he : e ∈ l) (h : overB (bl e.path) (bl p) = true) : e.stamp ≤ maxS l p := by
 have key : ∀ (l : List Ent) (m : Int), m ≤ l.foldl (fun m e => if overB (bl e.path) (bl p) then max m e.stamp else m) m := by
  intro l
  induction l with
  | nil => intro m; exact Int.le_refl _
  | cons x l ih =>
   intro m
   rw [List.foldl_cons]
   refine Int.le_trans ?_ (ih _)
   split <;> omega
 obtain ⟨l1, l2, rfl⟩ := List.append_of_mem he
 unfold maxS
 rw [List.foldl_append, List.foldl_cons, if_pos h]
 exact Int.le_trans (by omega) (key l2 _)
theorem may_parts {s : S3} {p : ByteArray} {n : Int} {f : ByteArray} {mode : Int} (h : s.may p n f mode = 0) : rightM p mode = true ∧ find s.es p n f = none ∧ heldN s.es n f < 64 ∧ counter s.first s.cs p < lastN := by
 unfold S3.may at h
 split at h
 · omega
 rename_i h1
 split at h
 · omega
 rename_i h2
 split at h
 · omega
 rename_i h3
 split at h
 · omega
 rename_i h4
 exact ⟨by simpa using h1, by simpa using h2, by omega, by omega⟩
theorem rightM_parts {p : ByteArray} {mode : Int} (h : rightM p mode = true) : rightB (bl p) = true ∧ (mode = 1 ∨ mode = 2) := by
 unfold rightM at h
 simpa using h
theorem counter_ge {s : S3} {k : Nat} (h : Inv s k) (p : ByteArray) : s.first ≤ counter s.first s.cs p := by
 unfold counter
 cases hc : ctr s.cs p with
 | none => simp
 | some u =>
  obtain ⟨l1, l2, e, _⟩ := ctr_split hc
  have := h.c0 (p, u) (by rw [e]; simp)
  simp at this ⊢; omega
theorem inv_added {s : S3} {k : Nat} (h : Inv s k) {p : ByteArray} {n : Int} {f : ByteArray} {mode : Int} (hm : s.may p n f mode = 0) (hp : p.size ≤ 100) (h0 : 0 ≤ n) (h1 : n < big64) (hf : f.size ≤ maxLen) : Inv (s.added p n f mode) (k + 1) := by
 obtain ⟨hr, hn, hh, hc⟩ := may_parts hm
 obtain ⟨hr, hmo⟩ := rightM_parts hr
 rw [find_none_iff] at hn
 have hms := maxS_le (l := s.es) (p := p) (B := k) (by omega) h.stamp1
 have hcg := counter_ge h p
 have hf0 := h.first0
 have mem : ∀ {P : Ent → Prop}, (∀ e ∈ s.es, P e) → P (s.newE p n f mode) → ∀ e ∈ s.es ++ [s.newE p n f mode], P e := fun h1 h2 e he => by
  rcases List.mem_append.1 he with he | he
  · exact h1 e he
  · rw [List.mem_singleton.1 he]; exact h2
 have pw : ∀ {R : Ent → Ent → Prop}, s.es.Pairwise R → (∀ e ∈ s.es, R e (s.newE p n f mode)) → (s.es ++ [s.newE p n f mode]).Pairwise R := fun h1 h2 =>
  List.pairwise_append.2 ⟨h1, List.pairwise_singleton _ _, fun a ha b hb => by rw [List.mem_singleton.1 hb]; exact h2 a ha⟩
 have cc : ∀ q, counter s.first (putC s.cs p (counter s.first s.cs p + 1)) q = if p = q then counter s.first s.cs p + 1 else counter s.first s.cs q := fun q => by
  unfold counter
  rw [ctr_put]
  split <;> simp
 have ck : (putC s.cs p (counter s.first s.cs p + 1)).Pairwise (fun a b => a.1 ≠ b.1) := by
  cases hq : ctr s.cs p with
  | none =>
   rw [putC_none hq]
   refine List.pairwise_append.2 ⟨h.ckeys, List.pairwise_singleton _ _, fun a ha b hb => ?_⟩
   rw [List.mem_singleton.1 hb]
   intro e
   have := ctr_none hq (ctrE a) (List.mem_map.2 ⟨a, ha, rfl⟩)
   exact this (by simp [ctrE, e])
  | some u =>
   obtain ⟨l1, l2, e, hl⟩ := ctr_split hq
   have hk := h.ckeys
   rw [e] at hk ⊢
   rw [putC_mid hl]
   rw [List.pairwise_append] at hk ⊢
   refine ⟨hk.1, ?_, fun a ha b hb => ?_⟩
   · have := List.pairwise_cons.1 hk.2.1
     exact List.pairwise_cons.2 ⟨this.1, this.2⟩
   · rcases List.mem_cons.1 hb with rfl | hb
     · exact hl a ha
     · exact hk.2.2 a ha b (by simp [hb])
 constructor
 case len => simp [S3.added]; exact h.len
 case clen => exact Nat.le_trans (putC_len _ _ _) (by have := h.clen; omega)
 case keys => exact pw h.keys (fun e he => hn e he)
 case ckeys => exact ck
 case right => exact mem h.right hr
 case mode => exact mem h.mode hmo
 case path => exact mem h.path hp
 case num0 => exact mem h.num0 h0
 case num1 => exact mem h.num1 h1
 case foot => exact mem h.foot hf
 case stamp0 => exact mem h.stamp0 (by simp only [S3.newE]; omega)
 case stamp1 => exact mem (fun e he => by have := h.stamp1 e he; omega) (by simp only [S3.newE]; omega)
 case n0 => exact mem h.n0 (by simp only [S3.newE]; omega)
 case n1 => exact mem h.n1 (by simp only [S3.newE]; omega)
 case order => exact pw h.order (fun e he ho => by have : e.stamp ≤ maxS s.es p := maxS_ge he ho; simp only [S3.newE]; omega)
 case nums => exact pw h.nums (fun e he ho => by have := h.ctrs e he; simp only [S3.newE] at ho ⊢; rw [ho] at this; omega)
 case ctrs =>
  refine mem (fun e he => ?_) ?_
  · have := h.ctrs e he
    simp only [S3.added]
    rw [cc]
    split
    · rename_i hq; subst hq; omega
    · exact this
  · simp only [S3.added, S3.newE]; rw [cc, if_pos rfl]; exact Int.le_refl _
 case first0 => exact h.first0
 case first1 => exact h.first1
 case cpath =>
  intro c hc
  rcases putC_mem hc with rfl | hc
  · exact hp
  · exact h.cpath c hc
 case c0 =>
  intro c hc
  rcases putC_mem hc with rfl | hc
  · simp only [S3.added]; omega
  · exact h.c0 c hc
 case c1 =>
  intro c hc
  rcases putC_mem hc with rfl | hc
  · simp only; omega
  · exact h.c1 c hc
 case cright =>
  intro c hc
  rcases putC_mem hc with rfl | hc
  · exact hr
  · exact h.cright c hc
theorem inv_step {s : S3} {k : Nat} (h : Inv s k) {o : Op} (ho : o.ok) : Inv (s.step o) (k + 1) := by
 unfold S3.step
 split
 · unfold S3.add
   split
   · rename_i hm
     exact inv_added h hm ho.path ho.num0 ho.num1 ho.foot
   · exact h.mono (by omega)
 split
 · exact (h.sub List.filter_sublist).mono (by omega)
 split
 · exact (h.sub List.filter_sublist).mono (by omega)
 · exact h.mono (by omega)
def grantD (l : List Ent) (k : Nat) : Bool := match l[k]? with
 | some e => (l.take k).all (fun x => !wayB x e)
 | none => false
theorem way_over {a b : Ent} (h : wayB a b = true) : overB (bl a.path) (bl b.path) = true := by
 unfold wayB at h
 simp at h
 exact h.2
theorem clear_grant {l : List Ent} (ho : l.Pairwise (fun a b => overB (bl a.path) (bl b.path) = true → a.stamp < b.stamp)) {k : Nat} {e : Ent} (hk : l[k]? = some e) : clearB l e = grantD l k := by
 obtain ⟨hk1, hk2⟩ := List.getElem?_eq_some_iff.1 hk
 unfold grantD
 rw [hk]
 have hl : l = l.take k ++ e :: l.drop (k + 1) := by
  rw [← hk2, List.getElem_cons_drop hk1, List.take_append_drop]
 have ho' := ho
 rw [hl, List.pairwise_append] at ho'
 have h3 := List.pairwise_cons.1 ho'.2.1
 show clearB l e = (l.take k).all (fun x => !wayB x e)
 conv => lhs; rw [hl]
 unfold clearB
 rw [List.all_append, List.all_cons]
 have e1 : (l.take k).all (fun x => !(decide (x.stamp < e.stamp) && wayB x e)) = (l.take k).all (fun x => !wayB x e) := by
  rw [Bool.eq_iff_iff, List.all_eq_true, List.all_eq_true]
  refine forall_congr' fun x => forall_congr' fun hx => ?_
  cases hw : wayB x e with
  | false => simp
  | true => simp [ho'.2.2 x hx e (by simp) (way_over hw)]
 have e2 : (l.drop (k + 1)).all (fun x => !(decide (x.stamp < e.stamp) && wayB x e)) = true := by
  rw [List.all_eq_true]
  intro x hx
  cases hw : wayB x e with
  | false => simp
  | true =>
   have := h3.1 x hx (by rw [Path.over_comm]; exact way_over hw)
   simp; omega
 rw [e1, e2]
 simp
def couldD (l : List Ent) (p : ByteArray) (mode : Int) : Bool := l.all (fun x => !wayB x ⟨p, 0, .empty, mode, 0, 0⟩) && rightM p mode
theorem clear_could (l : List Ent) (p : ByteArray) (mode : Int) : clearB l ⟨p, 0, .empty, mode, 0, maxS l p + 1⟩ = l.all (fun x => !wayB x ⟨p, 0, .empty, mode, 0, 0⟩) := by
 unfold clearB
 rw [Bool.eq_iff_iff, List.all_eq_true, List.all_eq_true]
 refine forall_congr' fun x => forall_congr' fun hx => ?_
 have e : wayB x ⟨p, 0, .empty, mode, 0, maxS l p + 1⟩ = wayB x ⟨p, 0, .empty, mode, 0, 0⟩ := rfl
 rw [e]
 cases hw : wayB x ⟨p, 0, .empty, mode, 0, 0⟩ with
 | false => simp
 | true =>
  have h : x.stamp ≤ maxS l p := maxS_ge hx (way_over hw)
  have : x.stamp < maxS l p + 1 := by omega
  simp [this]
def checkD (l : List Ent) (p : ByteArray) (n : Int) : Bool := match l.findIdx? (fun e => decide (e.path = p ∧ e.n = n)) with
 | some k => grantD l k
 | none => false
theorem nums_one {l : List Ent} (h : l.Pairwise (fun a b => a.path = b.path → a.n < b.n)) {i j : Nat} {a b : Ent} (hi : l[i]? = some a) (hj : l[j]? = some b) (hp : a.path = b.path) (hn : a.n = b.n) : i = j := by
 obtain ⟨hi1, hi2⟩ := List.getElem?_eq_some_iff.1 hi
 obtain ⟨hj1, hj2⟩ := List.getElem?_eq_some_iff.1 hj
 have hp' := List.pairwise_iff_getElem.1 h
 rcases Nat.lt_trichotomy i j with q | q | q
 · have := hp' i j hi1 hj1 q (by rw [hi2, hj2, hp])
   rw [hi2, hj2] at this; omega
 · exact q
 · have := hp' j i hj1 hi1 q (by rw [hi2, hj2, hp])
   rw [hi2, hj2] at this; omega
theorem check_none {l : List Ent} {p : ByteArray} {n : Int} (h : ∀ e ∈ l, ¬(e.path = p ∧ e.n = n)) : checkD l p n = false := by
 unfold checkD
 rw [List.findIdx?_eq_none_iff.2 (by simpa using h)]
theorem check_some {l : List Ent} (h : l.Pairwise (fun a b => a.path = b.path → a.n < b.n)) {k : Nat} {e : Ent} (hk : l[k]? = some e) : checkD l e.path e.n = grantD l k := by
 unfold checkD
 cases hf : l.findIdx? (fun x => decide (x.path = e.path ∧ x.n = e.n)) with
 | none =>
  have := List.findIdx?_eq_none_iff.1 hf e (List.mem_of_getElem? hk)
  simp at this
 | some j =>
  obtain ⟨hj, h2, _⟩ := List.findIdx?_eq_some_iff_getElem.1 hf
  simp at h2
  rw [nums_one h (List.getElem?_eq_getElem hj) hk h2.1 h2.2]
end Go.Proofs.YtpebabaigakagaaGreatDoor.Lock
end
