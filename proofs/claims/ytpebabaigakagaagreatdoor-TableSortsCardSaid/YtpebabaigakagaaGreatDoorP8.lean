/- LockW, LockV, LockC, LockD, LockE, MapD, LockF, joined. -/
import Derived.Test.YtpebabaigakagaaGreatDoorP7
import Derived.Test.YtpebabaigakagaaGreatDoorP4
import Derived.Deep.LoopGhost
import Derived.Test.YtpebabaigakagaaGreatDoorP2
set_option linter.unusedSimpArgs false
set_option linter.unusedVariables false
set_option maxRecDepth 100000
set_option maxHeartbeats 16000000
section
namespace Go.Proofs.YtpebabaigakagaaGreatDoor.Lock
open Go.RowKit
open Go.Maps (Keyed)
open Path (bl rightB overB)
def NewPost (first : Int) (w : World) (e : Ending) (w' : World) : Prop := ∃ b : Bk, e = .returned (.pointer (some ⟨b.p, 0, none⟩)) ∧ b.first = first ∧ b.es = [] ∧ b.cs = [] ∧ At [] w [BookP b] w'
theorem new_any (w : World) (first : Int) : Calls Tryz.prog 55 #[.int .u64 first] w (NewPost first w) := by
 have hA : At [] w [] w := At.start (L0 := []) trivial
 have hF := hA.facts
 go_enter Tryz.func55, Tryz.ntmps55
 go_wp2_with (first | ((with_reducible refine gbx ?_); refine wC hA ?_; clear hF hA; intro b1 w1 hA hb1 hF; (try simp only [uY] at hA hF)) | (refine wpList_makeMap_at Tryz.prog 90 rfl rfl hA ?_; intro b1 w1 hB hb1; clear hF hA; have hA := hB; clear hB; have hF := hA.facts; (try simp only [uY] at hA hF); refine wpList_makeMap_at Tryz.prog 9 rfl rfl hA ?_; intro b2 w1 hB hb2; clear hF hA; have hA := hB; clear hB; have hF := hA.facts; (try simp only [uY] at hA hF)))
 go_ret
 exact ⟨⟨_, _, _, first, [], []⟩, rfl, rfl, rfl, rfl, close0 ⟨_, _, _, first, [], []⟩ hA sR sZ sZ⟩
theorem counter_none {w : World} {b : Bk} (h : Sep [BookP b] w) {p : ByteArray} (hp : p.size ≤ maxLen) (hn : ctr b.cs p = none) :
 Calls Tryz.prog 156 #[.pointer (some ⟨b.p, 0, none⟩), .string p] w fun e w' => e = .returned (.int .u64 b.first) ∧ At [BookP b] w [BookP b] w' := by
 obtain ⟨kl, hk⟩ := keyT hp
 have hmiss := Lib.hid (ctr_none hn)
 have hA := begin0 h
 have hF := hA.facts
 clear h hn
 have hF := hA.facts; (try simp only [uY] at hA hF)
 go_enter Tryz.func156, Tryz.ntmps156
 go_wp2_with (refine wpList_look_none_at rfl rfl rfl (by (try simp only [Act.eval, eV]) <;> exact rfl) hA (k := 9) (es := ctrs b.cs) sR lawT Tryz.underlying91 hk hmiss.out (z := .int .u64 0) (fun _ => by kernel_rfl) ?_)
 go_ret
 exact ⟨rfl, close0 b hA sR sR sR⟩
theorem counter_some {w : World} {b : Bk} (h : Sep [BookP b] w) {p : ByteArray} (hp : p.size ≤ maxLen) {n : Int} (hn : ctr b.cs p = some n) :
 Calls Tryz.prog 156 #[.pointer (some ⟨b.p, 0, none⟩), .string p] w fun e w' => e = .returned (.int .u64 n) ∧ At [BookP b] w [BookP b] w' := by
 obtain ⟨kl, hk⟩ := keyT hp
 have hmem := Lib.hid (ctr_mem hn)
 have hA := begin0 h
 have hF := hA.facts
 clear h hn
 have hF := hA.facts; (try simp only [uY] at hA hF)
 go_enter Tryz.func156, Tryz.ntmps156
 go_wp2_with (refine wpList_look_some_at rfl rfl rfl (by (try simp only [Act.eval, eV]) <;> exact rfl) hA (k := 9) (es := ctrs b.cs) sR lawT Tryz.underlying91 hk hmem.out ?_)
 go_ret
 exact ⟨rfl, close0 b hA sR sR sR⟩
theorem counter_any {w : World} {b : Bk} (h : Sep [BookP b] w) {p : ByteArray} (hp : p.size ≤ maxLen) :
 Calls Tryz.prog 156 #[.pointer (some ⟨b.p, 0, none⟩), .string p] w fun e w' => e = .returned (.int .u64 (counter b.first b.cs p)) ∧ At [BookP b] w [BookP b] w' := by
 cases hn : ctr b.cs p with
 | none => have := counter_none h hp hn; unfold counter; rw [hn]; exact this
 | some n => have := counter_some h hp hn; unfold counter; rw [hn]; exact this
def rightM (p : ByteArray) (mode : Int) : Bool := rightB (bl p) && (decide (mode = 1) || decide (mode = 2))
theorem right_any (p : ByteArray) (mode : Int) (w : World) (hp : p.size ≤ 1000000) : Calls Tryz.prog 154 #[.string p, .int .i64 mode] w fun e w' => e = .returned (.bool (rightM p mode)) ∧ Ext w w' := by
 have hr := Path.right_any p w (by omega)
 unfold rightM
 generalize rightB (bl p) = rb at *
 go_enter Tryz.func154, Tryz.ntmps154
 go_wp2_with fail
 refine hr.mono ?_
 clear hr
 rintro e w1 ⟨rfl, hx⟩
 by_cases h1 : mode = 1
 · subst h1
   cases rb
   all_goals
    go_wp2_with fail
    go_ret
    exact ⟨rfl, hx⟩
 · have e1 : (mode == 1) = false := by simpa using h1
   by_cases h2 : mode = 2
   · subst h2
     cases rb
     all_goals
      go_wp2_with fail
      go_ret
      exact ⟨rfl, hx⟩
   · have e2 : (mode == 2) = false := by simpa using h2
     have d1 := decide_eq_false h1
     have d2 := decide_eq_false h2
     clear h1 h2
     cases rb
     all_goals
      go_wp2_with fail
      go_ret
      exact ⟨by simp [d1, d2], hx⟩
theorem way_any (x y : Ent) (w : World) (hx : x.path.size ≤ 1000000) (hy : y.path.size ≤ 1000000) : Calls Tryz.prog 158 #[x.val, y.val] w fun e w' => e = .returned (.bool (wayB x y)) ∧ Ext w w' := by
 have ho := fun w => Path.overlap_any x.path y.path w (by omega) (by omega)
 unfold wayB
 generalize overB (bl x.path) (bl y.path) = ob at *
 have hA : At [] w [] w := At.start (L0 := []) trivial
 have hF := hA.facts
 obtain ⟨p1, n1, f1, m1, k1, s1⟩ := x
 obtain ⟨p2, n2, f2, m2, k2, s2⟩ := y
 simp only [Ent.val] at *
 by_cases h1 : m1 = 2
 · subst h1
   go_enter Tryz.func158, Tryz.ntmps158
   go_wp2_with ((with_reducible refine gbx ?_); refine wC hA ?_; clear hF hA; intro b1 w1 hA hb1 hF; (try simp only [uY] at hA hF))
   refine (ho _).mono ?_
   clear ho
   rintro e w2 ⟨rfl, hx2⟩
   cases ob
   all_goals
    go_wp2_with fail
    go_ret
    exact ⟨rfl, hA.toExt.trans hx2⟩
 · have e1 : (m1 == 2) = false := by simpa using h1
   have d1 := Lib.hid (decide_eq_false h1)
   clear h1
   by_cases h2 : m2 = 2
   · subst h2
     go_enter Tryz.func158, Tryz.ntmps158
     go_wp2_with ((with_reducible refine gbx ?_); refine wC hA ?_; clear hF hA; intro b1 w1 hA hb1 hF; (try simp only [uY] at hA hF))
     refine (ho _).mono ?_
     clear ho
     rintro e w2 ⟨rfl, hx2⟩
     cases ob
     all_goals
      go_wp2_with fail
      go_ret
      exact ⟨by rw [d1.out]; rfl, hA.toExt.trans hx2⟩
   · have e2 : (m2 == 2) = false := by simpa using h2
     have d2 := Lib.hid (decide_eq_false h2)
     clear h2 ho
     go_enter Tryz.func158, Tryz.ntmps158
     go_wp2_with ((with_reducible refine gbx ?_); refine wC hA ?_; clear hF hA; intro b1 w1 hA hb1 hF; (try simp only [uY] at hA hF))
     go_ret
     exact ⟨by rw [d1.out, d2.out]; rfl, hA.toExt⟩
end Go.Proofs.YtpebabaigakagaaGreatDoor.Lock
end
section
namespace Go.Proofs.YtpebabaigakagaaGreatDoor.Lock
open Go.RowKit
open Go.Maps (Keyed)
open Path (bl rightB overB)
def nullE : Ent := ⟨.empty, 0, .empty, 0, 0, 0⟩
end Go.Proofs.YtpebabaigakagaaGreatDoor.Lock
end
section
namespace Go.Proofs.YtpebabaigakagaaGreatDoor.Lock
open Go.RowKit
open Go.Maps (Keyed)
open Path (bl rightB overB)
def unE : Value × Value → Ent
 | (_, .agg #[.string p, .int _ n, .string f, .int _ m, .int _ k, .int _ s]) => ⟨p, n, f, m, k, s⟩
 | _ => nullE
theorem un_ents (l : List Ent) : (ents l).map unE = l := by
 unfold ents
 rw [List.map_map]
 conv => rhs; rw [← List.map_id l]
 rfl
theorem ents_perm {l r : List Ent} (h : (ents l).Perm (ents r)) : l.Perm r := by
 have := h.map unE
 rwa [un_ents, un_ents] at this
theorem ents_snoc (ds : List Ent) (s : Ent) : ents ds ++ [ent s] = ents (ds ++ [s]) := by simp [ents]
theorem ent_mem {e : Ent} {l : List Ent} (h : ent e ∈ ents l) : e ∈ l := by
 have := List.mem_map_of_mem (f := unE) h
 rwa [un_ents] at this
def maxS (l : List Ent) (p : ByteArray) : Int := l.foldl (fun m e => if overB (bl e.path) (bl p) then max m e.stamp else m) 0
theorem maxS_snoc (l : List Ent) (e : Ent) (p : ByteArray) : maxS (l ++ [e]) p = if overB (bl e.path) (bl p) then max (maxS l p) e.stamp else maxS l p := by simp [maxS, List.foldl_append]
theorem maxS_perm {l r : List Ent} (h : l.Perm r) (p : ByteArray) : maxS l p = maxS r p := by
 unfold maxS
 refine h.foldl_eq' (fun x _ y _ z => ?_) 0
 split <;> split <;> omega
theorem maxS_le {l : List Ent} {p : ByteArray} {B : Int} (hB : 0 ≤ B) (h : ∀ e ∈ l, e.stamp ≤ B) : 0 ≤ maxS l p ∧ maxS l p ≤ B := by
 have : ∀ (l : List Ent) (m : Int), (∀ e ∈ l, e.stamp ≤ B) → 0 ≤ m → m ≤ B → 0 ≤ l.foldl (fun m e => if overB (bl e.path) (bl p) then max m e.stamp else m) m ∧ l.foldl (fun m e => if overB (bl e.path) (bl p) then max m e.stamp else m) m ≤ B := by
  intro l
  induction l with
  | nil => intro m _ h1 h2; exact ⟨h1, h2⟩
  | cons e l ih =>
   intro m hl h1 h2
   have := hl e (by simp)
   rw [List.foldl_cons]
   refine ih _ (fun x hx => hl x (by simp [hx])) ?_ ?_ <;> split <;> omega
 exact this l 0 h (Int.le_refl 0) hB
def clearB (l : List Ent) (e : Ent) : Bool := l.all (fun x => !(decide (x.stamp < e.stamp) && wayB x e))
theorem clearB_perm {l r : List Ent} (h : l.Perm r) (e : Ent) : clearB l e = clearB r e := h.all_eq
def StRel (b : Bk) (r : Nat) (p : ByteArray) (w : World) (k : Nat) (v : Value) (wr : World) : Prop :=
 ∃ ds : List Ent, At [BookP b] w [Part.iter Tryz.prog 90 r b.m (ents b.es) (ents ds), headC b.p b.m b.c b.first, ctrC b.c (ctrs b.cs)] wr ∧ (∀ s ∈ ds, s ∈ b.es) ∧ v = .int .i64 (maxS ds p) ∧ ds.length + k = b.es.length
theorem stamp_any {w : World} {b : Bk} (h : Sep [BookP b] w) (p : ByteArray) (hp : p.size ≤ 1000000) (hok : ∀ x ∈ b.es, x.path.size ≤ 1000000 ∧ x.stamp ≤ 1000000000) :
 Calls Tryz.prog 155 #[.pointer (some ⟨b.p, 0, none⟩), .string p] w fun e w' => e = .returned (.int .i64 (maxS b.es p + 1)) ∧ At [BookP b] w [BookP b] w' := by
 have hA := begin0 h
 have hF := hA.facts; (try simp only [uY] at hA hF)
 clear h
 go_enter Tryz.func155, Tryz.ntmps155
 go_wp2_with (refine wpList_range_at rfl rfl rfl hA sR Tryz.underlying88 ?_; intro r w1 hB hr; clear hF hA; have hA := hB; clear hB; have hF := hA.facts; (try simp only [uY] at hA hF))
 go_frame
 go_loopg [5] b.es.length (StRel b r p w)
 case atStart => exact ⟨[], hA, nofun, by simp [maxS], by simp⟩
 case round =>
  obtain ⟨ds, hA2, hds, rfl, hk⟩ := hrel
  clear hF hA
  have hA := hA2
  clear hA2
  have hF := hA.facts; (try simp only [uY] at hA hF)
  go_step
  go_step
  refine wpList_next_at rfl rfl rfl hA sR (fun hp => ?_) (fun q w1 hq hd hB => ?_)
  · have hc := Lib.hid (maxS_perm (ents_perm hp) p)
    have hb := maxS_le (p := p) (B := 1000000000) (by omega) (fun e he => (hok e (hds e he)).2)
    have hM := At.ranged hA sR
    clear hp
    go_wp2_with fail
    go_ret
    exact ⟨by rw [hc.out]; rfl, close0 b hM sR sR sR⟩
  · obtain ⟨s, hs, rfl⟩ := List.mem_map.1 hq
    have hI : IterAt Tryz.prog 90 w1 r b.m (ents b.es) (ents ds ++ [ent s]) := hB.get (A := Part.iter _ _ r b.m (ents b.es) (ents ds ++ [ent s])) sR
    have hen := hI.entry
    have hlen : (ds ++ [s]).length ≤ b.es.length := by have := hI.len; simpa [ents] using this
    have hsub : ∀ x ∈ ds ++ [s], x ∈ b.es := fun x hx => by
     rcases List.mem_append.1 hx with hx | hx
     · exact hds x hx
     · have : x = s := by simpa using hx
       rw [this]; exact hs
    rw [ents_snoc] at hB
    have hb := maxS_le (p := p) (B := 1000000000) (by omega) (fun e he => (hok e (hds e he)).2)
    obtain ⟨hs1, hs2⟩ := hok s hs
    clear hF hA
    have hA := hB
    have hk' := Lib.hid hk
    have hsub' := Lib.hid hsub
    have hsn := maxS_snoc ds s p
    have ho := fun w => Path.overlap_any s.path p w (by omega) (by omega)
    simp only [List.length_append, List.length_cons, List.length_nil, Nat.zero_add] at hlen
    clear hI hB hk hsub hds hq hd hs
    have hF := hA.facts; (try simp only [uY] at hA hF)
    simp only [ent, Ent.key, Ent.val, keyV] at hen
    generalize overB (bl s.path) (bl p) = ob at *
    generalize maxS ds p = mx at *
    have hsn' := Lib.hid hsn
    clear hsn
    go_wp2_with (first | ((with_reducible refine gst ?_); refine wT hA ?_; clear hF hA; intro w1 hA hF; (try simp only [uY] at hA hF)) | ((with_reducible refine gal ?_); refine wG 51 [.string .empty, .int .u64 0, .string .empty, .int .i64 0, .int .u64 0, .int .i64 0] hA ?_; clear hF hA; intro b1 w1 hA hb1 hF; (try simp only [uY] at hA hF)))
    refine (ho _).mono ?_
    clear ho
    rintro e w2 ⟨rfl, hx⟩
    have hB := hA.ext hx
    clear hF hA hx; have hA := hB; clear hB
    have hF := hA.facts; (try simp only [uY] at hA hF)
    cases ob
    all_goals
     go_wp2_with fail
     go_roundg (gk - 1)
     case measure => have := hk'.out; omega
     case rel => exact ⟨ds ++ [s], hA.only3 sR sR sR, hsub'.out, by rw [hsn'.out]; rfl, by have := hk'.out; simp; omega⟩
end Go.Proofs.YtpebabaigakagaaGreatDoor.Lock
end
section
namespace Go.Proofs.YtpebabaigakagaaGreatDoor.Lock
open Go.RowKit
open Go.Maps (Keyed)
open Path (bl rightB overB)
theorem clearB_mem {l : List Ent} {x e : Ent} (h : x ∈ l) (h1 : x.stamp < e.stamp) (h2 : wayB x e = true) : clearB l e = false := by
 unfold clearB
 rw [List.all_eq_false]
 exact ⟨x, h, by simp [h1, h2]⟩
theorem clearB_snoc (l : List Ent) (x e : Ent) : clearB (l ++ [x]) e = (clearB l e && !(decide (x.stamp < e.stamp) && wayB x e)) := by simp [clearB]
def ClRel (b : Bk) (r bE : Nat) (e : Ent) (w : World) (k : Nat) (wr : World) : Prop :=
 ∃ ds : List Ent, At [BookP b] w [Part.iter Tryz.prog 90 r b.m (ents b.es) (ents ds), headC b.p b.m b.c b.first, ctrC b.c (ctrs b.cs), Part.cells bE [.string e.path, .int .u64 e.num, .string e.foot, .int .i64 e.mode, .int .u64 e.n, .int .i64 e.stamp] 51] wr ∧ (∀ s ∈ ds, s ∈ b.es) ∧ clearB ds e = true ∧ ds.length + k = b.es.length
theorem clear_any {w : World} {b : Bk} (h : Sep [BookP b] w) (e : Ent) (he : e.path.size ≤ 1000000) (hok : ∀ x ∈ b.es, x.path.size ≤ 1000000) :
 Calls Tryz.prog 133 #[.pointer (some ⟨b.p, 0, none⟩), .agg #[.string e.path, .int .u64 e.num, .string e.foot, .int .i64 e.mode, .int .u64 e.n, .int .i64 e.stamp]] w fun o w' => o = .returned (.bool (clearB b.es e)) ∧ At [BookP b] w [BookP b] w' := by
 have hA := begin0 h
 have hF := hA.facts; (try simp only [uY] at hA hF)
 clear h
 go_enter Tryz.func133, Tryz.ntmps133
 go_wp2_with (first | ((with_reducible refine gbx ?_); refine wC (E := 51) hA ?_; clear hF hA; intro bE w1 hA hbE hF; (try simp only [uY] at hA hF)) | (refine wpList_range_at rfl rfl rfl hA sR Tryz.underlying88 ?_; intro r w1 hB hr; clear hF hA; have hA := hB; clear hB; have hF := hA.facts; (try simp only [uY] at hA hF)))
 go_frame
 go_loopg [] b.es.length (ClRel b r bE e w)
 case atStart => exact ⟨[], hA.pick pZ, nofun, rfl, by simp⟩
 case round =>
  obtain ⟨ds, hA2, hds, hcl, hk⟩ := hrel
  clear hF hA
  have hA := hA2
  clear hA2
  have hF := hA.facts; (try simp only [uY] at hA hF)
  go_step
  go_step
  refine wpList_next_at rfl rfl rfl hA sR (fun hp => ?_) (fun q w1 hq hd hB => ?_)
  · have hc := Lib.hid ((clearB_perm (ents_perm hp) e).trans hcl)
    have hM := At.ranged hA sR
    clear hp hcl
    go_wp2_with fail
    go_ret
    exact ⟨by rw [hc.out]; rfl, close0 b hM sR sR sR⟩
  · obtain ⟨s, hs, rfl⟩ := List.mem_map.1 hq
    have hI : IterAt Tryz.prog 90 w1 r b.m (ents b.es) (ents ds ++ [ent s]) := hB.get (A := Part.iter _ _ r b.m (ents b.es) (ents ds ++ [ent s])) sR
    have hen := hI.entry
    have hlen : (ds ++ [s]).length ≤ b.es.length := by have := hI.len; simpa [ents] using this
    have hsub : ∀ x ∈ ds ++ [s], x ∈ b.es := fun x hx => by
     rcases List.mem_append.1 hx with hx | hx
     · exact hds x hx
     · have : x = s := by simpa using hx
       rw [this]; exact hs
    rw [ents_snoc] at hB
    have hs1 := hok s hs
    clear hF hA
    have hA := hB
    have hk' := Lib.hid hk
    have hsub' := Lib.hid hsub
    have hsn := Lib.hid (clearB_snoc ds s e)
    have hcl' := Lib.hid hcl
    have hbad := Lib.hid (fun h1 h2 => clearB_mem (e := e) hs h1 h2)
    have ho := fun w => way_any s e w hs1 he
    simp only [List.length_append, List.length_cons, List.length_nil, Nat.zero_add] at hlen
    clear hI hB hk hsub hds hq hd hs hcl
    have hF := hA.facts; (try simp only [uY] at hA hF)
    simp only [ent, Ent.key, Ent.val, keyV] at hen ho
    by_cases hlt : s.stamp < e.stamp
    · have hlt' := Lib.hid hlt
      obtain ⟨wb, hwb⟩ : ∃ wb, wayB s e = wb := ⟨_, rfl⟩
      rw [hwb] at ho
      have hwb' := Lib.hid hwb
      clear hwb
      go_wp2_with (first | ((with_reducible refine gst ?_); refine wT hA ?_; clear hF hA; intro w1 hA hF; (try simp only [uY] at hA hF)) | ((with_reducible refine gal ?_); refine wG 51 [.string .empty, .int .u64 0, .string .empty, .int .i64 0, .int .u64 0, .int .i64 0] hA ?_; clear hF hA; intro b1 w1 hA hb1 hF; (try simp only [uY] at hA hF)))
      refine (ho _).mono ?_
      clear ho
      rintro o w2 ⟨rfl, hx⟩
      have hB := hA.ext hx
      clear hF hA hx; have hA := hB; clear hB
      have hF := hA.facts; (try simp only [uY] at hA hF)
      cases wb
      · go_wp2_with fail
        go_roundg (gk - 1)
        case measure => have := hk'.out; omega
        case rel => exact ⟨ds ++ [s], hA.pick (by with_reducible repeat (first | exact Picks.nil | refine Picks.cons sR ?_)), hsub'.out, by rw [hsn.out, hcl'.out, hwb'.out]; simp, by have := hk'.out; simp; omega⟩
      · have hM := At.ranged hA sR
        have hc := Lib.hid (hbad.out hlt'.out hwb'.out)
        go_wp2_with fail
        go_ret
        exact ⟨by rw [hc.out]; rfl, close0 b hM sR sR sR⟩
    · have hlt' := Lib.hid hlt
      go_wp2_with (first | ((with_reducible refine gst ?_); refine wT hA ?_; clear hF hA; intro w1 hA hF; (try simp only [uY] at hA hF)) | ((with_reducible refine gal ?_); refine wG 51 [.string .empty, .int .u64 0, .string .empty, .int .i64 0, .int .u64 0, .int .i64 0] hA ?_; clear hF hA; intro b1 w1 hA hb1 hF; (try simp only [uY] at hA hF)))
      go_roundg (gk - 1)
      case measure => have := hk'.out; omega
      case rel => exact ⟨ds ++ [s], hA.pick (by with_reducible repeat (first | exact Picks.nil | refine Picks.cons sR ?_)), hsub'.out, by rw [hsn.out, hcl'.out, decide_eq_false (show ¬ s.stamp < e.stamp by have := hlt'.out; omega)]; simp, by have := hk'.out; simp; omega⟩
end Go.Proofs.YtpebabaigakagaaGreatDoor.Lock
end
section
namespace Go.Proofs.YtpebabaigakagaaGreatDoor.Lock
open Go.RowKit
open Go.Maps (Keyed)
open Path (bl rightB overB)
theorem same_ba (f g : ByteArray) : (f.toList == g.toList) = decide (f = g) := by
 rw [Path.eqB]
 by_cases h : f = g
 · subst h; simp
 · rw [decide_eq_false h, decide_eq_false]
   intro e
   apply h
   unfold bl at e
   have : f.data = g.data := by rw [← Array.toList_inj]; exact e
   cases f; cases g; simp_all
theorem sameS (a c : Int) (f g : ByteArray) (w : World) : (Op.equalIn 10000 25 (.agg #[.int .u64 a, .string f]) (.agg #[.int .u64 c, .string g])).run Tryz.prog w = .ok (decide (a = c ∧ f = g)) w := by
 rw [run_equalIn_agg _ 9999 _ _ _ (by kernel_rfl) (by kernel_rfl)]
 simp [go_sem, Op.eqFields, same_ba]
 by_cases h1 : a = c <;> by_cases h2 : f = g <;> simp [h1, h2]
@[local go_sem] theorem guardS (op : BinOp) (x y : Operand) (a c : Int) (f g : ByteArray) (w : World) : (eqGuard op 25 x y (.agg #[.int .u64 a, .string f]) (.agg #[.int .u64 c, .string g])).run Tryz.prog w = .ok () w := run_eqGuard_agg _ _ _ _ _ _ _ (by kernel_rfl)
@[local go_sem] theorem eqlS (a c : Int) (f g : ByteArray) (w : World) : (binOp .eql 25 (.agg #[.int .u64 a, .string f]) (.agg #[.int .u64 c, .string g])).run Tryz.prog w = .ok (.bool (decide (a = c ∧ f = g))) w := by
 rw [run_eql_struct, sameS]; rfl
theorem sameE (x y : Ent) (w : World) : (Op.equalIn 10000 51 x.val y.val).run Tryz.prog w = .ok (decide (x = y)) w := by
 unfold Ent.val
 rw [run_equalIn_agg _ 9999 _ _ _ (by kernel_rfl) (by kernel_rfl)]
 obtain ⟨p1, n1, f1, m1, k1, s1⟩ := x
 obtain ⟨p2, n2, f2, m2, k2, s2⟩ := y
 simp [go_sem, Op.eqFields, same_ba]
 by_cases h1 : p1 = p2 <;> by_cases h2 : n1 = n2 <;> by_cases h3 : f1 = f2 <;> by_cases h4 : m1 = m2 <;> by_cases h5 : k1 = k2 <;> by_cases h6 : s1 = s2 <;> simp [h1, h2, h3, h4, h5, h6]
@[local go_sem] theorem guardE (op : BinOp) (x y : Operand) (c1 c2 c3 c4 c5 c6 d1 d2 d3 d4 d5 d6 : Value) (w : World) : (eqGuard op 51 x y (.agg #[c1, c2, c3, c4, c5, c6]) (.agg #[d1, d2, d3, d4, d5, d6])).run Tryz.prog w = .ok () w := run_eqGuard_agg _ _ _ _ _ _ _ (by kernel_rfl)
theorem eqlE (x y : Ent) (w : World) : (binOp .eql 51 x.val y.val).run Tryz.prog w = .ok (.bool (decide (x = y))) w := by
 have := sameE x y w
 unfold Ent.val at *
 rw [run_eql_struct, this]; rfl
end Go.Proofs.YtpebabaigakagaaGreatDoor.Lock
end
section
namespace Go.Proofs.YtpebabaigakagaaGreatDoor
open Go.RowKit
open Go.Maps (Keyed)
section
variable {P : Program} {k : TypeId} {w : World} {b : Nat} {es : List (Value × Value)}
theorem eraseList {α : Type} (a : Array α) (i : Nat) (h : i < a.size) : (a.eraseIdxIfInBounds i).toList = a.toList.eraseIdx i := by
 rw [Array.eraseIdxIfInBounds_eq]
 rw [dif_pos h, Array.toList_eraseIdx]
theorem erase_mid {α : Type} (l1 l2 : List α) (x : α) : (l1 ++ x :: l2).eraseIdx l1.length = l1 ++ l2 := by
 rw [List.eraseIdx_append_of_length_le (Nat.le_refl _)]
 simp
theorem MapAt.erased {l1 l2 : List (Value × Value)} {key u : Value} (h : MapAt P k w b (l1 ++ (key, u) :: l2)) {ents : Array MapEntry} {clock : Nat} (hb : w.heap[b]? = some (.map ents clock)) :
 MapAt P k (ChangeMaps.setBlock w b (.map (ents.eraseIdxIfInBounds l1.length) clock)) b (l1 ++ l2) := by
 obtain ⟨ents', clock', hb', he, hbn, hdn, hkeys, hpw⟩ := h
 rw [hb] at hb'; cases hb'
 have hlt : l1.length < ents.size := by
  have := congrArg List.length he
  simp at this
  omega
 have hs : ((l1 ++ l2)).Sublist (l1 ++ (key, u) :: l2) := List.Sublist.append (List.Sublist.refl _) (List.sublist_cons_self _ _)
 have hes : (ents.toList.eraseIdx l1.length).Sublist ents.toList := List.eraseIdx_sublist _ _
 refine ⟨_, clock, ChangeMaps.heap_setBlock_same hb _, ?_, ?_, ?_, ?_, ?_⟩
 · rw [eraseList _ _ hlt, List.eraseIdx_eq_take_drop_succ, List.map_append, List.map_take, List.map_drop, he, ← List.eraseIdx_eq_take_drop_succ, erase_mid]
 · intro e hm
   rw [eraseList _ _ hlt] at hm
   exact hbn e (hes.subset hm)
 · rw [eraseList _ _ hlt]
   exact hdn.sublist hes
 · exact fun p hp => hkeys p (hs.subset hp)
 · exact hpw.sublist hs
theorem MapAt.del_there {t e : TypeId} {l1 l2 : List (Value × Value)} {key u : Value} (h : MapAt P k w b (l1 ++ (key, u) :: l2)) (K : Keyed P k) (ht : P.underlying t = some (.map k e)) {kl : Lit} (hk : keyOf P k key = some kl) (t2 ty : TypeId) :
 ∃ w', (Builtin.delete_ #[t, t2] ty #[.map (some b), key]).run P w = .ok (.tuple #[]) w' ∧ MapAt P k w' b (l1 ++ l2) ∧ Exc (fun q => q = b) w w' ∧ ∃ ents clock, w.heap[b]? = some (.map ents clock) ∧ w'.heap[b]? = some (.map (ents.eraseIdxIfInBounds l1.length) clock) := by
 have h0 := h
 obtain ⟨ents, clock, hb, _⟩ := h0
 obtain ⟨e0, h1, h2, h3, h4⟩ := h.find_at K hk w hb
 exact ⟨ChangeMaps.setBlock w b (.map (ents.eraseIdxIfInBounds l1.length) clock), by simp [Builtin.delete_, run_underlying ht, MapKept.run_getObj_map hb, K.check w _ hk, h1, MapKept.run_setObj_map _ hb, Result.andThen, ChangeMaps.setBlock], h.erased hb,
  ⟨rfl, rfl, rfl, by simp [ChangeMaps.setBlock], fun i _ hi => ChangeMaps.heap_setBlock_other hb _ (fun e => hi e)⟩, ents, clock, hb, ChangeMaps.heap_setBlock_same hb _⟩
def IterD (P : Program) (k : TypeId) (w : World) (r b : Nat) (es done : List (Value × Value)) : Prop :=
 MapAt P k w b es ∧ r ≠ b ∧ ∃ (ents : Array MapEntry) (clock c0 : Nat) (vs : List MapEntry), w.heap[b]? = some (.map ents clock) ∧ w.heap[r]? = some (.mapIter (some b) clock (vs.map (·.born)).toArray c0) ∧ clock ≤ c0 ∧
  vs.map (fun e => (e.key, e.val)) = done ∧ (vs ≠ [] → c0 = clock) ∧ (∀ x ∈ vs, ∀ y ∈ ents.toList, x.key = y.key → x = y) ∧ (∀ x ∈ vs, ∀ y ∈ ents.toList, x.born = y.born → x = y)
theorem IterD.start {r : Nat} (h : IterAt P k w r b es []) : IterD P k w r b es [] := by
 obtain ⟨hm, hrb, ents, clock, c0, vs, hb, hr, hc, hd, hin, hpw, hc1⟩ := h
 have : vs = [] := by simpa using hd
 subst this
 exact ⟨hm, hrb, ents, clock, c0, [], hb, hr, hc, rfl, hc1, nofun, nofun⟩
theorem IterD.same {r : Nat} {done : List (Value × Value)} (h : IterD P k w r b es done) {w' : World} (e1 : w'.heap[b]? = w.heap[b]?) (e2 : w'.heap[r]? = w.heap[r]?) : IterD P k w' r b es done := by
 obtain ⟨hm, hrb, ents, clock, c0, vs, hb, hr, rest⟩ := h
 exact ⟨hm.same e1, hrb, ents, clock, c0, vs, e1.trans hb, e2.trans hr, rest⟩
theorem apart_of {l : List (Value × Value)} (h : l.Pairwise (fun p q => p.1 ≠ q.1)) {i j : Nat} {p q : Value × Value} (hi : l[i]? = some p) (hj : l[j]? = some q) (hk : p.1 = q.1) : i = j := by
 by_cases hij : i = j
 · exact hij
 · exfalso
   obtain ⟨hi1, hi2⟩ := List.getElem?_eq_some_iff.1 hi
   obtain ⟨hj1, hj2⟩ := List.getElem?_eq_some_iff.1 hj
   have hp := List.pairwise_iff_getElem.1 h
   rcases Nat.lt_or_gt_of_ne hij with q | q
   · exact hp i j hi1 hj1 q (by rw [hi2, hj2]; exact hk)
   · exact hp j i hj1 hi1 q (by rw [hi2, hj2]; exact hk.symm)
theorem IterD.next {r : Nat} {done : List (Value × Value)} (h : IterD P k w r b es done) (ty : TypeId) :
 ((∀ p ∈ es, p ∈ done) ∧ (Instr.next (.pointer (some ⟨r, 0, none⟩)) false ty).run P w = .ok (.tuple #[.bool false]) w) ∨
 ∃ p w', p ∈ es ∧ (∀ q ∈ done, q.1 ≠ p.1) ∧ (Instr.next (.pointer (some ⟨r, 0, none⟩)) false ty).run P w = .ok (.tuple #[.bool true, p.1, p.2]) w' ∧ IterD P k w' r b es (done ++ [p]) ∧ Exc (fun q => q = r) w w' := by
 obtain ⟨hm, hrb, ents, clock, c0, vs, hb, hr, hc, hd, hc1, hkey, hbo⟩ := h
 have hm0 := hm
 obtain ⟨ents', clock', hb', he, hbn, hdn, hkeys, hkp⟩ := hm0
 rw [hb] at hb'; cases hb'
 have hone : ∀ x ∈ ents.toList, ∀ y ∈ ents.toList, x.key = y.key → x = y := by
  intro x hx y hy e
  obtain ⟨i, hi⟩ := List.mem_iff_getElem?.1 hx
  obtain ⟨j, hj⟩ := List.mem_iff_getElem?.1 hy
  have g1 : es[i]? = some (x.key, x.val) := by rw [← he, List.getElem?_map, hi]; rfl
  have g2 : es[j]? = some (y.key, y.val) := by rw [← he, List.getElem?_map, hj]; rfl
  have := apart_of hkp g1 g2 e
  subst this
  rw [hi] at hj
  exact Option.some.inj hj
 have hborn : ∀ x ∈ ents.toList, ∀ y ∈ ents.toList, x.born = y.born → x = y := by
  intro x hx y hy e
  obtain ⟨i, hi⟩ := List.mem_iff_getElem?.1 hx
  obtain ⟨j, hj⟩ := List.mem_iff_getElem?.1 hy
  by_cases hij : i = j
  · subst hij; rw [hi] at hj; exact Option.some.inj hj
  · exfalso
    obtain ⟨hi1, hi2⟩ := List.getElem?_eq_some_iff.1 hi
    obtain ⟨hj1, hj2⟩ := List.getElem?_eq_some_iff.1 hj
    have hp := List.pairwise_iff_getElem.1 hdn
    rcases Nat.lt_or_gt_of_ne hij with q | q
    · exact hp i j hi1 hj1 q (by rw [hi2, hj2, e])
    · exact hp j i hj1 hi1 q (by rw [hi2, hj2, e])
 rcases run_next_at (P := P) w ty r b clock c0 (vs.map (·.born)).toArray ents clock hr hb hbn hc with ⟨h0, hrun⟩ | ⟨e, he1, w1, hw1, hrun⟩
 · refine .inl ⟨?_, hrun⟩
   intro p hp
   rw [← he] at hp
   obtain ⟨x, hx, rfl⟩ := List.mem_map.1 hp
   have h1 : leftOf ents (vs.map (·.born)).toArray = #[] := Array.eq_empty_of_size_eq_zero h0
   unfold leftOf at h1
   rw [Array.filter_eq_empty_iff] at h1
   have h2 := h1 x (by simpa using hx)
   simp at h2
   obtain ⟨y, hy, hyb⟩ := h2
   have := hbo y hy x hx hyb
   subst this
   rw [← hd]
   exact List.mem_map.2 ⟨y, hy, rfl⟩
 · have he2 : e ∈ ents.toList ∧ ∀ y ∈ vs, y.born ≠ e.born := by
    unfold leftOf at he1
    simp at he1
    exact ⟨by simpa using he1.1, fun y hy hb => he1.2 y hy hb⟩
   have hh1 : w1.heap = w.heap := by rcases hw1 with rfl | rfl <;> rfl
   refine .inr ⟨(e.key, e.val), ChangeMaps.setBlock w1 r (.mapIter (some b) clock ((vs.map (·.born)).toArray.push e.born) clock), entry_of he he2.1, ?_, hrun, ?_, ?_⟩
   · intro q hq
     rw [← hd] at hq
     obtain ⟨y, hy, rfl⟩ := List.mem_map.1 hq
     intro hk
     have := hkey y hy e he2.1 hk
     subst this
     exact he2.2 y hy rfl
   · have hr1 : w1.heap[r]? = some (.mapIter (some b) clock (vs.map (·.born)).toArray c0) := by rw [hh1]; exact hr
     have k1 : ∀ (o : Obj) (i : Nat), i ≠ r → (ChangeMaps.setBlock w1 r o).heap[i]? = w.heap[i]? := fun o i hi => by
      rw [← hh1]; simp [ChangeMaps.setBlock, Ne.symm hi]
     have k2 : ∀ (o : Obj), (ChangeMaps.setBlock w1 r o).heap[r]? = some o := fun o => by
      have hlt := lt_of_some hr1
      simp [ChangeMaps.setBlock, hlt]
     refine ⟨hm.same (k1 _ b (Ne.symm hrb)), hrb, ents, clock, clock, vs ++ [e], by rw [k1 _ b (Ne.symm hrb)]; exact hb, by rw [k2]; simp, Nat.le_refl _, by simp [hd], fun _ => rfl, ?_, ?_⟩
     · intro x hx y hy hk
       rcases List.mem_append.1 hx with hx | hx
       · exact hkey x hx y hy hk
       · rw [List.mem_singleton.1 hx] at hk ⊢
         exact hone e he2.1 y hy hk
     · intro x hx y hy hk
       rcases List.mem_append.1 hx with hx | hx
       · exact hbo x hx y hy hk
       · rw [List.mem_singleton.1 hx] at hk ⊢
         exact hborn e he2.1 y hy hk
   · have g : ∀ (o : Obj), Exc (fun q => q = r) w (ChangeMaps.setBlock w1 r o) := fun o => by
      rcases hw1 with rfl | rfl
      · exact ⟨rfl, rfl, rfl, by simp [ChangeMaps.setBlock], fun i _ hi => by simp [ChangeMaps.setBlock, Ne.symm hi]⟩
      · exact ⟨rfl, rfl, rfl, by simp [ChangeMaps.setBlock], fun i _ hi => by simp [ChangeMaps.setBlock, Ne.symm hi]; rfl⟩
     exact g _
theorem IterD.entry {r : Nat} {done : List (Value × Value)} {p : Value × Value} (h : IterD P k w r b es (done ++ [p])) (hp : p ∈ es) : (Instr.entry (.pointer (some ⟨r, 0, none⟩))).run P w = .ok (.tuple #[p.1, p.2]) w := by
 obtain ⟨hm, hrb, ents, clock, c0, vs, hb, hr, hc, hd, hc1, hkey, hbo⟩ := h
 obtain ⟨ents', clock', hb', he, hbn, hdn, hkeys, hkp⟩ := hm
 rw [hb] at hb'; cases hb'
 rcases List.eq_nil_or_concat vs with rfl | ⟨vs', e, rfl⟩
 · simp at hd
 · have h1 : c0 = clock := hc1 (by simp)
   subst h1
   simp at hd
   obtain ⟨hd1, hd2⟩ := hd
   subst hd2
   rw [← he] at hp
   obtain ⟨y, hy, hye⟩ := List.mem_map.1 hp
   have hk0 : e.key = y.key := (congrArg Prod.fst hye).symm
   have := hkey e (by simp) y hy hk0
   subst this
   exact run_entry_at (P := P) w r b c0 (vs'.map (·.born)).toArray ents c0 e (by rw [hr]; simp) hb hy (List.pairwise_map.2 hdn)
theorem IterD.del {t e : TypeId} {r : Nat} {done l1 l2 : List (Value × Value)} {key u : Value} (h : IterD P k w r b (l1 ++ (key, u) :: l2) done) (K : Keyed P k) (ht : P.underlying t = some (.map k e)) {kl : Lit} (hk : keyOf P k key = some kl) (t2 ty : TypeId) :
 ∃ w', (Builtin.delete_ #[t, t2] ty #[.map (some b), key]).run P w = .ok (.tuple #[]) w' ∧ IterD P k w' r b (l1 ++ l2) done ∧ Exc (fun q => q = b) w w' := by
 obtain ⟨hm, hrb, ents, clock, c0, vs, hb, hr, hc, hd, hc1, hkey, hbo⟩ := h
 obtain ⟨w', h1, h2, h3, ents', clock', h4, h5⟩ := hm.del_there K ht hk t2 ty
 rw [hb] at h4; cases h4
 have hsub : ∀ y ∈ (ents.eraseIdxIfInBounds l1.length).toList, y ∈ ents.toList := by
  intro y hy
  by_cases hlt : l1.length < ents.size
  · rw [eraseList _ _ hlt] at hy
    exact (List.eraseIdx_sublist _ _).subset hy
  · rw [Array.eraseIdxIfInBounds_eq, dif_neg hlt] at hy
    exact hy
 exact ⟨w', h1, ⟨h2, hrb, _, clock, c0, vs, h5, (h3.block r (lt_of_some hr) hrb).trans hr, hc, hd, hc1, fun x hx y hy => hkey x hx y (hsub y hy), fun x hx y hy => hbo x hx y (hsub y hy)⟩, h3⟩
theorem IterD.keys {r : Nat} {done : List (Value × Value)} (h : IterD P k w r b es done) : es.Pairwise (fun p q => p.1 ≠ q.1) := h.1.keys
def Part.iterD (P : Program) (k : TypeId) (r b : Nat) (es done : List (Value × Value)) : Part where
 holds w := IterD P k w r b es done
 foot q := q = b ∨ q = r
 lt := fun _ h q e => by
  rcases e with e | e
  · subst e; exact h.1.lt
  · subst e; obtain ⟨_, _, _, _, _, _, _, hr, _⟩ := h; exact lt_of_some hr
 stay := fun _ _ h e => h.same (e b (.inl rfl)) (e r (.inr rfl))
end
section
variable {P : Program} {ops : Array Oper} {rest : List Oper} {o : Oper} {a : Act} {Q : Exit → Act → World → Prop} {L0 L F : List Part} {w0 w : World} {k : TypeId} {b : Nat} {es : List (Value × Value)}
theorem wpList_del_there_at {t t2 : TypeId} {m x : Operand} (hg : o.guard = none) (hop : o.op = .call { callee := .builtin .delete, args := #[m, x], argTypes := #[t, t2] }) (hm : a.eval m = .map (some b)) {key u : Value} {l1 l2 : List (Value × Value)} (hx : a.eval x = key)
 (h : At L0 w0 L w) (s : Sel (Part.map P k b (l1 ++ (key, u) :: l2)) L F) {e : TypeId} (K : Keyed P k) (ht : P.underlying t = some (.map k e)) {kl : Lit} (hk : keyOf P k key = some kl)
 (hK : ∀ w', At L0 w0 (Part.map P k b (l1 ++ l2) :: F) w' → wpList P ops Q rest (a.put o.dst (.tuple #[])) w') : wpList P ops Q (o :: rest) a w := by
 have hM : MapAt P k w b (l1 ++ (key, u) :: l2) := h.get s
 obtain ⟨w', h1, h2, h3, _⟩ := hM.del_there K ht hk t2 o.type
 refine wpList_val hg ?_ (hK w' (h.turn s _ h2 (fun _ e => .inl e) h3))
 simp [execOp, hop, resolve, invoke, builtin, hm, hx, h1, Result.andThen]
theorem wpList_del_iter_at {t t2 : TypeId} {m x : Operand} {r : Nat} {done : List (Value × Value)} (hg : o.guard = none) (hop : o.op = .call { callee := .builtin .delete, args := #[m, x], argTypes := #[t, t2] }) (hm : a.eval m = .map (some b)) {key u : Value} {l1 l2 : List (Value × Value)} (hx : a.eval x = key)
 (h : At L0 w0 L w) (s : Sel (Part.iterD P k r b (l1 ++ (key, u) :: l2) done) L F) {e : TypeId} (K : Keyed P k) (ht : P.underlying t = some (.map k e)) {kl : Lit} (hk : keyOf P k key = some kl)
 (hK : ∀ w', At L0 w0 (Part.iterD P k r b (l1 ++ l2) done :: F) w' → wpList P ops Q rest (a.put o.dst (.tuple #[])) w') : wpList P ops Q (o :: rest) a w := by
 have hI : IterD P k w r b (l1 ++ (key, u) :: l2) done := h.get s
 obtain ⟨w', h1, h2, h3⟩ := hI.del K ht hk t2 o.type
 refine wpList_val hg ?_ (hK w' (h.turn s (Part.iterD P k r b (l1 ++ l2) done) h2 (fun _ e => .inl e) (h3.mono (fun _ _ e => .inl e))))
 simp [execOp, hop, resolve, invoke, builtin, hm, hx, h1, Result.andThen]
theorem wpList_nextD_at {r : Nat} {done : List (Value × Value)} {it : Operand} (hg : o.guard = none) (hop : o.op = .next it false) (hi : a.eval it = .pointer (some ⟨r, 0, none⟩)) (h : At L0 w0 L w) (s : Sel (Part.iterD P k r b es done) L F)
 (hEnd : (∀ p ∈ es, p ∈ done) → wpList P ops Q rest (a.put o.dst (.tuple #[.bool false])) w)
 (hK : ∀ p w', p ∈ es → (∀ q ∈ done, q.1 ≠ p.1) → At L0 w0 (Part.iterD P k r b es (done ++ [p]) :: F) w' → wpList P ops Q rest (a.put o.dst (.tuple #[.bool true, p.1, p.2])) w') : wpList P ops Q (o :: rest) a w := by
 have hI : IterD P k w r b es done := h.get s
 rcases hI.next o.type with ⟨h1, h2⟩ | ⟨p, w', h1, h2, h3, h4, h5⟩
 · refine wpList_val hg ?_ (hEnd h1)
   simp [execOp, hop, hi, h2, Result.andThen]
 · refine wpList_val hg ?_ (hK p w' h1 h2 (h.turn s (Part.iterD P k r b es (done ++ [p])) h4 (fun q e => .inl e) (h5.mono (fun _ _ e => .inr e))))
   simp [execOp, hop, hi, h3, Result.andThen]
theorem At.rangedD {r : Nat} {done : List (Value × Value)} (h : At L0 w0 L w) (s : Sel (Part.iterD P k r b es done) L F) : At L0 w0 (Part.map P k b es :: F) w := by
 have hI : IterD P k w r b es done := h.get s
 exact h.turn s (Part.map P k b es) hI.1 (fun _ e => .inl (.inl e)) (Exc.refl _ _)
theorem At.rangeD {r : Nat} (h : At L0 w0 L w) (s : Sel (Part.iter P k r b es []) L F) : At L0 w0 (Part.iterD P k r b es [] :: F) w := by
 have hI : IterAt P k w r b es [] := h.get s
 exact h.turn s (Part.iterD P k r b es []) (IterD.start hI) (fun _ e => .inl e) (Exc.refl _ _)
end
end Go.Proofs.YtpebabaigakagaaGreatDoor
end
section
namespace Go.Proofs.YtpebabaigakagaaGreatDoor.Lock
open Go.RowKit
open Go.Maps (Keyed)
open Path (bl rightB overB)
attribute [-go_sem] run_eql_struct run_neq_struct run_eqGuard_agg
attribute [local go_sem] guardS eqlS
abbrev boxS (b : Nat) (n : Int) (f : ByteArray) : Part := .cells b [.int .u64 n, .string f] 25
def Ent.of (e : Ent) (n : Int) (f : ByteArray) : Bool := decide (e.num = n ∧ e.foot = f)
def heldN (l : List Ent) (n : Int) (f : ByteArray) : Nat := (l.filter (·.of n f)).length
theorem heldN_snoc (l : List Ent) (e : Ent) (n : Int) (f : ByteArray) : heldN (l ++ [e]) n f = heldN l n f + if e.of n f then 1 else 0 := by
 unfold heldN
 rw [List.filter_append]
 cases h : e.of n f <;> simp [List.filter_cons, h]
theorem heldN_perm {l r : List Ent} (h : l.Perm r) (n : Int) (f : ByteArray) : heldN l n f = heldN r n f := (h.filter _).length_eq
theorem heldN_le (l : List Ent) (n : Int) (f : ByteArray) : heldN l n f ≤ l.length := List.length_filter_le _ _
theorem held1_any {w : World} {bS : Nat} {n k : Int} {f p g : ByteArray} (h : Sep [boxS bS n f] w) {c : Bool} (hc : decide (k = n ∧ g = f) = c) :
 Calls Tryz.prog 181 #[.agg #[.string p, .int .u64 k, .string g], .pointer (some ⟨bS, 0, none⟩)] w fun e w' => e = .returned (.bool c) ∧ At [boxS bS n f] w [boxS bS n f] w' := by
 have hA := At.start h
 have hF := hA.facts; (try simp only [uY] at hA hF)
 clear h
 have hc' := Lib.hid hc
 clear hc
 go_enter Tryz.func181, Tryz.ntmps181
 go_wp2_with ((with_reducible refine gbx ?_); refine wC hA ?_; clear hF hA; intro b1 w1 hA hb1 hF; (try simp only [uY] at hA hF))
 go_ret
 exact ⟨by rw [← hc'.out, Bool.decide_and]; rfl, hA.only1 sR⟩
def CtRel (L0 : List Part) (m r bS : Nat) (n : Int) (f : ByteArray) (es : List Ent) (w : World) (k : Nat) (v : Value) (wr : World) : Prop :=
 ∃ ds : List Ent, At L0 w [Part.iter Tryz.prog 90 r m (ents es) (ents ds), boxS bS n f] wr ∧ (∀ s ∈ ds, s ∈ es) ∧ v = .int .i64 (heldN ds n f) ∧ ds.length + k = es.length
theorem count_any {w : World} {m bS : Nat} {n : Int} {f : ByteArray} {es : List Ent} (h : Sep [mapC m (ents es), boxS bS n f] w) (hl : es.length ≤ 1000000000) :
 Calls Tryz.prog 180 #[.map (some m), .func (.func 181) #[] #[.pointer (some ⟨bS, 0, none⟩)]] w fun e w' => e = .returned (.int .i64 (heldN es n f)) ∧ At [mapC m (ents es), boxS bS n f] w [mapC m (ents es), boxS bS n f] w' := by
 have hA := At.start h
 have hF := hA.facts; (try simp only [uY] at hA hF)
 clear h
 go_enter Tryz.func180, Tryz.ntmps180
 go_wp2_with (refine wpList_range_at rfl rfl rfl hA sR Tryz.underlying88 ?_; intro r w1 hB hr; clear hF hA; have hA := hB; clear hB; have hF := hA.facts; (try simp only [uY] at hA hF))
 try go_frame
 go_loopg [5] es.length (CtRel [mapC m (ents es), boxS bS n f] m r bS n f es w)
 case atStart => exact ⟨[], hA, nofun, by simp [heldN], by simp⟩
 case round =>
  obtain ⟨ds, hA2, hds, rfl, hk⟩ := hrel
  clear hF hA
  have hA := hA2
  clear hA2
  have hF := hA.facts; (try simp only [uY] at hA hF)
  go_step
  go_step
  refine wpList_next_at rfl rfl rfl hA sR (fun hp => ?_) (fun q w1 hq hd hB => ?_)
  · have hc := Lib.hid (heldN_perm (ents_perm hp) n f)
    have hM := At.ranged hA sR
    clear hp
    go_wp2_with fail
    go_ret
    exact ⟨by rw [hc.out]; rfl, hM.only2 sR sR⟩
  · obtain ⟨s, hs, rfl⟩ := List.mem_map.1 hq
    have hI : IterAt Tryz.prog 90 w1 r m (ents es) (ents ds ++ [ent s]) := hB.get (A := Part.iter _ _ r m (ents es) (ents ds ++ [ent s])) sR
    have hen := hI.entry
    have hlen : (ds ++ [s]).length ≤ es.length := by have := hI.len; simpa [ents] using this
    have hsub : ∀ x ∈ ds ++ [s], x ∈ es := fun x hx => by
     rcases List.mem_append.1 hx with hx | hx
     · exact hds x hx
     · have : x = s := by simpa using hx
       rw [this]; exact hs
    rw [ents_snoc] at hB
    clear hF hA
    have hA := hB
    have hk' := Lib.hid hk
    have hsub' := Lib.hid hsub
    have hsn := Lib.hid (heldN_snoc ds s n f)
    have hcl := heldN_le ds n f
    simp only [List.length_append, List.length_cons, List.length_nil, Nat.zero_add] at hlen
    clear hI hB hk hsub hds hq hd hs
    have hF := hA.facts; (try simp only [uY] at hA hF)
    simp only [ent, Ent.key, Ent.val, keyV] at hen
    obtain ⟨c, hc⟩ : ∃ c, s.of n f = c := ⟨_, rfl⟩
    have hc' := Lib.hid hc
    go_wp2_with (first | ((with_reducible refine gst ?_); refine wT hA ?_; clear hF hA; intro w1 hA hF; (try simp only [uY] at hA hF)) | ((with_reducible refine gal ?_); refine wG 90 [.string .empty, .int .u64 0, .string .empty] hA ?_; clear hF hA; intro b1 w1 hA hb1 hF; (try simp only [uY] at hA hF)))
    refine (held1_any (hA.sep1 (A := boxS bS n f) sR) hc).mono ?_
    clear hc
    rintro e w2 ⟨rfl, hT⟩
    have hB := hA.call1 (A := boxS bS n f) sR hT
    clear hF hA hT; have hA := hB; clear hB
    have hF := hA.facts; (try simp only [uY] at hA hF)
    cases c
    all_goals
     go_wp2_with fail
     go_roundg (gk - 1)
     case measure => have := hk'.out; omega
     case rel => exact ⟨ds ++ [s], hA.only2 sR sR, hsub'.out, by rw [hsn.out, hc'.out]; simp, by have := hk'.out; simp; omega⟩
theorem held_any {w : World} {b : Bk} (h : Sep [BookP b] w) (n : Int) (f : ByteArray) (hl : b.es.length ≤ 1000000000) :
 Calls Tryz.prog 157 #[.pointer (some ⟨b.p, 0, none⟩), .agg #[.int .u64 n, .string f]] w fun e w' => e = .returned (.int .i64 (heldN b.es n f)) ∧ At [BookP b] w [BookP b] w' := by
 have hA := begin0 h
 have hF := hA.facts; (try simp only [uY] at hA hF)
 clear h
 go_enter Tryz.func157, Tryz.ntmps157
 go_wp2_with ((with_reducible refine gbx ?_); refine wC (E := 25) hA ?_; clear hF hA; intro bS w1 hA hbS hF; (try simp only [uY] at hA hF))
 refine (count_any (hA.sep2 (A := mapC b.m (ents b.es)) (B := boxS bS n f) sR sR) hl).mono ?_
 rintro e w2 ⟨rfl, hT⟩
 have hB := hA.call2 (A := mapC b.m (ents b.es)) (B := boxS bS n f) sR sR hT
 clear hF hA hT; have hA := hB; clear hB
 have hF := hA.facts; (try simp only [uY] at hA hF)
 go_wp2_with fail
 go_ret
 exact ⟨rfl, close0 b hA sR sR sR⟩
end Go.Proofs.YtpebabaigakagaaGreatDoor.Lock
end
