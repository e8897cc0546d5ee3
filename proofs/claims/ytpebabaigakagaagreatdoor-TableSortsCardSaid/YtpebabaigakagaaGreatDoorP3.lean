/- LeaseW4, LeaseW5, LeaseW6, LeaseW7, LeaseW9, LeaseQa, joined. -/
import Derived.Test.YtpebabaigakagaaGreatDoorP2
import Derived.WalkLawsBesides
set_option linter.unusedSimpArgs false
set_option linter.unusedVariables false
set_option maxRecDepth 100000
set_option maxHeartbeats 16000000
section
namespace Go.Proofs.YtpebabaigakagaaGreatDoor.Lease
open Go.RowKit
open Go.Maps (Keyed)
def cutI (t : Int) : Int := if t < 0 then 0 else if 2199023255552 < t then 2199023255552 else t
theorem cutI_bd (t : Int) : 0 ≤ cutI t ∧ cutI t ≤ 2199023255552 := by unfold cutI; split <;> (try split) <;> omega
theorem cut_any (t : Int) (w : World) : Calls Tryz.prog 102 #[.int .i64 t] w fun e w' => e = .returned (.int .i64 (cutI t)) ∧ w = w' := by
 by_cases h0 : t < 0
 · have e : cutI t = 0 := by simp [cutI, h0]
   rw [e]
   go_enter Tryz.func102, Tryz.ntmps102
   go_wp2
   go_ret
   exact ⟨rfl, rfl⟩
 · by_cases h1 : 2199023255552 < t
   · have e : cutI t = 2199023255552 := by simp [cutI, h0, h1]
     rw [e]
     go_enter Tryz.func102, Tryz.ntmps102
     go_wp2
     go_ret
     exact ⟨rfl, rfl⟩
   · have e : cutI t = t := by simp [cutI, h0, h1]
     rw [e]
     go_enter Tryz.func102, Tryz.ntmps102
     go_wp2
     go_ret
     exact ⟨rfl, rfl⟩
def endI (time ttl : Int) : Int := cutI (cutI time + cutI ttl)
theorem end_any (time ttl : Int) (w : World) : Calls Tryz.prog 101 #[.int .i64 time, .int .i64 ttl] w fun e w' => e = .returned (.int .i64 (endI time ttl)) ∧ w = w' := by
 have b1 := cutI_bd time
 have b2 := cutI_bd ttl
 go_enter Tryz.func101, Tryz.ntmps101
 go_wp2_with fail
 refine (cut_any _ _).mono ?_
 rintro e _ ⟨rfl, rfl⟩
 go_wp2_with fail
 refine (cut_any _ _).mono ?_
 rintro e _ ⟨rfl, rfl⟩
 go_wp2_with fail
 refine (cut_any _ _).mono ?_
 rintro e _ ⟨rfl, rfl⟩
 go_wp2_with fail
 go_ret
 exact ⟨rfl, rfl⟩
def NewPost (w : World) (e : Ending) (w' : World) : Prop := ∃ p m, e = .returned (.pointer (some ⟨p, 0, none⟩)) ∧ At [] w [BookP p m []] w'
theorem new_any (w : World) : Calls Tryz.prog 54 #[] w (NewPost w) := by
 have hA := At.start (w0 := w) (L0 := []) trivial
 have hF := hA.facts
 go_enter Tryz.func54, Tryz.ntmps54
 go_wp2_with (first | ((with_reducible refine gbx ?_); refine wC hA ?_; clear hF hA; intro b1 w1 hA hb1 hF; (try simp only [uY] at hA hF)) | (refine wpList_makeMap_at Tryz.prog 25 rfl rfl hA ?_; intro b2 w1 hB hb2; clear hF hA; have hA := hB; clear hB; have hF := hA.facts; (try simp only [uY] at hA hF)))
 go_ret
 have hB : At [] w [headC b1 b2, mapC b2 (ents [])] w1 := hA
 have hC := hB.new (Ext.refl w1) (restP []) trivial (fun b hb => by obtain ⟨A, hA, _⟩ := hb; cases hA)
 exact ⟨_, _, rfl, close0 (m := b2) (ss := []) hC sZ sZ sZ⟩
end Go.Proofs.YtpebabaigakagaaGreatDoor.Lease
end
section
namespace Go.Proofs.YtpebabaigakagaaGreatDoor.Lease
open Go.RowKit
open Go.Maps (Keyed)
def cnt (ss : List Ses) (f : ByteArray) : Nat := (ss.filter (fun s => s.foot.toList == f.toList && s.op)).length
theorem cnt_snoc (ds : List Ses) (s : Ses) (f : ByteArray) : cnt (ds ++ [s]) f = cnt ds f + if s.foot.toList == f.toList && s.op then 1 else 0 := by
 unfold cnt
 rw [List.filter_append]
 cases h : (s.foot.toList == f.toList && s.op) <;> simp [List.filter_cons, h]
theorem cnt_le (ds : List Ses) (f : ByteArray) : cnt ds f ≤ ds.length := List.length_filter_le _ _
theorem ents_snoc (ds : List Ses) (s : Ses) : ents ds ++ [ent s] = ents (ds ++ [s]) := by simp [ents]
theorem ents_inj {ss : List Ses} (h : (ents ss).Pairwise (fun p q => p.1 ≠ q.1)) {x y : Ses} (hx : x ∈ ss) (hy : y ∈ ss) (e : ent x = ent y) : x = y := by
 have h1 : ss.Pairwise (fun p q => (ent p).1 ≠ (ent q).1) := (List.pairwise_map (f := ent) (R := fun p q : Value × Value => p.1 ≠ q.1)).1 h
 obtain ⟨i, hi⟩ := List.mem_iff_getElem?.1 hx
 obtain ⟨j, hj⟩ := List.mem_iff_getElem?.1 hy
 by_cases hij : i = j
 · subst hij; rw [hi] at hj; exact Option.some.inj hj
 · exfalso
   obtain ⟨hi1, hi2⟩ := List.getElem?_eq_some_iff.1 hi
   obtain ⟨hj1, hj2⟩ := List.getElem?_eq_some_iff.1 hj
   have hp := List.pairwise_iff_getElem.1 h1
   rcases Nat.lt_or_gt_of_ne hij with q | q
   · exact hp i j hi1 hj1 q (by rw [hi2, hj2, e])
   · exact hp j i hj1 hi1 q (by rw [hi2, hj2, e])
theorem ents_perm {ss ds : List Ses} (h : (ents ss).Pairwise (fun p q => p.1 ≠ q.1)) (hd : ∀ s ∈ ds, s ∈ ss) (hp : (ents ss).Perm (ents ds)) : ss.Perm ds := by
 have hn : ∀ l : List Ses, (ents l).Pairwise (fun p q => p.1 ≠ q.1) → l.Nodup := fun l hl => ((List.pairwise_map (f := ent) (R := fun p q : Value × Value => p.1 ≠ q.1)).1 hl).imp (fun h e => h (by rw [e]))
 have hd2 : (ents ds).Pairwise (fun p q => p.1 ≠ q.1) := (hp.pairwise_iff (fun h => Ne.symm h)).1 h
 refine (List.perm_ext_iff_of_nodup (hn _ h) (hn _ hd2)).2 (fun x => ⟨fun hx => ?_, hd x⟩)
 have : ent x ∈ ents ds := hp.mem_iff.1 (List.mem_map.2 ⟨x, hx, rfl⟩)
 obtain ⟨y, hy, he⟩ := List.mem_map.1 this
 rw [← ents_inj h (hd y hy) hx he]
 exact hy
theorem cnt_perm {ss ds : List Ses} (h : ss.Perm ds) (f : ByteArray) : cnt ss f = cnt ds f := (h.filter _).length_eq
def CntRel (p m r : Nat) (ss : List Ses) (f : ByteArray) (w : World) (k : Nat) (v : Value) (wr : World) : Prop :=
 ∃ ds : List Ses, At [BookP p m ss] w [Part.iter Tryz.prog 25 r m (ents ss) (ents ds), headC p m, restP ss] wr ∧ (∀ s ∈ ds, s ∈ ss) ∧ v = .int .i64 (cnt ds f) ∧ ds.length + k = ss.length
theorem open_any {w : World} {p m : Nat} {ss : List Ses} (h : Sep [BookP p m ss] w) (f : ByteArray) (hl : ss.length ≤ 1000000000) :
 Calls Tryz.prog 100 #[.pointer (some ⟨p, 0, none⟩), .string f] w fun e w' => e = .returned (.int .i64 (cnt ss f)) ∧ At [BookP p m ss] w [BookP p m ss] w' := by
 have hA := begin0 h
 have hF := hA.facts; (try simp only [uY] at hA hF)
 clear h
 go_enter Tryz.func100, Tryz.ntmps100
 go_wp2_with (refine wpList_range_at rfl rfl rfl hA sR Tryz.underlying78 ?_; intro r w1 hB hr; clear hF hA; have hA := hB; clear hB; have hF := hA.facts; (try simp only [uY] at hA hF))
 go_frame
 go_loopg [5] ss.length (CntRel p m r ss f w)
 case atStart => exact ⟨[], hA, nofun, by simp [cnt], by simp⟩
 case round =>
  obtain ⟨ds, hA2, hds, rfl, hk⟩ := hrel
  clear hF hA
  have hA := hA2
  clear hA2
  have hF := hA.facts; (try simp only [uY] at hA hF)
  go_step
  go_step
  refine wpList_next_at rfl rfl rfl hA sR (fun hp => ?_) (fun q w1 hq hd hB => ?_)
  · have hI : IterAt Tryz.prog 25 wr r m (ents ss) (ents ds) := hA.get (A := Part.iter _ _ r m (ents ss) (ents ds)) sR
    have hc := Lib.hid (cnt_perm (ents_perm hI.keys hds hp) f)
    have hM := At.ranged hA sR
    go_wp2_with fail
    go_ret
    exact ⟨by rw [hc.out]; rfl, close0 (m := m) (ss := ss) hM sR sR sR⟩
  · obtain ⟨s, hs, rfl⟩ := List.mem_map.1 hq
    have hI : IterAt Tryz.prog 25 w1 r m (ents ss) (ents ds ++ [ent s]) := hB.get (A := Part.iter _ _ r m (ents ss) (ents ds ++ [ent s])) sR
    have hen := hI.entry
    have hlen : (ds ++ [s]).length ≤ ss.length := by have := hI.len; simpa [ents] using this
    have hsub : ∀ x ∈ ds ++ [s], x ∈ ss := fun x hx => by
     rcases List.mem_append.1 hx with hx | hx
     · exact hds x hx
     · have : x = s := by simpa using hx
       rw [this]; exact hs
    rw [ents_snoc] at hB
    obtain ⟨l1, l2, e⟩ := List.append_of_mem hs
    have he := Lib.hid e
    clear hF hA
    have hA := out' e hB sR
    have hk' := Lib.hid hk
    have hsub' := Lib.hid hsub
    have hsn := Lib.hid (cnt_snoc ds s f)
    have hcl := cnt_le ds f
    simp only [List.length_append, List.length_cons, List.length_nil, Nat.zero_add] at hlen
    clear hI e hB hk hsub hds hq hd
    simp only [Ses.cells] at hA
    have hF := hA.facts; (try simp only [uY] at hA hF)
    simp only [ent, Ses.key, keyV, Ses.ptr] at hen
    cases hfe : (s.foot.toList == f.toList)
    all_goals cases hop : s.op
    all_goals
     go_wp2_with (first | ((with_reducible refine gst ?_); refine wT hA ?_; clear hF hA; intro w1 hA hF; (try simp only [uY] at hA hF)) | ((with_reducible refine gal ?_); refine wG 25 [.int .u64 0, .string .empty] hA ?_; clear hF hA; intro b1 w1 hA hb1 hF; (try simp only [uY] at hA hF)))
     go_roundg (gk - 1)
     case measure => have := hk'.out; omega
     case rel => exact ⟨ds ++ [s], (in' he.out hA sZ sR sR).only3 sR sR sR, hsub'.out, by rw [hsn.out]; simp [hfe, hop], by have := hk'.out; simp; omega⟩
end Go.Proofs.YtpebabaigakagaaGreatDoor.Lease
end
section
namespace Go.Proofs.YtpebabaigakagaaGreatDoor.Lease
open Go.RowKit
open Go.Maps (Keyed)
def Ses.opened (s : Ses) (ttl time : Int) : Ses := { s with op := true, dead := false, dl := endI time ttl, ttl := cutI ttl }
def Ses.ended (s : Ses) : Ses := { s with op := false, dead := true, dl := 0, ttl := 0 }
def openE (s : Ses) (c : Nat) : Int := if s.dead then 50 else if s.op then 15 else if 32 ≤ c then 14 else 0
theorem open_no {w : World} {p m : Nat} {ss : List Ses} (h : Sep [BookP p m ss] w) {n : Int} {f : ByteArray} (h0 : 0 ≤ n) (h1 : n < big64) (hf : f.size ≤ maxLen) (hl : ss.length ≤ 1000000000) (ttl time : Int) (he : openE (look ss n f) (cnt ss f) ≠ 0) :
 Calls Tryz.prog 66 #[.pointer (some ⟨p, 0, none⟩), .agg #[.int .u64 n, .string f], .int .i64 ttl, .int .i64 time] w fun e w' => e = .returned (.int .i64 (openE (look ss n f) (cnt ss f))) ∧ At [BookP p m ss] w [BookP p m ss] w' := by
 have hA := At.start h
 have hF := hA.facts
 clear h
 cases hd : (look ss n f).dead
 · cases ho : (look ss n f).op
   · have hc : 32 ≤ cnt ss f := by
      simp [openE, hd, ho] at he
      omega
     have hc' : (32 : Int) ≤ (cnt ss f : Int) := by omega
     have e1 : openE (look ss n f) (cnt ss f) = 14 := by simp [openE, hd, ho, hc]
     rw [e1]
     go_enter Tryz.func66, Tryz.ntmps66
     go_wp2_with ((with_reducible refine gbx ?_); refine wC hA ?_; clear hF hA; intro b1 w1 hA hb1 hF; (try simp only [uY] at hA hF))
     refine (info_any (hA.sep1 sR) h0 h1 hf).mono ?_
     unfold Ses.info
     rw [hd, ho]
     rintro e w1 ⟨rfl, hT⟩; have hB := hA.call1 sR hT; clear hF hA hT; have hA := hB; clear hB; have hF := hA.facts; (try simp only [uY] at hA hF)
     go_wp2_with (first | ((with_reducible refine gst ?_); refine wT hA ?_; clear hF hA; intro w1 hA hF; (try simp only [uY] at hA hF)) | ((with_reducible refine gal ?_); refine wG 38 [.bool false, .bool false, .int .i64 0, .int .i64 0, .int .i64 0] hA ?_; clear hF hA; intro b1 w1 hA hb1 hF; (try simp only [uY] at hA hF)))
     refine (open_any (hA.sep1 sR) f hl).mono ?_
     rintro e w1 ⟨rfl, hT⟩; have hB := hA.call1 sR hT; clear hF hA hT; have hA := hB; clear hB; have hF := hA.facts; (try simp only [uY] at hA hF)
     go_wp2_with fail
     go_ret
     exact ⟨rfl, hA.only1 sR⟩
   · have e1 : openE (look ss n f) (cnt ss f) = 15 := by simp [openE, hd, ho]
     rw [e1]
     go_enter Tryz.func66, Tryz.ntmps66
     go_wp2_with ((with_reducible refine gbx ?_); refine wC hA ?_; clear hF hA; intro b1 w1 hA hb1 hF; (try simp only [uY] at hA hF))
     refine (info_any (hA.sep1 sR) h0 h1 hf).mono ?_
     unfold Ses.info
     rw [hd, ho]
     rintro e w1 ⟨rfl, hT⟩; have hB := hA.call1 sR hT; clear hF hA hT; have hA := hB; clear hB; have hF := hA.facts; (try simp only [uY] at hA hF)
     go_wp2_with (first | ((with_reducible refine gst ?_); refine wT hA ?_; clear hF hA; intro w1 hA hF; (try simp only [uY] at hA hF)) | ((with_reducible refine gal ?_); refine wG 38 [.bool false, .bool false, .int .i64 0, .int .i64 0, .int .i64 0] hA ?_; clear hF hA; intro b1 w1 hA hb1 hF; (try simp only [uY] at hA hF)))
     go_ret
     exact ⟨rfl, hA.only1 sR⟩
 · have e1 : openE (look ss n f) (cnt ss f) = 50 := by simp [openE, hd]
   rw [e1]
   go_enter Tryz.func66, Tryz.ntmps66
   go_wp2_with ((with_reducible refine gbx ?_); refine wC hA ?_; clear hF hA; intro b1 w1 hA hb1 hF; (try simp only [uY] at hA hF))
   refine (info_any (hA.sep1 sR) h0 h1 hf).mono ?_
   unfold Ses.info
   rw [hd]
   rintro e w1 ⟨rfl, hT⟩; have hB := hA.call1 sR hT; clear hF hA hT; have hA := hB; clear hB; have hF := hA.facts; (try simp only [uY] at hA hF)
   go_wp2_with (first | ((with_reducible refine gst ?_); refine wT hA ?_; clear hF hA; intro w1 hA hF; (try simp only [uY] at hA hF)) | ((with_reducible refine gal ?_); refine wG 38 [.bool false, .bool false, .int .i64 0, .int .i64 0, .int .i64 0] hA ?_; clear hF hA; intro b1 w1 hA hb1 hF; (try simp only [uY] at hA hF)))
   go_ret
   exact ⟨rfl, hA.only1 sR⟩
def OpenPost (p m : Nat) (ss : List Ses) (n : Int) (f : ByteArray) (ttl time : Int) (w : World) (e : Ending) (w' : World) : Prop :=
 ∃ b t, e = .returned (.int .i64 0) ∧ At [BookP p m ss] w [BookP p m (ss ++ [(fresh n f b t).opened ttl time])] w'
theorem open_new {w : World} {p m : Nat} {ss : List Ses} (h : Sep [BookP p m ss] w) {n : Int} {f : ByteArray} (h0 : 0 ≤ n) (h1 : n < big64) (hf : f.size ≤ maxLen) (hl : ss.length ≤ 1000000000) (ttl time : Int) (hn : find ss n f = none) (hc : cnt ss f < 32) :
 Calls Tryz.prog 66 #[.pointer (some ⟨p, 0, none⟩), .agg #[.int .u64 n, .string f], .int .i64 ttl, .int .i64 time] w (OpenPost p m ss n f ttl time w) := by
 have hA := At.start h
 have hF := hA.facts
 clear h
 have hk : look ss n f = fresh n f 0 0 := by unfold look; rw [hn]; rfl
 have hd : (look ss n f).dead = false := by rw [hk]; rfl
 have ho : (look ss n f).op = false := by rw [hk]; rfl
 have hc' : (cnt ss f : Int) < 32 := by omega
 clear hk
 go_enter Tryz.func66, Tryz.ntmps66
 go_wp2_with ((with_reducible refine gbx ?_); refine wC hA ?_; clear hF hA; intro b1 w1 hA hb1 hF; (try simp only [uY] at hA hF))
 refine (info_any (hA.sep1 sR) h0 h1 hf).mono ?_
 unfold Ses.info
 rw [hd, ho]
 rintro e w1 ⟨rfl, hT⟩; have hB := hA.call1 sR hT; clear hF hA hT; have hA := hB; clear hB; have hF := hA.facts; (try simp only [uY] at hA hF)
 go_wp2_with (first | ((with_reducible refine gst ?_); refine wT hA ?_; clear hF hA; intro w1 hA hF; (try simp only [uY] at hA hF)) | ((with_reducible refine gal ?_); refine wG 38 [.bool false, .bool false, .int .i64 0, .int .i64 0, .int .i64 0] hA ?_; clear hF hA; intro b1 w1 hA hb1 hF; (try simp only [uY] at hA hF)))
 refine (open_any (hA.sep1 sR) f hl).mono ?_
 rintro e w1 ⟨rfl, hT⟩; have hB := hA.call1 sR hT; clear hF hA hT; have hA := hB; clear hB; have hF := hA.facts; (try simp only [uY] at hA hF)
 go_wp2_with fail
 refine (known_none (hA.sep1 sR) h0 h1 hf hn).mono ?_
 rintro e w1 ⟨b, t, rfl, hT⟩
 have hB := hA.call1 sR hT; clear hF hA hT
 have hA := open1 (l1 := ss) (l2 := []) (s := fresh n f b t) hB sZ
 clear hB
 simp only [Ses.cells, fresh] at hA
 have hF := hA.facts; (try simp only [uY] at hA hF)
 go_wp2_with fail
 refine (end_any _ _ _).mono ?_
 rintro e _ ⟨rfl, rfl⟩
 go_wp2_with fail
 refine (cut_any _ _).mono ?_
 rintro e _ ⟨rfl, rfl⟩
 go_wp2_with ((with_reducible refine gst ?_); refine wT hA ?_; clear hF hA; intro w1 hA hF; (try simp only [uY] at hA hF))
 go_ret
 refine ⟨b, t, rfl, ?_⟩
 have e2 : ents (ss ++ [fresh n f b t]) = ents (ss ++ [(fresh n f b t).opened ttl time]) := by simp [ents, ent, Ses.key, Ses.ptr, fresh, Ses.opened]
 simp only [fresh] at e2
 rw [e2] at hA
 exact close1 (m := m) (l1 := ss) (l2 := []) (s := (fresh n f b t).opened ttl time) hA sR sZ sZ sZ sZ
theorem open_old {w : World} {p m : Nat} {l1 l2 : List Ses} {s : Ses} (h : Sep [BookP p m (l1 ++ s :: l2)] w) {n : Int} {f : ByteArray} (h0 : 0 ≤ n) (h1 : n < big64) (hf : f.size ≤ maxLen) (hl : (l1 ++ s :: l2).length ≤ 1000000000) (ttl time : Int) (hn : find (l1 ++ s :: l2) n f = some s) (hc : cnt (l1 ++ s :: l2) f < 32) (hsd : s.dead = false) (hso : s.op = false) :
 Calls Tryz.prog 66 #[.pointer (some ⟨p, 0, none⟩), .agg #[.int .u64 n, .string f], .int .i64 ttl, .int .i64 time] w fun e w' => e = .returned (.int .i64 0) ∧ At [BookP p m (l1 ++ s :: l2)] w [BookP p m (l1 ++ s.opened ttl time :: l2)] w' := by
 have hA := At.start h
 have hF := hA.facts
 clear h
 have hk : look (l1 ++ s :: l2) n f = s := by unfold look; rw [hn]; rfl
 have hd : (look (l1 ++ s :: l2) n f).dead = false := by rw [hk]; exact hsd
 have ho : (look (l1 ++ s :: l2) n f).op = false := by rw [hk]; exact hso
 have hc' : (cnt (l1 ++ s :: l2) f : Int) < 32 := by omega
 clear hk hsd hso
 go_enter Tryz.func66, Tryz.ntmps66
 go_wp2_with ((with_reducible refine gbx ?_); refine wC hA ?_; clear hF hA; intro b1 w1 hA hb1 hF; (try simp only [uY] at hA hF))
 refine (info_any (hA.sep1 sR) h0 h1 hf).mono ?_
 unfold Ses.info
 rw [hd, ho]
 rintro e w1 ⟨rfl, hT⟩; have hB := hA.call1 sR hT; clear hF hA hT; have hA := hB; clear hB; have hF := hA.facts; (try simp only [uY] at hA hF)
 go_wp2_with (first | ((with_reducible refine gst ?_); refine wT hA ?_; clear hF hA; intro w1 hA hF; (try simp only [uY] at hA hF)) | ((with_reducible refine gal ?_); refine wG 38 [.bool false, .bool false, .int .i64 0, .int .i64 0, .int .i64 0] hA ?_; clear hF hA; intro b1 w1 hA hb1 hF; (try simp only [uY] at hA hF)))
 refine (open_any (hA.sep1 sR) f hl).mono ?_
 rintro e w1 ⟨rfl, hT⟩; have hB := hA.call1 sR hT; clear hF hA hT; have hA := hB; clear hB; have hF := hA.facts; (try simp only [uY] at hA hF)
 go_wp2_with fail
 refine (known_some (hA.sep1 sR) h0 h1 hf hn).mono ?_
 rintro e w1 ⟨rfl, hT⟩; have hB := hA.call1 sR hT; clear hF hA hT; have hA := hB; clear hB; have hF := hA.facts; (try simp only [uY] at hA hF)
 have hA := open1 hA sR
 simp only [Ses.cells] at hA
 have hF := hA.facts; (try simp only [uY] at hA hF)
 go_wp2_with fail
 refine (end_any _ _ _).mono ?_
 rintro e _ ⟨rfl, rfl⟩
 go_wp2_with fail
 refine (cut_any _ _).mono ?_
 rintro e _ ⟨rfl, rfl⟩
 go_wp2_with ((with_reducible refine gst ?_); refine wT hA ?_; clear hF hA; intro w1 hA hF; (try simp only [uY] at hA hF))
 go_ret
 refine ⟨rfl, ?_⟩
 have e2 : ents (l1 ++ s :: l2) = ents (l1 ++ s.opened ttl time :: l2) := by simp [ents, ent, Ses.key, Ses.ptr, Ses.opened]
 rw [e2] at hA
 exact close1 (m := m) (s := s.opened ttl time) hA sR sZ sZ sZ sZ
end Go.Proofs.YtpebabaigakagaaGreatDoor.Lease
end
section
namespace Go.Proofs.YtpebabaigakagaaGreatDoor.Lease
open Go.RowKit
open Go.Maps (Keyed)
theorem end_no {w : World} {p m : Nat} {ss : List Ses} (h : Sep [BookP p m ss] w) {n : Int} {f : ByteArray} (h0 : 0 ≤ n) (h1 : n < big64) (hf : f.size ≤ maxLen) (ho : (look ss n f).op = false) :
 Calls Tryz.prog 65 #[.pointer (some ⟨p, 0, none⟩), .agg #[.int .u64 n, .string f]] w fun e w' => e = .returned (.int .i64 50) ∧ At [BookP p m ss] w [BookP p m ss] w' := by
 have hA := At.start h
 have hF := hA.facts
 clear h
 have hfd : ∀ a b c d e w, (Instr.field 38 (.agg #[a, b, c, d, e]) 0).run Tryz.prog w = .ok a w := fun _ _ _ _ _ _ => by kernel_rfl
 go_enter Tryz.func65, Tryz.ntmps65
 go_wp2_with ((with_reducible refine gbx ?_); refine wC hA ?_; clear hF hA; intro b1 w1 hA hb1 hF; (try simp only [uY] at hA hF))
 refine (info_any (hA.sep1 sR) h0 h1 hf).mono ?_
 unfold Ses.info
 rw [ho]
 rintro e w1 ⟨rfl, hT⟩; have hB := hA.call1 sR hT; clear hF hA hT; have hA := hB; clear hB; have hF := hA.facts; (try simp only [uY] at hA hF)
 go_wp2_with fail
 go_ret
 exact ⟨rfl, hA.only1 sR⟩
theorem end_yes {w : World} {p m : Nat} {l1 l2 : List Ses} {s : Ses} (h : Sep [BookP p m (l1 ++ s :: l2)] w) {n : Int} {f : ByteArray} (h0 : 0 ≤ n) (h1 : n < big64) (hf : f.size ≤ maxLen) (hn : find (l1 ++ s :: l2) n f = some s) (hso : s.op = true) :
 Calls Tryz.prog 65 #[.pointer (some ⟨p, 0, none⟩), .agg #[.int .u64 n, .string f]] w fun e w' => e = .returned (.int .i64 0) ∧ At [BookP p m (l1 ++ s :: l2)] w [BookP p m (l1 ++ s.ended :: l2)] w' := by
 obtain ⟨kl, hk⟩ := keyS h0 h1 hf
 have hmem := Lib.hid (find_mem hn)
 have hA := At.start h
 have hF := hA.facts
 clear h
 have hk' : look (l1 ++ s :: l2) n f = s := by unfold look; rw [hn]; rfl
 have ho : (look (l1 ++ s :: l2) n f).op = true := by rw [hk']; exact hso
 clear hk' hso
 unfold keyV at *
 have hfd : ∀ a b c d e w, (Instr.field 38 (.agg #[a, b, c, d, e]) 0).run Tryz.prog w = .ok a w := fun _ _ _ _ _ _ => by kernel_rfl
 go_enter Tryz.func65, Tryz.ntmps65
 go_wp2_with ((with_reducible refine gbx ?_); refine wC hA ?_; clear hF hA; intro b1 w1 hA hb1 hF; (try simp only [uY] at hA hF))
 refine (info_any (hA.sep1 sR) h0 h1 hf).mono ?_
 unfold Ses.info
 rw [ho]
 rintro e w1 ⟨rfl, hT⟩; have hB := hA.call1 sR hT; clear hF hA hT; have hA := hB; clear hB; have hF := hA.facts; (try simp only [uY] at hA hF)
 go_wp2_with fail
 have hA := open1 hA sR
 simp only [Ses.cells] at hA
 have hF := hA.facts; (try simp only [uY] at hA hF)
 have hl : ∀ q, (Instr.lookup 78 (.map (some m)) (.agg #[.int .u64 n, .string f]) false).run Tryz.prog (w1.drewN q) = .ok s.ptr (w1.drewN q) := fun q =>
  MapAt.look_some (w := w1.drewN q) ((hA.drewN q).get (A := mapC m (ents (l1 ++ s :: l2))) sR) lawS Tryz.underlying78 hk hmem.out false
 unfold Ses.ptr at hl
 (refine wp_region_head 9 (fun w' => ∃ n, w' = World.drewN _ n) (by kernel_rfl) (by kernel_rfl) ⟨1, rfl⟩ ?_); (simp only [List.take_succ_cons, List.take_zero, List.drop_succ_cons, List.drop_zero]); (repeat (first | go_big_quiet_step (fail) | quiet_step (fail))); (refine wpQuiet_nil ?_); (rintro _ ⟨nq, rfl⟩)
 have hA := hA.drewN nq; generalize World.drewN _ nq = w1 at *; clear hF; have hF := hA.facts; (try simp only [uY] at hA hF)
 go_wp2_with ((with_reducible refine gst ?_); refine wT hA ?_; clear hF hA; intro w1 hA hF; (try simp only [uY] at hA hF))
 go_ret
 refine ⟨rfl, ?_⟩
 have e2 : ents (l1 ++ s :: l2) = ents (l1 ++ s.ended :: l2) := by simp [ents, ent, Ses.key, Ses.ptr, Ses.ended]
 rw [e2] at hA
 exact close1 (m := m) (s := s.ended) hA sR sZ sZ sZ sZ
theorem expire_early {w : World} {p m : Nat} {ss : List Ses} (h : Sep [BookP p m ss] w) {n : Int} {f : ByteArray} (h0 : 0 ≤ n) (h1 : n < big64) (hf : f.size ≤ maxLen) (time : Int) (ho : (look ss n f).op = true) (ht : time < (look ss n f).dl) :
 Calls Tryz.prog 38 #[.pointer (some ⟨p, 0, none⟩), .agg #[.int .u64 n, .string f], .int .i64 time] w fun e w' => e = .returned (.int .i64 54) ∧ At [BookP p m ss] w [BookP p m ss] w' := by
 have hA := At.start h
 have hF := hA.facts
 clear h
 go_enter Tryz.func38, Tryz.ntmps38
 go_wp2_with ((with_reducible refine gbx ?_); refine wC hA ?_; clear hF hA; intro b1 w1 hA hb1 hF; (try simp only [uY] at hA hF))
 refine (info_any (hA.sep1 sR) h0 h1 hf).mono ?_
 unfold Ses.info
 rw [ho]
 rintro e w1 ⟨rfl, hT⟩; have hB := hA.call1 sR hT; clear hF hA hT; have hA := hB; clear hB; have hF := hA.facts; (try simp only [uY] at hA hF)
 go_wp2_with (first | ((with_reducible refine gst ?_); refine wT hA ?_; clear hF hA; intro w1 hA hF; (try simp only [uY] at hA hF)) | ((with_reducible refine gal ?_); refine wG 38 [.bool false, .bool false, .int .i64 0, .int .i64 0, .int .i64 0] hA ?_; clear hF hA; intro b1 w1 hA hb1 hF; (try simp only [uY] at hA hF)))
 go_ret
 exact ⟨rfl, hA.only1 sR⟩
theorem expire_no {w : World} {p m : Nat} {ss : List Ses} (h : Sep [BookP p m ss] w) {n : Int} {f : ByteArray} (h0 : 0 ≤ n) (h1 : n < big64) (hf : f.size ≤ maxLen) (time : Int) (ho : (look ss n f).op = false) :
 Calls Tryz.prog 38 #[.pointer (some ⟨p, 0, none⟩), .agg #[.int .u64 n, .string f], .int .i64 time] w fun e w' => e = .returned (.int .i64 50) ∧ At [BookP p m ss] w [BookP p m ss] w' := by
 have hA := At.start h
 have hF := hA.facts
 clear h
 go_enter Tryz.func38, Tryz.ntmps38
 go_wp2_with ((with_reducible refine gbx ?_); refine wC hA ?_; clear hF hA; intro b1 w1 hA hb1 hF; (try simp only [uY] at hA hF))
 refine (info_any (hA.sep1 sR) h0 h1 hf).mono ?_
 unfold Ses.info
 rw [ho]
 rintro e w1 ⟨rfl, hT⟩; have hB := hA.call1 sR hT; clear hF hA hT; have hA := hB; clear hB; have hF := hA.facts; (try simp only [uY] at hA hF)
 go_wp2_with (first | ((with_reducible refine gst ?_); refine wT hA ?_; clear hF hA; intro w1 hA hF; (try simp only [uY] at hA hF)) | ((with_reducible refine gal ?_); refine wG 38 [.bool false, .bool false, .int .i64 0, .int .i64 0, .int .i64 0] hA ?_; clear hF hA; intro b1 w1 hA hb1 hF; (try simp only [uY] at hA hF)))
 refine (end_no (hA.sep1 sR) h0 h1 hf ho).mono ?_
 rintro e w1 ⟨rfl, hT⟩; have hB := hA.call1 sR hT; clear hF hA hT; have hA := hB; clear hB; have hF := hA.facts; (try simp only [uY] at hA hF)
 go_wp2_with fail
 go_ret
 exact ⟨rfl, hA.only1 sR⟩
theorem expire_yes {w : World} {p m : Nat} {l1 l2 : List Ses} {s : Ses} (h : Sep [BookP p m (l1 ++ s :: l2)] w) {n : Int} {f : ByteArray} (h0 : 0 ≤ n) (h1 : n < big64) (hf : f.size ≤ maxLen) (time : Int) (hn : find (l1 ++ s :: l2) n f = some s) (hso : s.op = true) (ht : s.dl ≤ time) :
 Calls Tryz.prog 38 #[.pointer (some ⟨p, 0, none⟩), .agg #[.int .u64 n, .string f], .int .i64 time] w fun e w' => e = .returned (.int .i64 0) ∧ At [BookP p m (l1 ++ s :: l2)] w [BookP p m (l1 ++ s.ended :: l2)] w' := by
 have hA := At.start h
 have hF := hA.facts
 clear h
 have hk' : look (l1 ++ s :: l2) n f = s := by unfold look; rw [hn]; rfl
 have ho : (look (l1 ++ s :: l2) n f).op = true := by rw [hk']; exact hso
 have ht' : decide (time < (look (l1 ++ s :: l2) n f).dl) = false := by rw [hk']; simp; omega
 clear hk'
 go_enter Tryz.func38, Tryz.ntmps38
 go_wp2_with ((with_reducible refine gbx ?_); refine wC hA ?_; clear hF hA; intro b1 w1 hA hb1 hF; (try simp only [uY] at hA hF))
 refine (info_any (hA.sep1 sR) h0 h1 hf).mono ?_
 unfold Ses.info
 rw [ho]
 rintro e w1 ⟨rfl, hT⟩; have hB := hA.call1 sR hT; clear hF hA hT; have hA := hB; clear hB; have hF := hA.facts; (try simp only [uY] at hA hF)
 go_wp2_with (first | ((with_reducible refine gst ?_); refine wT hA ?_; clear hF hA; intro w1 hA hF; (try simp only [uY] at hA hF)) | ((with_reducible refine gal ?_); refine wG 38 [.bool false, .bool false, .int .i64 0, .int .i64 0, .int .i64 0] hA ?_; clear hF hA; intro b1 w1 hA hb1 hF; (try simp only [uY] at hA hF)))
 refine (end_yes (hA.sep1 sR) h0 h1 hf hn hso).mono ?_
 rintro e w1 ⟨rfl, hT⟩; have hB := hA.call1 sR hT; clear hF hA hT; have hA := hB; clear hB; have hF := hA.facts; (try simp only [uY] at hA hF)
 go_wp2_with fail
 go_ret
 exact ⟨rfl, hA.only1 sR⟩
end Go.Proofs.YtpebabaigakagaaGreatDoor.Lease
end
section
namespace Go.Proofs.YtpebabaigakagaaGreatDoor.Lease
open Go.RowKit
open Go.Maps (Keyed)
def Ses.kept (s : Ses) (time : Int) : Ses := { s with dl := if s.dl < endI time s.ttl then endI time s.ttl else s.dl }
theorem keep_no {w : World} {p m : Nat} {ss : List Ses} (h : Sep [BookP p m ss] w) {n : Int} {f : ByteArray} (h0 : 0 ≤ n) (h1 : n < big64) (hf : f.size ≤ maxLen) (time : Int) (ho : (look ss n f).op = false) :
 Calls Tryz.prog 67 #[.pointer (some ⟨p, 0, none⟩), .agg #[.int .u64 n, .string f], .int .i64 time] w fun e w' => e = .returned (.int .i64 50) ∧ At [BookP p m ss] w [BookP p m ss] w' := by
 have hA := At.start h
 have hF := hA.facts
 clear h
 have hfd : ∀ a b c d e w, (Instr.field 38 (.agg #[a, b, c, d, e]) 0).run Tryz.prog w = .ok a w := fun _ _ _ _ _ _ => by kernel_rfl
 go_enter Tryz.func67, Tryz.ntmps67
 go_wp2_with ((with_reducible refine gbx ?_); refine wC hA ?_; clear hF hA; intro b1 w1 hA hb1 hF; (try simp only [uY] at hA hF))
 refine (info_any (hA.sep1 sR) h0 h1 hf).mono ?_
 unfold Ses.info
 rw [ho]
 rintro e w1 ⟨rfl, hT⟩; have hB := hA.call1 sR hT; clear hF hA hT; have hA := hB; clear hB; have hF := hA.facts; (try simp only [uY] at hA hF)
 go_wp2_with fail
 go_ret
 exact ⟨rfl, hA.only1 sR⟩
theorem keep_yes {w : World} {p m : Nat} {l1 l2 : List Ses} {s : Ses} (h : Sep [BookP p m (l1 ++ s :: l2)] w) {n : Int} {f : ByteArray} (h0 : 0 ≤ n) (h1 : n < big64) (hf : f.size ≤ maxLen) (time : Int) (hn : find (l1 ++ s :: l2) n f = some s) (hso : s.op = true) :
 Calls Tryz.prog 67 #[.pointer (some ⟨p, 0, none⟩), .agg #[.int .u64 n, .string f], .int .i64 time] w fun e w' => e = .returned (.int .i64 0) ∧ At [BookP p m (l1 ++ s :: l2)] w [BookP p m (l1 ++ s.kept time :: l2)] w' := by
 obtain ⟨kl, hk⟩ := keyS h0 h1 hf
 have hmem := Lib.hid (find_mem hn)
 have hA := At.start h
 have hF := hA.facts
 clear h
 have hk' : look (l1 ++ s :: l2) n f = s := by unfold look; rw [hn]; rfl
 have ho : (look (l1 ++ s :: l2) n f).op = true := by rw [hk']; exact hso
 clear hk' hso
 unfold keyV at *
 have hfd : ∀ a b c d e w, (Instr.field 38 (.agg #[a, b, c, d, e]) 0).run Tryz.prog w = .ok a w := fun _ _ _ _ _ _ => by kernel_rfl
 go_enter Tryz.func67, Tryz.ntmps67
 go_wp2_with ((with_reducible refine gbx ?_); refine wC hA ?_; clear hF hA; intro b1 w1 hA hb1 hF; (try simp only [uY] at hA hF))
 refine (info_any (hA.sep1 sR) h0 h1 hf).mono ?_
 unfold Ses.info
 rw [ho]
 rintro e w1 ⟨rfl, hT⟩; have hB := hA.call1 sR hT; clear hF hA hT; have hA := hB; clear hB; have hF := hA.facts; (try simp only [uY] at hA hF)
 go_wp2_with fail
 have hA := open1 hA sR
 simp only [Ses.cells] at hA
 have hF := hA.facts; (try simp only [uY] at hA hF)
 have hl : ∀ q, (Instr.lookup 78 (.map (some m)) (.agg #[.int .u64 n, .string f]) false).run Tryz.prog (w1.drewN q) = .ok s.ptr (w1.drewN q) := fun q =>
  MapAt.look_some (w := w1.drewN q) ((hA.drewN q).get (A := mapC m (ents (l1 ++ s :: l2))) sR) lawS Tryz.underlying78 hk hmem.out false
 unfold Ses.ptr at hl
 go_quiet (fail)
 have hA := hA.drewN nq; generalize World.drewN _ nq = w1 at *; clear hF; have hF := hA.facts; (try simp only [uY] at hA hF)
 go_wp2_with fail
 have hd : s.dl < endI time s.ttl ∨ ¬ s.dl < endI time s.ttl := by omega
 have e2 : ents (l1 ++ s :: l2) = ents (l1 ++ s.kept time :: l2) := by simp [ents, ent, Ses.key, Ses.ptr, Ses.kept]
 have e2' := Lib.hid e2
 clear e2
 rcases hd with hd | hd
 · have hkc : s.kept time = { s with dl := endI time s.ttl } := by unfold Ses.kept; rw [if_pos hd]
   have hkc' := Lib.hid hkc
   clear hkc
   (refine wp_region_head 14 (fun w' => ∃ n, w' = World.drewN _ n) (by kernel_rfl) (by kernel_rfl) ⟨1, rfl⟩ ?_); (simp only [List.take_succ_cons, List.take_zero, List.drop_succ_cons, List.drop_zero]); (repeat (first | go_big_quiet_step (exact (end_any _ _ _).mono fun _ _ ⟨he, hw⟩ => ⟨he, _, hw.symm⟩) | quiet_step (exact (end_any _ _ _).mono fun _ _ ⟨he, hw⟩ => ⟨he, _, hw.symm⟩))); (refine wpQuiet_nil ?_); (rintro _ ⟨nq, rfl⟩)
   have hA := hA.drewN nq; generalize World.drewN _ nq = w1 at *; clear hF; have hF := hA.facts; (try simp only [uY] at hA hF)
   go_wp2_with ((with_reducible refine gst ?_); refine wT hA ?_; clear hF hA; intro w1 hA hF; (try simp only [uY] at hA hF))
   go_ret
   refine ⟨rfl, ?_⟩
   rw [e2'.out, hkc'.out] at hA
   rw [hkc'.out]
   exact close1 (m := m) (s := { s with dl := endI time s.ttl }) hA sR sZ sZ sZ sZ
 · have hkc : s.kept time = s := by unfold Ses.kept; rw [if_neg hd]
   have hd' : endI time s.ttl ≤ s.dl := by omega
   have hkc' := Lib.hid hkc
   clear hkc
   (refine wp_region_head 14 (fun w' => ∃ n, w' = World.drewN _ n) (by kernel_rfl) (by kernel_rfl) ⟨1, rfl⟩ ?_); (simp only [List.take_succ_cons, List.take_zero, List.drop_succ_cons, List.drop_zero]); (repeat (first | go_big_quiet_step (exact (end_any _ _ _).mono fun _ _ ⟨he, hw⟩ => ⟨he, _, hw.symm⟩) | quiet_step (exact (end_any _ _ _).mono fun _ _ ⟨he, hw⟩ => ⟨he, _, hw.symm⟩))); (refine wpQuiet_nil ?_); (rintro _ ⟨nq, rfl⟩)
   have hA := hA.drewN nq; generalize World.drewN _ nq = w1 at *; clear hF; have hF := hA.facts; (try simp only [uY] at hA hF)
   go_wp2_with ((with_reducible refine gst ?_); refine wT hA ?_; clear hF hA; intro w1 hA hF; (try simp only [uY] at hA hF))
   go_ret
   refine ⟨rfl, ?_⟩
   rw [e2'.out, hkc'.out] at hA
   rw [hkc'.out]
   exact close1 (m := m) (s := s) hA sR sZ sZ sZ sZ
end Go.Proofs.YtpebabaigakagaaGreatDoor.Lease
end
section
namespace Go.Proofs.YtpebabaigakagaaGreatDoor.Lease
open Go.RowKit
def toldV (o : Option Ans) : Value := match o with
 | some a => .tuple #[.agg #[.int .i64 a.e, .int .u64 a.n, .bool a.g], .bool true]
 | none => .tuple #[.agg #[.int .i64 0, .int .u64 0, .bool false], .bool false]
theorem told_any {w : World} {p m : Nat} {ss : List Ses} (h : Sep [BookP p m ss] w) {n r : Int} {f : ByteArray} (h0 : 0 ≤ n) (h1 : n < big64) (hf : f.size ≤ maxLen) (r0 : 0 ≤ r) (r1 : r < big64) :
 Calls Tryz.prog 23 #[.pointer (some ⟨p, 0, none⟩), .agg #[.int .u64 n, .string f], .int .u64 r] w fun e w' => e = .returned (toldV (said (look ss n f).told r)) ∧ At [BookP p m ss] w [BookP p m ss] w' := by
 cases hn : find ss n f with
 | none =>
  have hlk : look ss n f = fresh n f 0 0 := by unfold look; rw [hn]; rfl
  rw [hlk, show said (fresh n f 0 0).told r = none from rfl]
  exact told_none h h0 h1 hf hn
 | some s =>
  have hlk : look ss n f = s := by unfold look; rw [hn]; rfl
  rw [hlk]
  cases hr : said s.told r with
  | none => exact told_new h h0 h1 hf hn r0 r1 hr
  | some a => exact told_old h h0 h1 hf hn r0 r1 hr
end Go.Proofs.YtpebabaigakagaaGreatDoor.Lease
end
