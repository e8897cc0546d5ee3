/- LeaseFull: the walk of the law. -/
import Derived.Test.YticmopnbfpgaiaaLeaseW8
namespace Go.Proofs.Yticmopnbfpgaiaa.Lease
open Go.RowKit
open Go.Maps (Keyed)
set_option linter.unusedSimpArgs false
set_option linter.unusedVariables false

/-- n sessions with a footprint are open, by number -/
def Full (f : ByteArray) (ss : List Ses) (n : Nat) : Prop := ss.length = n ∧ ∀ j, j < n → ∃ b t, ss[j]? = some ((fresh j f b t).opened 1 1)
theorem Full.nil (f : ByteArray) : Full f [] 0 := ⟨rfl, fun j hj => by omega⟩
theorem Full.snoc {f : ByteArray} {ss : List Ses} {n : Nat} (h : Full f ss n) (b t : Nat) : Full f (ss ++ [(fresh n f b t).opened 1 1]) (n + 1) := by
  refine ⟨by simp [h.1], fun j hj => ?_⟩
  by_cases hjn : j < n
  · obtain ⟨b', t', e⟩ := h.2 j hjn
    exact ⟨b', t', by rw [List.getElem?_append_left (by rw [h.1]; exact hjn)]; exact e⟩
  · have : j = n := by omega
    subst this
    exact ⟨b, t, by rw [List.getElem?_append_right (by rw [h.1]; exact Nat.le_refl _), h.1]; simp⟩
theorem Full.mem {f : ByteArray} {ss : List Ses} {n : Nat} (h : Full f ss n) {s : Ses} (hs : s ∈ ss) : ∃ j b t, j < n ∧ s = (fresh (j : Nat) f b t).opened 1 1 := by
  obtain ⟨j, hj⟩ := List.mem_iff_getElem?.1 hs
  have hlt := (List.getElem?_eq_some_iff.1 hj).1
  rw [h.1] at hlt
  obtain ⟨b, t, e⟩ := h.2 j hlt
  rw [hj] at e
  exact ⟨j, b, t, hlt, Option.some.inj e⟩
theorem Full.no {f : ByteArray} {ss : List Ses} {n : Nat} (h : Full f ss n) {i : Int} (hi : (n : Int) ≤ i) : find ss i f = none := by
  refine List.find?_eq_none.2 (fun s hs => ?_)
  obtain ⟨j, b, t, hj, rfl⟩ := h.mem hs
  simp [Ses.is, Ses.opened, fresh]
  omega
theorem Full.cnt {f : ByteArray} {ss : List Ses} {n : Nat} (h : Full f ss n) : cnt ss f = n := by
  unfold Lease.cnt
  rw [List.filter_eq_self.2 (fun s hs => by obtain ⟨j, b, t, _, rfl⟩ := h.mem hs; simp [Ses.opened, fresh]), h.1]

def FRel (p m : Nat) (f : ByteArray) (x : Nat) (w : World) (k : Nat) (v : Value) (wr : World) : Prop :=
  ∃ (i : Nat) (ss : List Ses), v = .int .i64 i ∧ i + k = 32 + x ∧ At [] w [BookP p m ss] wr ∧ Full f ss (min i 32)

/-- n answers, by request -/
def toldN (n : Nat) : List (Int × Ans) := (List.range n).map (fun j : Nat => ((j : Int), Ans.mk 0 j false))
theorem toldN_succ (n : Nat) : toldN n ++ [((n : Int), Ans.mk 0 n false)] = toldN (n + 1) := by simp [toldN, List.range_succ]
theorem toldN_len (n : Nat) : (toldN n).length = n := by simp [toldN]
theorem toldN_none {n i : Nat} (h : n ≤ i) : said (toldN n) (i : Int) = none := by
  unfold said
  simp only [Option.map_eq_none_iff]
  refine List.find?_eq_none.2 (fun q hq => ?_)
  obtain ⟨j, hj, rfl⟩ := List.mem_map.1 hq
  have := List.mem_range.1 hj
  simp
  omega
/-- the first session, to which n answers were told -/
def s0 (f : ByteArray) (b t n : Nat) : Ses := { (fresh 0 f b t).opened 1 1 with told := toldN n }
theorem s0_zero (f : ByteArray) (b t : Nat) : s0 f b t 0 = (fresh 0 f b t).opened 1 1 := rfl
theorem s0_find (f : ByteArray) (b t n : Nat) (l : List Ses) : find ([] ++ s0 f b t n :: l) 0 f = some (s0 f b t n) := by simp [find, Ses.is, s0, Ses.opened, fresh]
theorem s0_look (f : ByteArray) (b t n : Nat) (l : List Ses) : look (s0 f b t n :: l) 0 f = s0 f b t n := by simp [look, find, Ses.is, s0, Ses.opened, fresh]
theorem Full.head {f : ByteArray} {ss : List Ses} (h : Full f ss 32) : ∃ b t l, ss = s0 f b t 0 :: l ∧ l.length = 31 ∧ Full f (s0 f b t 0 :: l) 32 := by
  obtain ⟨b, t, e⟩ := h.2 0 (by omega)
  cases ss with
  | nil => simp at e
  | cons s l =>
    have e1 : s = (fresh (0 : Nat) f b t).opened 1 1 := by simpa using e
    have e2 : s = s0 f b t 0 := e1
    subst e2
    exact ⟨b, t, l, rfl, by have := h.1; simp at this; exact this, h⟩
theorem Full.tail_mem {f : ByteArray} {b t : Nat} {l : List Ses} (h : Full f (s0 f b t 0 :: l) 32) {s : Ses} (hs : s ∈ l) : ∃ j b t, j < 32 ∧ s = (fresh (j : Nat) f b t).opened 1 1 := h.mem (List.mem_cons_of_mem _ hs)
theorem Full.second {f : ByteArray} {b t n : Nat} {l : List Ses} (h : Full f (s0 f b t 0 :: l) 32) : (look (s0 f b t n :: l) 1 f).told = [] := by
  unfold look
  cases e : find (s0 f b t n :: l) 1 f with
  | none => rfl
  | some s =>
    obtain ⟨l1, l2, e1, e2, e3, _⟩ := find_split e
    have hm : s ∈ s0 f b t n :: l := by rw [e1]; simp
    rcases List.mem_cons.1 hm with rfl | hm
    · simp [s0, Ses.opened, fresh] at e2
    · obtain ⟨j, b', t', _, rfl⟩ := h.tail_mem hm
      rfl
theorem Full.tail_cnt {f : ByteArray} {b t : Nat} {l : List Ses} (h : Full f (s0 f b t 0 :: l) 32) : Lease.cnt l f = 31 := by
  have h1 := h.cnt
  unfold Lease.cnt at *
  simp [List.filter_cons, s0, Ses.opened, fresh] at h1
  simpa using h1
theorem Full.after {f : ByteArray} {b t n : Nat} {l : List Ses} (h : Full f (s0 f b t 0 :: l) 32) {i : Int} (hi : 32 ≤ i) : find ((s0 f b t n).ended :: l) i f = none := by
  refine List.find?_eq_none.2 (fun s hs => ?_)
  rcases List.mem_cons.1 hs with rfl | hs
  · simp [Ses.is, s0, Ses.ended, Ses.opened, fresh]; omega
  · obtain ⟨j, b', t', hj, rfl⟩ := h.tail_mem hs
    simp [Ses.is, Ses.opened, fresh]
    omega
theorem Full.after_cnt {f : ByteArray} {b t n : Nat} {l : List Ses} (h : Full f (s0 f b t 0 :: l) 32) : Lease.cnt ((s0 f b t n).ended :: l) f = 31 := by
  have := h.tail_cnt
  unfold Lease.cnt at *
  simpa [List.filter_cons, s0, Ses.ended] using this
theorem full_last {f : ByteArray} {ss : List Ses} (b t : Nat) {i j : Int} (h : find ss i f = none) (hij : i ≠ j) : find (ss ++ [(fresh j f b t).opened 1 1]) i f = Option.none := by
  unfold find at *
  rw [List.find?_append, h]
  simp [Ses.is, Ses.opened, fresh]
  exact fun e => hij e.symm

theorem s0_info (f : ByteArray) (b t : Nat) : (s0 f b t 256).info = .agg #[.bool true, .bool false, .int .i64 2, .int .i64 1, .int .i64 256] := by
  have : (toldN 256).length = 256 := toldN_len 256
  simp [Ses.info, s0, Ses.opened, fresh, endI, cutI, this]

def TRel (p m : Nat) (f : ByteArray) (x b t : Nat) (l : List Ses) (w : World) (k : Nat) (v : Value) (wr : World) : Prop :=
  ∃ i : Nat, v = .int .i64 i ∧ i + k = 256 + x ∧ At [] w [BookP p m (s0 f b t (min i 256) :: l)] wr

set_option maxRecDepth 100000 in
theorem full_in (w : World) (f : ByteArray) (hf : f.size ≤ 100) (x : Nat) (hx : 1 ≤ x ∧ x ≤ 20) :
    Calls Try.prog 3 #[.string f, .int .i64 x] w fun e w' => e = .returned (.bool true) ∧ Ext w w' := by
  have hA := At.start (w0 := w) (L0 := []) trivial
  have hF := hA.facts
  have hfl : f.size ≤ maxLen := by unfold maxLen; omega
  go_enter Try.func3, Try.ntmps3
  go_wp2_with fail
  refine (anchor_any _).mono ?_
  rintro e w1 ⟨rfl, hT⟩
  have hB := hA.ext hT; clear hF hA hT; have hA := hB; clear hB
  (try simp only [setL, List.set_cons_zero, List.set_cons_succ, List.cons_append, List.nil_append] at hA); (have hF := hA.facts); (try simp only [facts_cons, facts_nil, facts_cells, facts_old, facts_fact, facts_obj, facts_map, facts_iter, and_true, true_and] at hF)
  go_wp2_with fail
  refine (new_any _).mono ?_
  rintro e w1 ⟨p, m, rfl, hT⟩
  have hB := hA.call0 hT; clear hF hA hT; have hA := hB; clear hB
  (try simp only [setL, List.set_cons_zero, List.set_cons_succ, List.cons_append, List.nil_append] at hA); (have hF := hA.facts); (try simp only [facts_cons, facts_nil, facts_cells, facts_old, facts_fact, facts_obj, facts_map, facts_iter, and_true, true_and] at hF)
  go_wp2_with fail
  go_loopg [25] (32 + x) (FRel p m f x w)
  case atStart => exact ⟨0, [], rfl, by omega, hA, Full.nil f⟩
  case round =>
    obtain ⟨i, ss, rfl, hk, hA2, hfull⟩ := hrel
    clear hF hA
    have hA := hA2
    clear hA2
    (try simp only [setL, List.set_cons_zero, List.set_cons_succ, List.cons_append, List.nil_append] at hA); (have hF := hA.facts); (try simp only [facts_cons, facts_nil, facts_cells, facts_old, facts_fact, facts_obj, facts_map, facts_iter, and_true, true_and] at hF)
    by_cases hlt : i < 32 + x
    · go_wp2_with fail
      refine (session_any _ _ _).mono ?_
      rintro e w1 ⟨rfl, hT⟩
      have hB := hA.ext hT; clear hF hA hT; have hA := hB; clear hB
      (try simp only [setL, List.set_cons_zero, List.set_cons_succ, List.cons_append, List.nil_append] at hA); (have hF := hA.facts); (try simp only [facts_cons, facts_nil, facts_cells, facts_old, facts_fact, facts_obj, facts_map, facts_iter, and_true, true_and] at hF)
      go_wp2_with fail
      by_cases h32 : i < 32
      · have e1 : min i 32 = i := by omega
        rw [e1] at hfull
        have hi : (i : Int) < 32 := by omega
        refine (open_new (ss := ss) (hA.sep1 (by with_reducible repeat (first | exact Sel.here | apply Sel.there))) (by omega) (by unfold big64; omega) hfl (by rw [hfull.1]; omega) 1 1 (hfull.no (Int.le_refl _)) (by rw [hfull.cnt]; exact h32)).mono ?_
        rintro e w1 ⟨b, t, rfl, hT⟩
        have hB := hA.call1 (by with_reducible repeat (first | exact Sel.here | apply Sel.there)) hT; clear hF hA hT; have hA := hB; clear hB
        (try simp only [setL, List.set_cons_zero, List.set_cons_succ, List.cons_append, List.nil_append] at hA); (have hF := hA.facts); (try simp only [facts_cons, facts_nil, facts_cells, facts_old, facts_fact, facts_obj, facts_map, facts_iter, and_true, true_and] at hF)
        go_wp2_with fail
        go_roundg (gk - 1)
        case measure => omega
        case rel => exact ⟨i + 1, _, by go_num, by omega, hA.only1 (by with_reducible repeat (first | exact Sel.here | apply Sel.there)), by rw [show min (i + 1) 32 = i + 1 by omega]; exact hfull.snoc b t⟩
      · have e1 : min i 32 = 32 := by omega
        rw [e1] at hfull
        have hi : decide ((i : Int) < 32) = false := by simp; omega
        have hlook : look ss i f = fresh i f 0 0 := by unfold look; rw [hfull.no (by omega)]; rfl
        have he : openE (look ss i f) (Lease.cnt ss f) = 14 := by rw [hlook, hfull.cnt]; rfl
        refine (open_no (ss := ss) (n := i) (hA.sep1 (by with_reducible repeat (first | exact Sel.here | apply Sel.there))) (by omega) (by unfold big64; omega) hfl (by rw [hfull.1]; omega) 1 1 (by rw [he]; omega)).mono ?_
        rw [he]
        rintro e w1 ⟨rfl, hT⟩
        have hB := hA.call1 (by with_reducible repeat (first | exact Sel.here | apply Sel.there)) hT; clear hF hA hT; have hA := hB; clear hB
        (try simp only [setL, List.set_cons_zero, List.set_cons_succ, List.cons_append, List.nil_append] at hA); (have hF := hA.facts); (try simp only [facts_cons, facts_nil, facts_cells, facts_old, facts_fact, facts_obj, facts_map, facts_iter, and_true, true_and] at hF)
        clear hlook he
        go_wp2_with fail
        go_roundg (gk - 1)
        case measure => omega
        case rel => exact ⟨i + 1, _, by go_num, by omega, hA.only1 (by with_reducible repeat (first | exact Sel.here | apply Sel.there)), by rw [show min (i + 1) 32 = 32 by omega]; exact hfull⟩
    · rw [show min i 32 = 32 by omega] at hfull
      obtain ⟨b, t, l, rfl, hl, hfull⟩ := hfull.head
      have hnot : decide ((i : Int) < 32 + (x : Int)) = false := by simp; omega
      clear hlt
      go_wp2_with fail
      go_loopg [50] (256 + x) (TRel p m f x b t l w)
      case atStart => exact ⟨0, rfl, by omega, hA⟩
      case round =>
        obtain ⟨i, rfl, hk, hA2⟩ := hrel
        clear hF hA
        have hA := hA2
        clear hA2
        (try simp only [setL, List.set_cons_zero, List.set_cons_succ, List.cons_append, List.nil_append] at hA); (have hF := hA.facts); (try simp only [facts_cons, facts_nil, facts_cells, facts_old, facts_fact, facts_obj, facts_map, facts_iter, and_true, true_and] at hF)
        by_cases hlt : i < 256 + x
        · go_wp2_with fail
          refine (session_any _ _ _).mono ?_
          rintro e w1 ⟨rfl, hT⟩
          have hB := hA.ext hT; clear hF hA hT; have hA := hB; clear hB
          (try simp only [setL, List.set_cons_zero, List.set_cons_succ, List.cons_append, List.nil_append] at hA); (have hF := hA.facts); (try simp only [facts_cons, facts_nil, facts_cells, facts_old, facts_fact, facts_obj, facts_map, facts_iter, and_true, true_and] at hF)
          go_wp2_with fail
          by_cases h256 : i < 256
          · have e1 : min i 256 = i := by omega
            rw [e1] at hA
            refine (tell_new (l1 := []) (l2 := l) (s := s0 f b t i) (hA.sep1 (by repeat (first | exact Sel.here | apply Sel.there))) (by omega) (by unfold big64; omega) hfl (s0_find f b t i l) (by omega) (by unfold big64; omega) (toldN_none (Nat.le_refl _)) (by show (toldN i).length < 256; rw [toldN_len]; exact h256) ⟨0, i, false⟩).mono ?_
            rintro e w1 ⟨rfl, hT⟩
            have hB := hA.call1 (by repeat (first | exact Sel.here | apply Sel.there)) hT; clear hF hA hT; have hA := hB; clear hB
            (try simp only [setL, List.set_cons_zero, List.set_cons_succ, List.cons_append, List.nil_append] at hA); (have hF := hA.facts); (try simp only [facts_cons, facts_nil, facts_cells, facts_old, facts_fact, facts_obj, facts_map, facts_iter, and_true, true_and] at hF)
            go_wp2_with fail
            go_roundg (gk - 1)
            case measure => omega
            case rel => exact ⟨i + 1, by go_num, by omega, by rw [show min (i + 1) 256 = i + 1 by omega]; have := hA.only1 .here; simp only [s0, ← toldN_succ] at this ⊢; exact this⟩
          · have e1 : min i 256 = 256 := by omega
            rw [e1] at hA
            refine (tell_full (ss := [] ++ s0 f b t 256 :: l) (hA.sep1 (by repeat (first | exact Sel.here | apply Sel.there))) (by omega) (by unfold big64; omega) hfl (s0_find f b t 256 l) (by omega) (by unfold big64; omega) (toldN_none (n := 256) (i := i) (by omega)) (by show ¬ (toldN 256).length < 256; rw [toldN_len]; omega) ⟨0, i, false⟩).mono ?_
            rintro e w1 ⟨rfl, hT⟩
            have hB := hA.call1 (by repeat (first | exact Sel.here | apply Sel.there)) hT; clear hF hA hT; have hA := hB; clear hB
            (try simp only [setL, List.set_cons_zero, List.set_cons_succ, List.cons_append, List.nil_append] at hA); (have hF := hA.facts); (try simp only [facts_cons, facts_nil, facts_cells, facts_old, facts_fact, facts_obj, facts_map, facts_iter, and_true, true_and] at hF)
            go_wp2_with fail
            go_roundg (gk - 1)
            case measure => omega
            case rel => exact ⟨i + 1, by go_num, by omega, by rw [show min (i + 1) 256 = 256 by omega]; exact hA.only1 .here⟩
        · rw [show min i 256 = 256 by omega] at hA
          have hnot2 : decide ((i : Int) < 256 + (x : Int)) = false := by simp; omega
          clear hlt
          clear hF
          have hF := hA.facts
          have hfd : ∀ a b c d e w, (Instr.field 35 (.agg #[a, b, c, d, e]) 4).run Try.prog w = .ok e w := fun _ _ _ _ _ _ => by kernel_rfl
          have b0 : (0 : Int) ≤ 0 ∧ (0 : Int) < big64 := by unfold big64; omega
          have b40 : (0 : Int) ≤ 1099511627776 ∧ (1099511627776 : Int) < big64 := by unfold big64; omega
          have b41 : (0 : Int) ≤ 2199023255552 ∧ (2199023255552 : Int) < big64 := by unfold big64; omega
          go_wp2_with fail
          refine (session_any _ _ _).mono ?_
          rintro e w1 ⟨rfl, hT⟩
          have hB := hA.ext hT; clear hF hA hT; have hA := hB; clear hB
          (try simp only [setL, List.set_cons_zero, List.set_cons_succ, List.cons_append, List.nil_append] at hA); (have hF := hA.facts); (try simp only [facts_cons, facts_nil, facts_cells, facts_old, facts_fact, facts_obj, facts_map, facts_iter, and_true, true_and] at hF)
          go_wp2_with fail
          refine (info_any (hA.sep1 (by with_reducible repeat (first | exact Sel.here | apply Sel.there))) b0.1 b0.2 hfl).mono ?_
          rw [s0_look, s0_info]
          rintro e w1 ⟨rfl, hT⟩; have hB := hA.call1 (by with_reducible repeat (first | exact Sel.here | apply Sel.there)) hT; clear hF hA hT; have hA := hB; clear hB; (try simp only [setL, List.set_cons_zero, List.set_cons_succ, List.cons_append, List.nil_append] at hA); (have hF := hA.facts); (try simp only [facts_cons, facts_nil, facts_cells, facts_old, facts_fact, facts_obj, facts_map, facts_iter, and_true, true_and] at hF)
          go_wp2_with fail
          refine (session_any _ _ _).mono ?_
          rintro e w1 ⟨rfl, hT⟩
          have hB := hA.ext hT; clear hF hA hT; have hA := hB; clear hB
          (try simp only [setL, List.set_cons_zero, List.set_cons_succ, List.cons_append, List.nil_append] at hA); (have hF := hA.facts); (try simp only [facts_cons, facts_nil, facts_cells, facts_old, facts_fact, facts_obj, facts_map, facts_iter, and_true, true_and] at hF)
          go_wp2_with fail
          refine (room_no (hA.sep1 (by with_reducible repeat (first | exact Sel.here | apply Sel.there))) b0.1 b0.2 hfl (by rw [s0_look]; show ¬ (toldN 256).length < 256; rw [toldN_len]; omega)).mono ?_
          rintro e w1 ⟨rfl, hT⟩; have hB := hA.call1 (by with_reducible repeat (first | exact Sel.here | apply Sel.there)) hT; clear hF hA hT; have hA := hB; clear hB; (try simp only [setL, List.set_cons_zero, List.set_cons_succ, List.cons_append, List.nil_append] at hA); (have hF := hA.facts); (try simp only [facts_cons, facts_nil, facts_cells, facts_old, facts_fact, facts_obj, facts_map, facts_iter, and_true, true_and] at hF)
          go_wp2_with fail
          refine (session_any _ _ _).mono ?_
          rintro e w1 ⟨rfl, hT⟩
          have hB := hA.ext hT; clear hF hA hT; have hA := hB; clear hB
          (try simp only [setL, List.set_cons_zero, List.set_cons_succ, List.cons_append, List.nil_append] at hA); (have hF := hA.facts); (try simp only [facts_cons, facts_nil, facts_cells, facts_old, facts_fact, facts_obj, facts_map, facts_iter, and_true, true_and] at hF)
          go_wp2_with fail
          refine (room_yes (hA.sep1 (by with_reducible repeat (first | exact Sel.here | apply Sel.there))) one_bd.1 one_bd.2 hfl (by rw [hfull.second]; decide)).mono ?_
          rintro e w1 ⟨rfl, hT⟩; have hB := hA.call1 (by with_reducible repeat (first | exact Sel.here | apply Sel.there)) hT; clear hF hA hT; have hA := hB; clear hB; (try simp only [setL, List.set_cons_zero, List.set_cons_succ, List.cons_append, List.nil_append] at hA); (have hF := hA.facts); (try simp only [facts_cons, facts_nil, facts_cells, facts_old, facts_fact, facts_obj, facts_map, facts_iter, and_true, true_and] at hF)
          go_wp2_with fail
          refine (session_any _ _ _).mono ?_
          rintro e w1 ⟨rfl, hT⟩
          have hB := hA.ext hT; clear hF hA hT; have hA := hB; clear hB
          (try simp only [setL, List.set_cons_zero, List.set_cons_succ, List.cons_append, List.nil_append] at hA); (have hF := hA.facts); (try simp only [facts_cons, facts_nil, facts_cells, facts_old, facts_fact, facts_obj, facts_map, facts_iter, and_true, true_and] at hF)
          go_wp2_with fail
          refine (end_yes (l1 := []) (l2 := l) (s := s0 f b t 256) (hA.sep1 (by repeat (first | exact Sel.here | apply Sel.there))) b0.1 b0.2 hfl (s0_find f b t 256 l) rfl).mono ?_
          rintro e w1 ⟨rfl, hT⟩
          have hB := hA.call1 (by repeat (first | exact Sel.here | apply Sel.there)) hT; clear hF hA hT; have hA := hB; clear hB
          (try simp only [setL, List.set_cons_zero, List.set_cons_succ, List.cons_append, List.nil_append] at hA); (have hF := hA.facts); (try simp only [facts_cons, facts_nil, facts_cells, facts_old, facts_fact, facts_obj, facts_map, facts_iter, and_true, true_and] at hF)
          go_wp2_with fail
          have hn40 := Lib.hid (hfull.after (n := 256) (i := 1099511627776) (by omega))
          have hn41 := Lib.hid (hfull.after (n := 256) (i := 2199023255552) (by omega))
          have hcc := Lib.hid (hfull.after_cnt (n := 256))
          refine (session_any _ _ _).mono ?_
          rintro e w1 ⟨rfl, hT⟩
          have hB := hA.ext hT; clear hF hA hT; have hA := hB; clear hB
          (try simp only [setL, List.set_cons_zero, List.set_cons_succ, List.cons_append, List.nil_append] at hA); (have hF := hA.facts); (try simp only [facts_cons, facts_nil, facts_cells, facts_old, facts_fact, facts_obj, facts_map, facts_iter, and_true, true_and] at hF)
          go_wp2_with fail
          refine (open_new (ss := (s0 f b t 256).ended :: l) (hA.sep1 (by repeat (first | exact Sel.here | apply Sel.there))) b40.1 b40.2 hfl (by simp [hl]) 1 1 hn40.out (by rw [hcc.out]; omega)).mono ?_
          rintro e w1 ⟨b', t', rfl, hT⟩
          have hB := hA.call1 (by repeat (first | exact Sel.here | apply Sel.there)) hT; clear hF hA hT; have hA := hB; clear hB
          (try simp only [setL, List.set_cons_zero, List.set_cons_succ, List.cons_append, List.nil_append] at hA); (have hF := hA.facts); (try simp only [facts_cons, facts_nil, facts_cells, facts_old, facts_fact, facts_obj, facts_map, facts_iter, and_true, true_and] at hF)
          go_wp2_with fail
          have hno := full_last b' t' hn41.out (j := 1099511627776) (by omega)
          have hcn : Lease.cnt (((s0 f b t 256).ended :: l) ++ [(fresh 1099511627776 f b' t').opened 1 1]) f = 32 := by rw [cnt_snoc, hcc.out]; simp [Ses.opened, fresh]
          have hlook : look (((s0 f b t 256).ended :: l) ++ [(fresh 1099511627776 f b' t').opened 1 1]) 2199023255552 f = fresh 2199023255552 f 0 0 := by unfold look; rw [hno]; rfl
          have he : openE (look (((s0 f b t 256).ended :: l) ++ [(fresh 1099511627776 f b' t').opened 1 1]) 2199023255552 f) (Lease.cnt (((s0 f b t 256).ended :: l) ++ [(fresh 1099511627776 f b' t').opened 1 1]) f) = 14 := by rw [hlook, hcn]; rfl
          have he' := Lib.hid he
          clear he hlook hcn hno
          refine (session_any _ _ _).mono ?_
          rintro e w1 ⟨rfl, hT⟩
          have hB := hA.ext hT; clear hF hA hT; have hA := hB; clear hB
          (try simp only [setL, List.set_cons_zero, List.set_cons_succ, List.cons_append, List.nil_append] at hA); (have hF := hA.facts); (try simp only [facts_cons, facts_nil, facts_cells, facts_old, facts_fact, facts_obj, facts_map, facts_iter, and_true, true_and] at hF)
          go_wp2_with fail
          refine (open_no (ss := ((s0 f b t 256).ended :: l) ++ [(fresh 1099511627776 f b' t').opened 1 1]) (hA.sep1 (by repeat (first | exact Sel.here | apply Sel.there))) b41.1 b41.2 hfl (by simp [hl]) 1 1 (by rw [he'.out]; omega)).mono ?_
          rw [he'.out]
          rintro e w1 ⟨rfl, hT⟩
          have hB := hA.call1 (by repeat (first | exact Sel.here | apply Sel.there)) hT; clear hF hA hT; have hA := hB; clear hB
          (try simp only [setL, List.set_cons_zero, List.set_cons_succ, List.cons_append, List.nil_append] at hA); (have hF := hA.facts); (try simp only [facts_cons, facts_nil, facts_cells, facts_old, facts_fact, facts_obj, facts_map, facts_iter, and_true, true_and] at hF)
          go_wp2_with fail
          go_ret
          exact ⟨rfl, hA.toExt⟩

set_option maxRecDepth 100000 in
theorem full_any (w : World) (f : ByteArray) (hf : f.size ≤ 9223372036854775807) (x : Int) :
    Calls Try.prog 3 #[.string f, .int .i64 x] w fun e w' => e = .returned (.bool true) ∧ Ext w w' := by
  by_cases h1 : x < 1
  · go_enter Try.func3, Try.ntmps3
    go_wp2_with fail
    refine (anchor_any _).mono ?_
    rintro e w1 ⟨rfl, hT⟩
    go_wp2_with fail
    go_ret
    exact ⟨rfl, hT⟩
  by_cases h2 : 20 < x
  · go_enter Try.func3, Try.ntmps3
    go_wp2_with fail
    refine (anchor_any _).mono ?_
    rintro e w1 ⟨rfl, hT⟩
    go_wp2_with fail
    go_ret
    exact ⟨rfl, hT⟩
  by_cases h3 : 100 < f.size
  · have h3' : (100 : Int) < (f.size : Int) := by omega
    have h1' : decide (x < 1) = false := by simp; omega
    have h2' : decide (20 < x) = false := by simp; omega
    clear h1 h2
    go_enter Try.func3, Try.ntmps3
    go_wp2_with fail
    refine (anchor_any _).mono ?_
    rintro e w1 ⟨rfl, hT⟩
    go_wp2_with fail
    go_ret
    exact ⟨rfl, hT⟩
  obtain ⟨k, rfl⟩ := Int.eq_ofNat_of_zero_le (by omega : (0 : Int) ≤ x)
  exact full_in w f (by omega) k ⟨by omega, by omega⟩
end Go.Proofs.Yticmopnbfpgaiaa.Lease
