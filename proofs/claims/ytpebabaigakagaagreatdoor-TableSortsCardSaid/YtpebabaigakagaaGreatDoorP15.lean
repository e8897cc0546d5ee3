/- SortU3, joined. -/
import Derived.Test.YtpebabaigakagaaGreatDoorP14
import Derived.Test.YtpebabaigakagaaGreatDoorShelft
import Derived.Laws.Bits64b
set_option linter.unusedSimpArgs false
set_option linter.unusedVariables false
set_option maxRecDepth 100000
set_option maxHeartbeats 16000000
section
namespace Go.Proofs.YtpebabaigakagaaGreatDoor.SortU
open Go.RowKit
open Go.Sort (swp ltInt PermIn)
abbrev intC (b : Nat) (x : Int) : Part := .cells b [.int .i64 x] 3
def O2Post (w : World) (g s : Nat) (d : Array Int) (r : List Value) (x : Nat) (a b : Nat) (e : Ending) (w' : World) : Prop :=
 ∃ (p q y : Nat), e = .returned (.tuple #[.int .i64 p, .int .i64 q]) ∧ (p = a ∧ q = b ∨ p = b ∧ q = a) ∧ y ≤ x + 1 ∧ At [blkU g d r, intC s x] w [blkU g d r, intC s y] w'
theorem order2_any {w : World} {g s cap n x : Nat} {d : Array Int} {r : List Value} (h : Sep [blkU g d r, intC s x] w) (hn : d.size = n) {a b : Nat} (ha : a < d.size) (hb : b < d.size) (hx : x < 1000) (hsz : d.size < 4611686018427387904) :
 Calls Tryz.prog 221 #[.slice (some ⟨g, 0, none⟩) n cap, .int .i64 a, .int .i64 b, .pointer (some ⟨s, 0, none⟩)] w (O2Post w g s d r x a b) := by
 have hA := At.start h
 have hF := hA.facts
 have e1 := rowC_at (r := r) ha
 have e2 := rowC_at (r := r) hb
 clear h
 have hF := hA.facts; (try simp only [uY] at hA hF)
 cases hl : ltU (atU d b) (atU d a)
 · have hl' := Lib.hid hl
   clear hl
   go_enter Tryz.func221, Tryz.ntmps221
   go_wp2_with fail
   (refine cA hA ?_); (have hn1 := Cl.none hA); (have hn2 := Cl.none2 hA); (repeat (first | go_big_quiet_skip | (go_big_quiet_want; (first | (refine qL ?_; go_frame; go_big_quiet_on) | (go_big_quiet_op; (first | go_big_quiet_on | ((apply Exists.intro); (refine ⟨fun w1 hw => ?_, ?_⟩); (focus ((have hw := Cl.out hw); (exact less_in hw _ _ hl'.out))); (go_big_quiet_on))))))))
   (refine wpQuiet_nil ?_); (intro w1 hB); (clear hF hA hn1 hn2); (have hA := Cl.out hB); (clear hB); have hF := hA.facts; (try simp only [uY] at hA hF)
   go_wp2_with fail
   refine bodyPost_ret (v := .tuple #[.int .i64 a, .int .i64 b]) (by simp [results, Tryz.results221, go_sem, hF]) rfl ?_
   exact ⟨a, b, x, rfl, .inl ⟨rfl, rfl⟩, by omega, hA⟩
 · have hl' := Lib.hid hl
   clear hl
   go_enter Tryz.func221, Tryz.ntmps221
   go_wp2_with fail
   (refine cA hA ?_); (have hn1 := Cl.none hA); (have hn2 := Cl.none2 hA); (repeat (first | go_big_quiet_skip | (go_big_quiet_want; (first | (refine qL ?_; go_frame; go_big_quiet_on) | (go_big_quiet_op; (first | go_big_quiet_on | ((apply Exists.intro); (refine ⟨fun w1 hw => ?_, ?_⟩); (focus ((have hw := Cl.out hw); (exact less_in hw _ _ hl'.out))); (go_big_quiet_on))))))))
   (refine wpQuiet_nil ?_); (intro w1 hB); (clear hF hA hn1 hn2); (have hA := Cl.out hB); (clear hB); have hF := hA.facts; (try simp only [uY] at hA hF)
   go_wp2_with ((with_reducible refine gst ?_); refine wT hA ?_; clear hF hA; intro w1 hA hF; (try simp only [uY] at hA hF))
   refine bodyPost_ret (v := .tuple #[.int .i64 b, .int .i64 a]) (by simp [results, Tryz.results221, go_sem, hF]) rfl ?_
   have hA := (show At _ _ [intC s ((x + 1 : Nat) : Int), blkU g d r] _ from hA)
   exact ⟨b, a, x + 1, rfl, .inr ⟨rfl, rfl⟩, by omega, hA.pick (by with_reducible repeat (first | exact Picks.nil | refine Picks.cons sR ?_))⟩
def MedPost (w : World) (g s : Nat) (d : Array Int) (r : List Value) (x : Nat) (a b c : Nat) (e : Ending) (w' : World) : Prop :=
 ∃ (p y : Nat), e = .returned (.int .i64 p) ∧ (p = a ∨ p = b ∨ p = c) ∧ y ≤ x + 3 ∧ At [blkU g d r, intC s x] w [blkU g d r, intC s y] w'
theorem median_any {w : World} {g s cap n x : Nat} {d : Array Int} {r : List Value} (h : Sep [blkU g d r, intC s x] w) (hn : d.size = n) {a b c : Nat} (ha : a < d.size) (hb : b < d.size) (hc : c < d.size) (hx : x < 900) (hsz : d.size < 4611686018427387904) :
 Calls Tryz.prog 216 #[.slice (some ⟨g, 0, none⟩) n cap, .int .i64 a, .int .i64 b, .int .i64 c, .pointer (some ⟨s, 0, none⟩)] w (MedPost w g s d r x a b c) := by
 have hA := At.start h
 have hF := hA.facts
 clear h
 go_enter Tryz.func216, Tryz.ntmps216
 go_wp2_with fail
 refine (order2_any (hA.seps (by with_reducible repeat (first | exact Picks.nil | refine Picks.cons sR ?_))) hn ha hb (by omega) hsz).mono ?_
 rintro e w1 ⟨p1, q1, y1, rfl, h1, hy1, hT⟩
 have hB := hA.call2 sR sR hT
 clear hF hA hT; have hA := hB; clear hB
 simp only [uA] at hA
 go_wp2_with fail
 refine (order2_any (hA.seps (by with_reducible repeat (first | exact Picks.nil | refine Picks.cons sR ?_))) hn (a := q1) (b := c) (by omega) hc (by omega) hsz).mono ?_
 rintro e w1 ⟨p2, q2, y2, rfl, h2, hy2, hT⟩
 have hB := hA.call2 sR sR hT
 clear hA hT; have hA := hB; clear hB
 simp only [uA] at hA
 go_wp2_with fail
 refine (order2_any (hA.seps (by with_reducible repeat (first | exact Picks.nil | refine Picks.cons sR ?_))) hn (a := p1) (b := p2) (by omega) (by omega) (by omega) hsz).mono ?_
 rintro e w1 ⟨p3, q3, y3, rfl, h3, hy3, hT⟩
 have hB := hA.call2 sR sR hT
 clear hA hT; have hA := hB; clear hB
 simp only [uA] at hA
 go_wp2_with fail
 go_ret
 exact ⟨q3, y3, rfl, by omega, by omega, hA⟩
theorem medianAdj_any {w : World} {g s cap n x : Nat} {d : Array Int} {r : List Value} (h : Sep [blkU g d r, intC s x] w) (hn : d.size = n) {a : Nat} (ha : 0 < a) (ha2 : a + 1 < d.size) (hx : x < 900) (hsz : d.size < 4611686018427387904) :
 Calls Tryz.prog 215 #[.slice (some ⟨g, 0, none⟩) n cap, .int .i64 a, .pointer (some ⟨s, 0, none⟩)] w (MedPost w g s d r x (a - 1) a (a + 1)) := by
 have hA := At.start h
 have hF := hA.facts
 clear h
 obtain ⟨m, rfl⟩ : ∃ m, a = m + 1 := ⟨a - 1, by omega⟩
 go_enter Tryz.func215, Tryz.ntmps215
 go_wp2_with fail
 refine (median_any (hA.seps (by with_reducible repeat (first | exact Picks.nil | refine Picks.cons sR ?_))) hn (a := m) (b := m + 1) (c := m + 2) (by omega) (by omega) (by omega) hx hsz).mono ?_
 rintro e w1 ⟨p, y, rfl, h1, hy, hT⟩
 have hB := hA.call2 sR sR hT
 clear hF hA hT; have hA := hB; clear hB
 simp only [uA] at hA
 go_wp2_with fail
 go_ret
 exact ⟨p, y, rfl, by omega, hy, hA⟩
def PivPost (w : World) (g : Nat) (d : Array Int) (r : List Value) (a b : Nat) (e : Ending) (w' : World) : Prop :=
 ∃ (p : Nat) (hv : Int), e = .returned (.tuple #[.int .i64 p, .int .i64 hv]) ∧ a ≤ p ∧ p < b ∧ At [blkU g d r] w [blkU g d r] w'
theorem pivot_any {w : World} {g cap n : Nat} {d : Array Int} {r : List Value} (h : Sep [blkU g d r] w) (hn : d.size = n) {a b : Nat} (hab : a + 12 < b) (hb : b ≤ d.size) (hsz : d.size < 4611686018427387904) :
 Calls Tryz.prog 197 #[.slice (some ⟨g, 0, none⟩) n cap, .int .i64 a, .int .i64 b] w (PivPost w g d r a b) := by
 have hA := At.start h
 have hF := hA.facts
 clear h
 obtain ⟨l, hl⟩ : ∃ l, b - a = l := ⟨_, rfl⟩
 have el : (b : Int) - (a : Int) = (l : Int) := by omega
 obtain ⟨q, hq⟩ : ∃ q, l / 4 = q := ⟨_, rfl⟩
 have eq : (l : Int) / 4 = (q : Int) := by omega
 obtain ⟨i, hi⟩ : ∃ i, a + q = i := ⟨_, rfl⟩
 have ei : (a : Int) + (q : Int) = (i : Int) := by omega
 obtain ⟨j, hj⟩ : ∃ j, a + q * 2 = j := ⟨_, rfl⟩
 have ej : (a : Int) + (q : Int) * 2 = (j : Int) := by omega
 obtain ⟨k, hk⟩ : ∃ k, a + q * 3 = k := ⟨_, rfl⟩
 have ek : (a : Int) + (q : Int) * 3 = (k : Int) := by omega
 have h8 : (8 : Int) ≤ (l : Int) := by omega
 have hr1 : a < i ∧ i + 1 < b ∧ a < j ∧ j + 1 < b ∧ a < k ∧ k < b := by omega
 have hr2 : 50 ≤ l → a + 1 < i ∧ i + 1 < b ∧ a + 1 < j ∧ j + 1 < b ∧ a + 1 < k ∧ k + 1 < b := by omega
 have hr1' := Lib.hid hr1
 have hr2' := Lib.hid hr2
 clear hr1 hr2 hl hq hi hj hk
 by_cases h50 : 50 ≤ l
 · have h50' : (50 : Int) ≤ (l : Int) := by omega
   have hr := hr2'.out h50
   go_enter Tryz.func197, Tryz.ntmps197
   go_wp2_with ((with_reducible refine gal ?_); refine wA 3 (.int .i64 0) [.int .i64 0] hA ?_; clear hF hA; intro bS w1 hA hbS; have hF := hA.facts; (try simp only [uY] at hA hF))
   refine (medianAdj_any (x := 0) (hA.seps pZ) hn (a := i) (by omega) (by omega) (by omega) hsz).mono ?_
   rintro e w1 ⟨p1, y1, rfl, g1, hy1, hT⟩
   have hB := hA.call2 sZ sZ hT
   clear hF hA hT; have hA := hB; clear hB
   simp only [uA] at hA
   go_wp2_with fail
   refine (medianAdj_any (x := y1) (hA.seps pZ) hn (a := j) (by omega) (by omega) (by omega) hsz).mono ?_
   rintro e w1 ⟨p2, y2, rfl, g2, hy2, hT⟩
   have hB := hA.call2 sZ sZ hT
   clear hA hT; have hA := hB; clear hB
   simp only [uA] at hA
   go_wp2_with fail
   refine (medianAdj_any (x := y2) (hA.seps pZ) hn (a := k) (by omega) (by omega) (by omega) hsz).mono ?_
   rintro e w1 ⟨p3, y3, rfl, g3, hy3, hT⟩
   have hB := hA.call2 sZ sZ hT
   clear hA hT; have hA := hB; clear hB
   simp only [uA] at hA
   go_wp2_with fail
   refine (median_any (x := y3) (hA.seps pZ) hn (a := p1) (b := p2) (c := p3) (by omega) (by omega) (by omega) (by omega) hsz).mono ?_
   rintro e w1 ⟨p4, y4, rfl, g4, hy4, hT⟩
   have hB := hA.call2 sZ sZ hT
   clear hA hT; have hA := hB; clear hB
   simp only [uA] at hA
   have hpr : a ≤ p4 ∧ p4 < b := by omega
   have hF := hA.facts; (try simp only [uY] at hA hF)
   by_cases h0 : (y4 : Int) = 0
   · rw [h0] at hF
     go_wp2_with fail
     refine bodyPost_ret (v := .tuple #[.int .i64 p4, .int .i64 1]) (by simp [results, Tryz.results197, go_sem, hF]) rfl ?_
     exact ⟨p4, 1, rfl, hpr.1, hpr.2, hA.pick (by with_reducible repeat (first | exact Picks.nil | refine Picks.cons sR ?_))⟩
   · by_cases h12 : (y4 : Int) = 12
     · rw [h12] at hF
       go_wp2_with fail
       refine bodyPost_ret (v := .tuple #[.int .i64 p4, .int .i64 2]) (by simp [results, Tryz.results197, go_sem, hF]) rfl ?_
       exact ⟨p4, 2, rfl, hpr.1, hpr.2, hA.pick (by with_reducible repeat (first | exact Picks.nil | refine Picks.cons sR ?_))⟩
     · go_wp2_with fail
       refine bodyPost_ret (v := .tuple #[.int .i64 p4, .int .i64 0]) (by simp [results, Tryz.results197, go_sem, hF]) rfl ?_
       exact ⟨p4, 0, rfl, hpr.1, hpr.2, hA.pick (by with_reducible repeat (first | exact Picks.nil | refine Picks.cons sR ?_))⟩
 · have h50' : (l : Int) < 50 := by omega
   have hr := hr1'.out
   go_enter Tryz.func197, Tryz.ntmps197
   go_wp2_with ((with_reducible refine gal ?_); refine wA 3 (.int .i64 0) [.int .i64 0] hA ?_; clear hF hA; intro bS w1 hA hbS; have hF := hA.facts; (try simp only [uY] at hA hF))
   refine (median_any (x := 0) (hA.seps pZ) hn (a := i) (b := j) (c := k) (by omega) (by omega) (by omega) (by omega) hsz).mono ?_
   rintro e w1 ⟨p4, y4, rfl, g4, hy4, hT⟩
   have hB := hA.call2 sZ sZ hT
   clear hF hA hT; have hA := hB; clear hB
   simp only [uA] at hA
   have hpr : a ≤ p4 ∧ p4 < b := by omega
   have hF := hA.facts; (try simp only [uY] at hA hF)
   by_cases h0 : (y4 : Int) = 0
   · rw [h0] at hF
     go_wp2_with fail
     refine bodyPost_ret (v := .tuple #[.int .i64 p4, .int .i64 1]) (by simp [results, Tryz.results197, go_sem, hF]) rfl ?_
     exact ⟨p4, 1, rfl, hpr.1, hpr.2, hA.pick (by with_reducible repeat (first | exact Picks.nil | refine Picks.cons sR ?_))⟩
   · have h12 : ¬ (y4 : Int) = 12 := by omega
     go_wp2_with fail
     refine bodyPost_ret (v := .tuple #[.int .i64 p4, .int .i64 0]) (by simp [results, Tryz.results197, go_sem, hF]) rfl ?_
     exact ⟨p4, 0, rfl, hpr.1, hpr.2, hA.pick (by with_reducible repeat (first | exact Picks.nil | refine Picks.cons sR ?_))⟩
abbrev rndC (b : Nat) (x : Int) : Part := .cells b [.int .u64 x] 193
theorem xor_nat (x y : Nat) (hx : x < 18446744073709551616) (hy : y < 18446744073709551616) : ∃ z : Nat, bits .xor .u64 (x : Int) (y : Int) = (z : Int) ∧ z < 18446744073709551616 :=
 ⟨_, bits_xor_u64_nat x y hx hy, Nat.xor_lt_two_pow (n := 64) (by omega) (by omega)⟩
theorem rnd_step {L0 F : List Part} {w W : World} {b y : Nat} (z : Nat) (h : At L0 w (rndC b y :: F) W) : At L0 w (rndC b z :: F) (W.setCell ⟨b, 0, none⟩ (.int .u64 z)) := h.store .here 0 (.int .u64 z)
theorem rnd_cell {L0 F : List Part} {w W : World} {b y : Nat} (h : At L0 w (rndC b y :: F) W) : W.cell? ⟨b, 0, none⟩ = some (.int .u64 y) ∧ W.frozen? ⟨b, 0, none⟩ = false :=
 ⟨(h.get (A := rndC b y) .here : BlockIs W b [.int .u64 y] 193).cell 0, (h.get (A := rndC b y) .here : BlockIs W b [.int .u64 y] 193).free 0⟩
def NextPost (w : World) (b : Nat) (x : Nat) (e : Ending) (w' : World) : Prop := ∃ y : Nat, e = .returned (.int .u64 y) ∧ y < 18446744073709551616 ∧ At [rndC b x] w [rndC b y] w'
theorem next_any {w : World} {b x : Nat} (h : Sep [rndC b x] w) (hx : x < 18446744073709551616) : Calls Tryz.prog 124 #[.pointer (some ⟨b, 0, none⟩)] w (NextPost w b x) := by
 obtain ⟨A, e1, lA⟩ := xor_nat x (x * 8192 % 18446744073709551616) hx (by omega)
 obtain ⟨B, e2, lB⟩ := xor_nat A (A / 128) lA (by omega)
 obtain ⟨C, e3, lC⟩ := xor_nat B (B * 131072 % 18446744073709551616) lB (by omega)
 have e1' : bits .xor .u64 (x : Int) (IntKind.u64.wrap ((x : Int) * 8192)) = (A : Int) := by rw [IntKind.wrap_u64, ← e1]; congr 1
 have e2' : bits .xor .u64 (A : Int) ((A : Int) / 128) = (B : Int) := by rw [← e2]; congr 1
 have e3' : bits .xor .u64 (B : Int) (IntKind.u64.wrap ((B : Int) * 131072)) = (C : Int) := by rw [IntKind.wrap_u64, ← e3]; congr 1
 clear e1 e2 e3
 have hA := At.start h
 clear h
 obtain ⟨k1, f1⟩ := rnd_cell hA
 go_enter Tryz.func124, Tryz.ntmps124
 go_wp2_with fail
 go_region
 have hB := (rnd_step A hA).drew
 clear hA k1 f1; have hA := hB; clear hB
 generalize World.drew (World.setCell _ _ _) = wz at *
 obtain ⟨k1, f1⟩ := rnd_cell hA
 go_wp2_with fail
 go_region
 have hB := (rnd_step B hA).drew
 clear hA k1 f1; have hA := hB; clear hB
 generalize World.drew (World.setCell _ _ _) = wz at *
 obtain ⟨k1, f1⟩ := rnd_cell hA
 go_wp2_with fail
 go_region
 have hB := (rnd_step C hA).drew
 clear hA k1 f1; have hA := hB; clear hB
 generalize World.drew (World.setCell _ _ _) = wz at *
 obtain ⟨k1, f1⟩ := rnd_cell hA
 go_wp2_with fail
 go_ret
 exact ⟨C, rfl, lC, hA⟩
theorem bitLen_le (x : Nat) (h : x < 2 ^ 64) : 2 ^ Lib.bitLen x ≤ 2 * x + 1 ∧ (x < 4611686018427387904 → Lib.bitLen x ≤ 62) := by
 have key : ∀ n x, x < n → x < 2 ^ 64 → 2 ^ Lib.bitLen x ≤ 2 * x + 1 ∧ (0 < x → 2 ^ Lib.bitLen x ≤ 2 * x) := by
  intro n
  induction n with
  | zero => intro x h; omega
  | succ n ih =>
   intro x h1 h2
   by_cases h0 : x = 0
   · subst h0; exact ⟨by decide, by omega⟩
   · have := ih (x / 2) (by omega) (by omega)
     have e : 2 ^ Lib.bitLen x = 2 * 2 ^ Lib.bitLen (x / 2) := by rw [Lib.bitLen_half x h0 h2, Nat.pow_add]
     by_cases h3 : x / 2 = 0
     · rw [h3] at e
       have e0 : 2 ^ Lib.bitLen 0 = 1 := by decide
       rw [e0] at e
       omega
     · have := this.2 (by omega)
       omega
 have k1 := (key (x + 1) x (by omega) h).1
 refine ⟨k1, fun h2 => ?_⟩
 rcases Nat.lt_or_ge 62 (Lib.bitLen x) with q | q
 · have h3 : 2 ^ 63 ≤ 2 ^ Lib.bitLen x := Nat.pow_le_pow_right (by decide) q
   have k2 := (key (x + 1) x (by omega) h).2
   rcases Nat.eq_zero_or_pos x with h0 | h0
   · subst h0; simp at k1; omega
   · have := k2 h0; omega
 · exact q
theorem wrap_pow (k : Nat) (hk : k ≤ 62) : IntKind.u64.wrap ((2 : Int) ^ k) = ((2 ^ k : Nat) : Int) := by
 have h : (2 : Nat) ^ k ≤ 2 ^ 62 := Nat.pow_le_pow_right (by decide) hk
 rw [IntKind.wrap_u64, show ((2 : Int) ^ k) = ((2 ^ k : Nat) : Int) by push_cast; rfl]
 generalize (2 : Nat) ^ k = p at h
 omega
theorem npow_any (n : Nat) (hn : n < 4611686018427387904) (w : World) : Calls Tryz.prog 123 #[.int .i64 n] w fun e w' => e = .returned (.int .u64 ((2 ^ Lib.bitLen n : Nat) : Int)) ∧ w' = w := by
 have hLen : ∀ w, Calls Tryz.prog 59 #[.int .u64 (n : Int)] w fun e w' => e = .returned (.int .i64 (Lib.bitLen n : Nat)) ∧ w' = w := fun w => by
  have h := Tryz.bits_Len (n : Int) w (by omega) (by omega)
  rwa [Int.toNat_natCast] at h
 have hk := (bitLen_le n (by omega)).2 hn
 have hp : IntKind.u64.wrap ((2 : Int) ^ min (Lib.bitLen n) 64) = ((2 ^ Lib.bitLen n : Nat) : Int) := by rw [Nat.min_eq_left (by omega)]; exact wrap_pow (Lib.bitLen n) hk
 go_enter Tryz.func123, Tryz.ntmps123
 go_wp2_with (go_at_call 59; refine (hLen _).mono ?_; rintro e w' ⟨rfl, rfl⟩)
 go_ret
 exact ⟨congrArg (fun x => Ending.returned (.int .u64 x)) (wrap_pow (Lib.bitLen n) hk), rfl⟩
def BrkPost (w : World) (g : Nat) (d : Array Int) (r : List Value) (a b : Nat) (e : Ending) (w' : World) : Prop := ∃ d', e = .returned (.tuple #[]) ∧ PermIn a b d d' ∧ At [blkU g d r] w [blkU g d' r] w'
def BrkRel (w : World) (g : Nat) (d : Array Int) (r : List Value) (a b t bR : Nat) (k : Nat) (u : Value) (wr : World) : Prop :=
 ∃ (i y : Nat) (dk : Array Int), u = .int .i64 i ∧ t ≤ i + 1 ∧ i + k = t + 2 ∧ y < 18446744073709551616 ∧ PermIn a b d dk ∧ At [blkU g d r] w [rndC bR y, blkU g dk r] wr
theorem break_any {w : World} {g cap n : Nat} {d : Array Int} {r : List Value} (h : Sep [blkU g d r] w) (hn : d.size = n) {a b : Nat} (hab : a + 12 < b) (hb : b ≤ d.size) (hsz : d.size < 4611686018427387904) :
 Calls Tryz.prog 196 #[.slice (some ⟨g, 0, none⟩) n cap, .int .i64 a, .int .i64 b] w (BrkPost w g d r a b) := by
 have hA := At.start h
 have hF := hA.facts
 clear h
 obtain ⟨l, hl⟩ : ∃ l, b - a = l := ⟨_, rfl⟩
 have el : (b : Int) - (a : Int) = (l : Int) := by omega
 obtain ⟨q, hq⟩ : ∃ q, l / 4 = q := ⟨_, rfl⟩
 have eq : (l : Int) / 4 = (q : Int) := by omega
 obtain ⟨t, ht⟩ : ∃ t, a + q * 2 = t := ⟨_, rfl⟩
 have et : (a : Int) + (q : Int) * 2 = (t : Int) := by omega
 have h8 : (8 : Int) ≤ (l : Int) := by omega
 obtain ⟨M, hM⟩ : ∃ M, 2 ^ Lib.bitLen l = M := ⟨_, rfl⟩
 have hM2 : M ≤ 2 * l + 1 ∧ 1 ≤ M := by rw [← hM]; exact ⟨(bitLen_le l (by omega)).1, Nat.one_le_two_pow⟩
 have hlw : IntKind.u64.wrap (l : Int) = (l : Int) := by rw [IntKind.wrap_u64]; omega
 have hM1 : M ≤ 2 * l := by
  have h2 : 2 ^ Lib.bitLen l = 2 * 2 ^ Lib.bitLen (l / 2) := by rw [Lib.bitLen_half l (by omega) (by omega), Nat.pow_add]
  omega
 have hM' := Lib.hid hM
 have hr := Lib.hid (show a + 2 ≤ t ∧ t + 2 ≤ b ∧ l = b - a by omega)
 clear hM hl hq ht
 go_enter Tryz.func196, Tryz.ntmps196
 go_wp2_with (first | ((with_reducible refine gal ?_); refine wA 193 (.int .u64 0) [.int .u64 0] hA ?_; clear hF hA; intro bR w1 hA hbR; have hF := hA.facts; (try simp only [uY] at hA hF)) | ((with_reducible refine gst ?_); refine wT hA ?_; clear hF hA; intro w1 hA hF; (try simp only [uY] at hA hF)))
 refine (npow_any l (by omega) _).mono ?_
 rintro e _ ⟨rfl, rfl⟩
 rw [hM'.out]
 go_wp2_with fail
 go_loopg [9] 3 (BrkRel w g d r a b t bR)
 case atStart => exact ⟨t - 1, l, d, by have := hr.out; congr 1; omega, by omega, by have := hr.out; omega, by omega, Sort.permIn_refl d a b, hA⟩
 case round =>
  obtain ⟨i, y, dk, rfl, hi1, hik, hy, hp, hB⟩ := hrel
  have hp' := Lib.hid hp
  have hdk : dk.size = d.size := hp.1
  clear hF hA hp; have hA := hB; clear hB
  have hF := hA.facts; (try simp only [uY] at hA hF)
  rcases Nat.eq_zero_or_pos gk with h0 | hpos
  · subst h0
    go_wp2_with fail
    go_end0
    exact ⟨dk, rfl, hp'.out, hA.pick (by with_reducible repeat (first | exact Picks.nil | refine Picks.cons sR ?_))⟩
  · have hle : (i : Int) ≤ (t : Int) + 1 := by omega
    go_wp2_with fail
    refine (next_any (hA.sep1 .here) hy).mono ?_
    rintro e w1 ⟨z, rfl, hz, hT⟩
    have hB := hA.call1 .here hT
    clear hF hA hT; have hA := hB; clear hB
    simp only [uA] at hA
    have hF := hA.facts; (try simp only [uY] at hA hF)
    obtain ⟨O, hO⟩ : ∃ O : Nat, O = z &&& (M - 1) := ⟨_, rfl⟩
    have lO : O ≤ M - 1 := by rw [hO]; exact Nat.and_le_right
    have eAnd : bits .and .u64 (z : Int) ((M : Int) - 1) = (O : Int) := by
     rw [show ((M : Int) - 1) = ((M - 1 : Nat) : Int) by omega, bits_and_u64_nat _ _ hz (by omega), hO]
    clear hO
    by_cases hge : (l : Int) ≤ (O : Int)
    · obtain ⟨p, hpp⟩ : ∃ p, a + (O - l) = p := ⟨_, rfl⟩
      have ep : (a : Int) + ((O : Int) - (l : Int)) = (p : Int) := by omega
      have hpb := Lib.hid (show a ≤ p ∧ p < b by have := hr.out; omega)
      clear hpp
      by_cases hip : i = p
      · subst hip
        go_wp2_with fail
        have hA := hA.pick (K := [blkU g dk r, rndC bR z]) (by with_reducible repeat (first | exact Picks.nil | refine Picks.cons sR ?_))
        have hbb := hpb.out
        (try clear hF); (have k1 := at_cell hA .here (i := i) (by omega)); (have k2 := at_cell hA .here (i := i) (by omega)); (have f1 := at_free hA .here (i)); (have f2 := at_free hA .here (i)); go_region; (have hB := (at_swp hA .here (i := i) (j := i) (by omega) (by omega)).drew); (clear k1 k2 f1 f2 hA); (have hA := hB); (clear hB); (generalize World.drew (World.setCell _ _ _) = wz at *)
        go_wp2_with fail
        go_roundg (gk - 1)
        case measure => omega
        case rel => exact ⟨i + 1, z, swp dk i i, by simp, by omega, by omega, hz, Sort.permIn_trans _ _ _ a b hp'.out (Sort.swp_permIn dk a b i i hbb.1 hbb.2 hbb.1 hbb.2 (by omega)), hA.pick (by with_reducible repeat (first | exact Picks.nil | refine Picks.cons sR ?_))⟩
      · go_wp2_with fail
        have hA := hA.pick (K := [blkU g dk r, rndC bR z]) (by with_reducible repeat (first | exact Picks.nil | refine Picks.cons sR ?_))
        have hbb := hpb.out
        have hr1 := hr.out.1
        have hr2 := hr.out.2.1
        (try clear hF); (have k1 := at_cell hA .here (i := i) (by omega)); (have k2 := at_cell hA .here (i := p) (by omega)); (have f1 := at_free hA .here (i)); (have f2 := at_free hA .here (p)); go_region; (have hB := (at_swp hA .here (i := i) (j := p) (by omega) (by omega)).drew); (clear k1 k2 f1 f2 hA); (have hA := hB); (clear hB); (generalize World.drew (World.setCell _ _ _) = wz at *)
        go_wp2_with fail
        go_roundg (gk - 1)
        case measure => omega
        case rel => exact ⟨i + 1, z, swp dk i p, by simp, by omega, by omega, hz, Sort.permIn_trans _ _ _ a b hp'.out (Sort.swp_permIn dk a b i p (by omega) (by omega) hbb.1 hbb.2 (by omega)), hA.pick (by with_reducible repeat (first | exact Picks.nil | refine Picks.cons sR ?_))⟩
    · obtain ⟨p, hpp⟩ : ∃ p, a + O = p := ⟨_, rfl⟩
      have ep : (a : Int) + (O : Int) = (p : Int) := by omega
      have hpb := Lib.hid (show a ≤ p ∧ p < b by have := hr.out; omega)
      clear hpp
      by_cases hip : i = p
      · subst hip
        go_wp2_with fail
        have hA := hA.pick (K := [blkU g dk r, rndC bR z]) (by with_reducible repeat (first | exact Picks.nil | refine Picks.cons sR ?_))
        have hbb := hpb.out
        (try clear hF); (have k1 := at_cell hA .here (i := i) (by omega)); (have k2 := at_cell hA .here (i := i) (by omega)); (have f1 := at_free hA .here (i)); (have f2 := at_free hA .here (i)); go_region; (have hB := (at_swp hA .here (i := i) (j := i) (by omega) (by omega)).drew); (clear k1 k2 f1 f2 hA); (have hA := hB); (clear hB); (generalize World.drew (World.setCell _ _ _) = wz at *)
        go_wp2_with fail
        go_roundg (gk - 1)
        case measure => omega
        case rel => exact ⟨i + 1, z, swp dk i i, by simp, by omega, by omega, hz, Sort.permIn_trans _ _ _ a b hp'.out (Sort.swp_permIn dk a b i i hbb.1 hbb.2 hbb.1 hbb.2 (by omega)), hA.pick (by with_reducible repeat (first | exact Picks.nil | refine Picks.cons sR ?_))⟩
      · go_wp2_with fail
        have hA := hA.pick (K := [blkU g dk r, rndC bR z]) (by with_reducible repeat (first | exact Picks.nil | refine Picks.cons sR ?_))
        have hbb := hpb.out
        have hr1 := hr.out.1
        have hr2 := hr.out.2.1
        (try clear hF); (have k1 := at_cell hA .here (i := i) (by omega)); (have k2 := at_cell hA .here (i := p) (by omega)); (have f1 := at_free hA .here (i)); (have f2 := at_free hA .here (p)); go_region; (have hB := (at_swp hA .here (i := i) (j := p) (by omega) (by omega)).drew); (clear k1 k2 f1 f2 hA); (have hA := hB); (clear hB); (generalize World.drew (World.setCell _ _ _) = wz at *)
        go_wp2_with fail
        go_roundg (gk - 1)
        case measure => omega
        case rel => exact ⟨i + 1, z, swp dk i p, by simp, by omega, by omega, hz, Sort.permIn_trans _ _ _ a b hp'.out (Sort.swp_permIn dk a b i p (by omega) (by omega) hbb.1 hbb.2 (by omega)), hA.pick (by with_reducible repeat (first | exact Picks.nil | refine Picks.cons sR ?_))⟩
end Go.Proofs.YtpebabaigakagaaGreatDoor.SortU
end
