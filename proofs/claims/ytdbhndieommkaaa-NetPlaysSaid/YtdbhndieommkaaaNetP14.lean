/- The walk of the law NetPlays: its loops. -/
import Derived.Test.YtdbhndieommkaaaNetP13
import Derived.Test.YtdbhndieommkaaaCrewM2
namespace Go.Proofs.Ytdbhndieommkaaa.NetW
open Go.RowKit
open CrewW (hasB)

def noOp : OpR := ⟨0, 0, 0, 0, 0, .slice none 0 0, []⟩

theorem shr_has (up r : Int) (h0 : 0 ≤ up) (h1 : up < 256) (hr0 : 0 ≤ r) (hr1 : r ≤ 6) : (bits .and .u8 (up / 2 ^ r.toNat) 1 == 1) = hasB up r := by
  obtain ⟨k, rfl⟩ := Int.eq_ofNat_of_zero_le hr0
  rw [CrewW.has_eq up h0 h1 k (by omega), Int.toNat_natCast, CrewW.tb]
  have hp : (0 : Int) < 2 ^ k := by
    have := pw_bd k (by omega)
    omega
  have hq0 : 0 ≤ up / 2 ^ k := Int.ediv_nonneg h0 (by omega)
  have hq1 : up / 2 ^ k ≤ up := Int.ediv_le_self _ h0
  generalize up / 2 ^ k = x at *
  rw [u8_and x 1 hq0 (by omega) (by omega) (by omega)]
  obtain ⟨n, rfl⟩ := Int.eq_ofNat_of_zero_le hq0
  rw [Int.toNat_natCast, show (1 : Int).toNat = 1 from rfl, Nat.and_one_is_mod]
  rfl
def fndB (up : Int) (fs : List Fr) (k : Nat) : Bool := (fs.take k).any (Fr.among up)
def atN (up : Int) (fs : List Fr) (k : Nat) : Int := if fndB up fs k then (fs.findIdx (Fr.among up) : Nat) else 0
theorem fnd_zero (up : Int) (fs : List Fr) : fndB up fs 0 = false ∧ atN up fs 0 = 0 := ⟨rfl, rfl⟩
theorem fnd_snoc (up : Int) (fs : List Fr) (k : Nat) (h : k < fs.length) : fndB up fs (k + 1) = (fndB up fs k || (fs.getD k noFr).among up) := by
  unfold fndB
  rw [getFr fs k h, List.take_succ_eq_append_getElem h, List.any_append]
  simp
theorem at_found (up : Int) (fs : List Fr) (k : Nat) (h : k < fs.length) (hf : fndB up fs k = true) : atN up fs (k + 1) = atN up fs k := by
  unfold atN
  rw [fnd_snoc up fs k h, hf]; rfl
theorem at_new (up : Int) (fs : List Fr) (k : Nat) (h : k < fs.length) (hf : fndB up fs k = false) (hx : (fs.getD k noFr).among up = true) : atN up fs (k + 1) = (k : Int) := by
  have e : fs.findIdx (Fr.among up) = k := by
    rw [getFr fs k h] at hx
    rw [List.findIdx_eq h]
    refine ⟨hx, fun j hj => ?_⟩
    have := List.any_eq_false.1 hf fs[j] (by rw [List.mem_take_iff_getElem]; exact ⟨j, by omega, rfl⟩)
    simpa using this
  unfold atN
  rw [fnd_snoc up fs k h, hf, hx, e]; rfl
theorem at_not (up : Int) (fs : List Fr) (k : Nat) (h : k < fs.length) (hf : fndB up fs k = false) (hx : (fs.getD k noFr).among up = false) : atN up fs (k + 1) = atN up fs k := by
  unfold atN
  rw [fnd_snoc up fs k h, hf, hx]; rfl
theorem at_end (up : Int) (fs : List Fr) : max (idxF up fs) 0 = atN up fs fs.length ∧ decide (0 ≤ idxF up fs) = fndB up fs fs.length := by
  unfold atN fndB idxF
  rw [List.take_length]
  cases fs.any (Fr.among up)
  · exact ⟨rfl, rfl⟩
  · simp

/-- what is told of the frame at t, and the document's frame there, lie alike -/
theorem pair_at {B : Nat} {w3 w4 : World} {p : Nat} {limit : Int} {fs rs gs : List Fr} {lv : Value} {la ga : Option Addr} {lc gc m : Nat} (hst : St B w3 p limit fs rs lv (.slice la m lc)) (ht : Told w3 w4 (.slice ga m gc) fs gs) (he : Ext w3 w4) (hm : fs.length = m) (X : World) (hX : Ext w4 X) (t : Nat) (htm : t < m) :
    ∃ gb rb ag cg ar cr data, ga = some ⟨gb, 0, none⟩ ∧ la = some ⟨rb, 0, none⟩ ∧
      (X.cell? ⟨gb, t * 3, none⟩ = some (.int .i64 (fs.getD t noFr).fro) ∧ X.cell? ⟨gb, t * 3 + 1, none⟩ = some (.int .i64 (fs.getD t noFr).too) ∧ X.cell? ⟨gb, t * 3 + 2, none⟩ = some (.slice ag data.length cg)) ∧
      (X.cell? ⟨rb, t * 3, none⟩ = some (.int .i64 (fs.getD t noFr).fro) ∧ X.cell? ⟨rb, t * 3 + 1, none⟩ = some (.int .i64 (fs.getD t noFr).too) ∧ X.cell? ⟨rb, t * 3 + 2, none⟩ = some (.slice ar data.length cr)) ∧
      BytesAt X (.slice ag data.length cg) data ∧ BytesAt X (.slice ar data.length cr) data ∧ data.length ≤ 512 ∧ 0 ≤ (fs.getD t noFr).fro ∧ (fs.getD t noFr).fro ≤ 6 ∧ 0 ≤ (fs.getD t noFr).too ∧ (fs.getD t noFr).too ≤ 6 := by
  have hf : t < fs.length := by omega
  have hr : t < rs.length := by have := hst.len; omega
  have hgl : gs.length = fs.length := by simpa using congrArg List.length ht.key
  have hg : t < gs.length := by omega
  rw [getFr fs t hf]
  obtain ⟨k0, k1, k2⟩ := hst.at t hf hr
  have hk : gs[t].fro = fs[t].fro ∧ gs[t].too = fs[t].too ∧ gs[t].data = fs[t].data := by
    have e : (gs.map Fr.key)[t]'(by simpa using hg) = (fs.map Fr.key)[t]'(by simpa using hf) := by simp only [ht.key]
    simp only [List.getElem_map, Fr.key, Prod.mk.injEq] at e
    exact e
  have hrow1 := ht.row
  rw [hm] at hrow1
  obtain ⟨ga0, gc0, eg, _, _⟩ := hrow1.form (by omega)
  cases eg
  have hrow0 := hst.row
  rw [show rs.length = m by have := hst.len; omega] at hrow0
  obtain ⟨la0, lc0, el, _, _⟩ := hrow0.form (by omega)
  cases el
  have hgr := own_ext ht.row hX
  rw [hm] at hgr
  have hrr := own_ext hst.row (he.trans hX)
  have hrl : rs.length = m := by have := hst.len; omega
  rw [hrl] at hrr
  have c1 := row_at3 hgr t hg
  have c2 := row_at3 hrr t hr
  have b1 := ((ht.data _ (List.getElem_mem hg)).ext hX).at
  have b2 := ((hst.data _ (List.getElem_mem hr)).ext (he.trans hX)).at
  obtain ⟨ag, cg, ed, _⟩ := id b1
  obtain ⟨ar, cr, er, _⟩ := id b2
  obtain ⟨o1, o2, o3⟩ := hst.ok _ (List.getElem_mem hf)
  simp only [repB, Bool.and_eq_true, decide_eq_true_eq] at o1 o2
  rw [ed, hk.1, hk.2.1, hk.2.2] at c1
  rw [er, k0, k1, k2] at c2
  rw [ed, hk.2.2] at b1
  rw [er, k2] at b2
  exact ⟨_, _, ag, cg, ar, cr, fs[t].data, rfl, rfl, c1, c2, b1, b2, o3, by omega, by omega, by omega, by omega⟩

set_option maxRecDepth 100000 in
set_option maxHeartbeats 4000000 in
theorem plays_run (limit up : Int) (v : Value) (os : List OpR) (w : World) (hv : OpsAt w v os) (h0 : 1 ≤ limit) (h1 : limit ≤ 4096) (hn60 : os.length ≤ 60) (hu0 : 0 ≤ up) (hu1 : up < 256) :
    Calls Try.prog 7 #[.int .i64 limit, v, .int .u8 up] w fun e w' => e = .returned (.bool true) ∧ Ext w w' := by
  obtain ⟨a, cap, rfl, hops⟩ := hv
  have HOP : Hid (∀ X, Ext w X → ∀ j, j < os.length → ∃ b off, a = some ⟨b, off, none⟩ ∧
    (X.cell? ⟨b, off + j * 6, none⟩ = some (.int .i64 (os.getD j noOp).kind) ∧ X.cell? ⟨b, off + j * 6 + 1, none⟩ = some (.int .i64 (os.getD j noOp).i) ∧ X.cell? ⟨b, off + j * 6 + 2, none⟩ = some (.int .i64 (os.getD j noOp).bit) ∧
      X.cell? ⟨b, off + j * 6 + 3, none⟩ = some (.int .i64 (os.getD j noOp).fro) ∧ X.cell? ⟨b, off + j * 6 + 4, none⟩ = some (.int .i64 (os.getD j noOp).too) ∧ X.cell? ⟨b, off + j * 6 + 5, none⟩ = some (os.getD j noOp).dv) ∧
    BytesAv (fun k => w.heap.size ≤ k) X (os.getD j noOp).dv (os.getD j noOp).data ∧ (∀ x ∈ (os.getD j noOp).data, 0 ≤ x ∧ x ≤ 255) ∧ (os.getD j noOp).data.length ≤ 9223372036854775807 ∧ (os.getD j noOp).bit ≤ 9223372036854775807) := fun X e j hj => by
    have he : os.getD j noOp = os[j] := by simp [List.getD, List.getElem?_eq_getElem hj]
    rw [he]
    obtain ⟨b, off, ha, ⟨c0, c1, c2, c3, c4, c5⟩, hb, hr⟩ := hops j hj
    refine ⟨b, off, ha, ⟨e.cell_of c0, e.cell_of c1, e.cell_of c2, e.cell_of c3, e.cell_of c4, e.cell_of c5⟩, ?_, hr⟩
    obtain ⟨q, qc, e1, e2, e3⟩ := hb
    refine ⟨q, qc, e1, e2, fun t ht => ?_⟩
    obtain ⟨b', o', e4, e5⟩ := e3 t ht
    exact ⟨b', o', e4, fun hh => by have := cell_lt e5; omega, e.cell_of e5⟩
  clear hops
  generalize os.length = n at *
  go_enter Try.func7, Try.ntmps7
  go_wp2_with fail
  refine (anchor_any _).mono ?_
  rintro e w1 ⟨rfl, e1⟩
  have HE1 : Hid (Ext w w1) := e1
  clear e1
  go_wp2_with fail
  refine (new_ok limit h0 h1 _).mono ?_
  rintro e w2 hp
  obtain ⟨p, rfl, n2, e2, hp2⟩ := hp
  have HST : Hid (St w.heap.size w2 p limit [] [] (.slice none 0 0) (.slice none 0 0)) := ⟨n2, ⟨rfl, .inl ⟨rfl, rfl⟩⟩, nofun, nofun, rfl, nofun, nofun, fun k hk => by
    rcases hk with hk | hk | ⟨f, hf, _⟩
    · have := HE1.out.size; omega
    · exact nomatch hk
    · exact nomatch hf⟩
  have HE2 : Hid (Ext w w2) := HE1.out.trans e2
  clear n2 e2 hp2 HE1
  go_wp2_with fail
  go_loopw [50, 9] (fun i l wr => ∃ k : Nat, k ≤ n ∧ i = .int .i64 k ∧ Hid (Ext w wr ∧ ∃ fs rs lv, St w.heap.size wr p limit fs rs lv l ∧ fs.length ≤ k)) (fun i _ _ => n - (intOf i).toNat)
  case atStart => exact ⟨0, Nat.zero_le _, rfl, HE2.out, [], [], _, HST.out, Nat.le_refl _⟩
  case round =>
    obtain ⟨k, hk, rfl, H⟩ := hrel
    by_cases hlt : k < n
    · obtain ⟨hE, fs, rs, lv, hst, hlen⟩ := H.out
      obtain ⟨ob, oo, rfl, ⟨c0, c1, c2, c3, c4, c5⟩, hb, hr0, hr1, hr2⟩ := HOP.out wr hE k hlt
      generalize os.getD k noOp = o at *
      obtain ⟨da, dc, hdv, _⟩ := id hb
      have HS : Hid (∀ X, Ext wr X → Calls Try.prog 33 #[.pointer (some ⟨p, 0, none⟩), u9, .int .i64 limit, opV o.kind o.i o.bit o.fro o.too o.dv] X (StepPost w.heap.size p limit fs lv X)) := fun X e =>
        step_any (hst.ext e) (by omega) (Nat.le_trans hE.size e.size) o.kind o.i o.bit o.fro o.too o.dv o.data (hb.ext e) hr0 hr1 hr2
      have HLOW : Hid (∀ q, NB p lv fs q → w.heap.size ≤ q) := hst.low
      have HE : Hid (Ext w wr) := hE
      have HK : Hid (fs.length ≤ k) := hlen
      have hrl := hst.len
      obtain ⟨la, lc, rfl⟩ := row_form hst.row
      rw [hrl] at HS ⊢
      unfold opV at HS
      rw [hdv] at c5 HS
      clear H hst hb hr0 hr1 hr2 hdv hE hrl
      generalize o.data.length = dn at *
      have BO : BlockIs (wr.alloc (.cells #[.int .i64 o.kind, .int .i64 o.i, .int .i64 o.bit, .int .i64 o.fro, .int .i64 o.too, .slice da dn dc] 59)) wr.heap.size [.int .i64 o.kind, .int .i64 o.i, .int .i64 o.bit, .int .i64 o.fro, .int .i64 o.too, .slice da dn dc] 59 := BlockIs.alloc wr _ _
      have HE3 : Hid (Ext wr (wr.alloc (.cells #[.int .i64 o.kind, .int .i64 o.i, .int .i64 o.bit, .int .i64 o.fro, .int .i64 o.too, .slice da dn dc] 59))) := (Ext.refl _).alloc _
      go_upto_region 14 with (fail)
      clear c0 c1 c2 c3 c4 c5
      generalize World.alloc wr _ = U at *
      generalize wr.heap.size = b at *
      obtain ⟨x0, x1, x2, x3, x4, x5⟩ := block_six BO
      go_wp2_with fail
      refine (HS.out _ HE3.out).mono ?_
      rintro e w3 hp
      obtain ⟨l2, lv2, fs2, rs2, rfl, hst2, ex2, hlen2⟩ := hp
      have HE4 : Hid (Ext w w3) := (((HE.out.trans HE3.out).exc _).trans ex2).ext (fun q hq h => by have := HLOW.out q h; omega)
      have HK2 : Hid (fs2.length ≤ k + 1) := by have := HK.out; rw [Hid]; omega
      have HL := list_any hst2.net (by have := HK2.out; omega) (fun f hf => by have := (hst2.ok f hf).2.2; omega)
      have HST2 : Hid (St w.heap.size w3 p limit fs2 rs2 lv2 l2) := hst2
      have hrl := hst2.len
      obtain ⟨la2, lc2, rfl⟩ := row_form hst2.row
      rw [hrl]
      rw [hrl] at HST2
      clear HS HLOW HE HK ex2 hlen2 hst2 hrl BO x0 x1 x2 x3 x4 x5 HE3
      go_wp2_with fail
      refine HL.mono ?_
      rintro e w4 hp
      obtain ⟨gv, gs, rfl, htold, e4⟩ := hp
      have HC := count_any (HST2.out.net.ext e4)
      have HT : Hid (Told w3 w4 gv fs2 gs) := htold
      have HE5 : Hid (Ext w3 w4) := e4
      obtain ⟨ga, gc, rfl⟩ := row_form htold.row
      clear htold e4
      have HM : Hid (fs2.length ≤ 1000) := by have := HK2.out; rw [Hid]; omega
      generalize hm : fs2.length = m at *
      have HMM : Hid (fs2.length = m) := hm
      clear hm
      go_wp2_with fail
      refine HC.mono ?_
      rintro e _ ⟨rfl, rfl⟩
      have HP : Hid (∀ X, Ext w4 X → ∀ t, t < m → _) := fun X hX t htm => pair_at HST2.out HT.out HE5.out HMM.out X hX t htm
      have hmax : m ≤ 1000 := HM.out
      go_wp2_with fail
      go_loopw [80, 14, 15] (fun j at_ fo wr2 => ∃ t : Nat, t ≤ m ∧ j = .int .i64 t ∧ at_ = .int .i64 (atN up fs2 t) ∧ fo = .bool (fndB up fs2 t) ∧ Hid (Ext w4 wr2)) (fun j _ _ _ => m - (intOf j).toNat)
      case atStart => exact ⟨0, Nat.zero_le _, rfl, rfl, rfl, Ext.refl _⟩
      case round =>
        obtain ⟨t, htm, rfl, rfl, rfl, H2⟩ := hrel
        by_cases hlt2 : t < m
        · obtain ⟨gb, rb, ag, cg, ar, cr, data, rfl, rfl, ⟨g0, g1, g2⟩, ⟨r0, r1, r2⟩, hb1, hb2, hd512, hf0, hf1, ht0, ht1⟩ := HP.out wr H2.out t hlt2
          have hfx := fnd_snoc up fs2 t (by rw [HMM.out]; exact hlt2)
          have HA1 := at_found up fs2 t (by rw [HMM.out]; exact hlt2)
          have HA2 := at_new up fs2 t (by rw [HMM.out]; exact hlt2)
          have HA3 := at_not up fs2 t (by rw [HMM.out]; exact hlt2)
          have HAM : Hid ((fs2.getD t noFr).among up = (hasB up (fs2.getD t noFr).fro && hasB up (fs2.getD t noFr).too)) := rfl
          generalize fs2.getD t noFr = f at *
          have HFX : Hid (fndB up fs2 (t + 1) = (fndB up fs2 t || f.among up)) := hfx
          have HA : Hid ((fndB up fs2 t = true → atN up fs2 (t + 1) = atN up fs2 t) ∧ (fndB up fs2 t = false → f.among up = true → atN up fs2 (t + 1) = (t : Int)) ∧ (fndB up fs2 t = false → f.among up = false → atN up fs2 (t + 1) = atN up fs2 t)) := ⟨HA1, HA2, HA3⟩
          have HB : Hid (BytesAt wr (.slice ag data.length cg) data ∧ BytesAt wr (.slice ar data.length cr) data) := ⟨hb1, hb2⟩
          have HSM : Hid (∀ X, Ext wr X → Calls Try.prog 31 #[.agg #[.int .i64 f.fro, .int .i64 f.too, .slice ag data.length cg], .agg #[.int .i64 f.fro, .int .i64 f.too, .slice ar data.length cr]] X fun e w' => e = .returned (.bool true) ∧ Ext X w') := fun X e => same_true _ _ _ _ data X (HB.out.1.ext e) (HB.out.2.ext e) (by omega)
          clear hfx HA1 HA2 HA3 hb1 hb2 HB
          generalize data.length = dl at *
          generalize f.fro = ff at *
          generalize f.too = ft at *
          have BF : BlockIs (wr.alloc (.cells #[.int .i64 ff, .int .i64 ft, .slice ag dl cg] 41)) wr.heap.size [.int .i64 ff, .int .i64 ft, .slice ag dl cg] 41 := BlockIs.alloc wr _ _
          have HE6 : Hid (Ext wr (wr.alloc (.cells #[.int .i64 ff, .int .i64 ft, .slice ag dl cg] 41))) := (Ext.refl _).alloc _
          have r0' := HE6.out.cell_of r0
          have r1' := HE6.out.cell_of r1
          have r2' := HE6.out.cell_of r2
          go_upto_region 25 with (fail)
          clear g0 g1 g2 r0 r1 r2
          generalize World.alloc wr _ = U6 at *
          generalize wr.heap.size = b17 at *
          obtain ⟨y0, y1, y2, _, _, _, _⟩ := BF.three
          have sX : Hid (∀ X, Ext U6 X → (((X.cell? ⟨b17, 0, none⟩ = some (.int .i64 ff) ∧ X.cell? ⟨b17, 1, none⟩ = some (.int .i64 ft) ∧ X.cell? ⟨b17, 2, none⟩ = some (.slice ag dl cg)) ∧ X.cell? ⟨rb, t * 3, none⟩ = some (.int .i64 ff) ∧ X.cell? ⟨rb, t * 3 + 1, none⟩ = some (.int .i64 ft) ∧ X.cell? ⟨rb, t * 3 + 2, none⟩ = some (.slice ar dl cr)) ∧ Hid (Ext U6 X))) := fun X e => ⟨⟨⟨e.cell_of y0, e.cell_of y1, e.cell_of y2⟩, e.cell_of r0', e.cell_of r1', e.cell_of r2'⟩, e⟩
          go_region_held3 (fun X => ((X.cell? ⟨b17, 0, none⟩ = some (.int .i64 ff) ∧ X.cell? ⟨b17, 1, none⟩ = some (.int .i64 ft) ∧ X.cell? ⟨b17, 2, none⟩ = some (.slice ag dl cg)) ∧ X.cell? ⟨rb, t * 3, none⟩ = some (.int .i64 ff) ∧ X.cell? ⟨rb, t * 3 + 1, none⟩ = some (.int .i64 ft) ∧ X.cell? ⟨rb, t * 3 + 2, none⟩ = some (.slice ar dl cr)) ∧ Hid (Ext U6 X))
            (exact sX.out _ (by (repeat (first | exact Ext.refl _ | apply Ext.drew | refine Ext.trans ?_ eS | refine Ext.trans ?_ eO))))
            (first
              | (go_at_call 32; refine (of_any _ _ _ _ _ ⟨_, _, rfl⟩).mono ?_; rintro e w' ⟨rfl, eO⟩)
              | (go_at_call 31; refine (HSM.out _ (Ext.trans HE6.out (by (repeat (first | exact Ext.refl _ | apply Ext.drew | refine Ext.trans ?_ eO))))).mono ?_; rintro e w' ⟨rfl, eS⟩))
          have hX6 : Ext U6 w' := by (repeat (first | exact Ext.refl _ | apply Ext.drew | refine Ext.trans ?_ eS | refine Ext.trans ?_ eO))
          obtain ⟨z0, z1, z2, _, _, _, _⟩ := (BF.ext hX6).three
          have HX7 : Hid (Ext w4 w') := H2.out.trans (HE6.out.trans hX6)
          clear y0 y1 y2 r0' r1' r2' sX BF
          have hA := shr_has up ff hu0 hu1 hf0 hf1
          have hC := shr_has up ft hu0 hu1 ht0 ht1
          cases hfd : fndB up fs2 t
          · rw [hfd] at HFX HA
            cases hff : hasB up ff
            · rw [hff] at hA HAM
              go_wp2_with fail
              go_roundw
              case rel => exact ⟨t + 1, by omega, by go_num, by rw [HA.out.2.2 rfl HAM.out], by rw [HFX.out, HAM.out]; rfl, HX7⟩
              case measure => simp [intOf]; omega
            · rw [hff] at hA HAM
              cases hft : hasB up ft
              · rw [hft] at hC HAM
                go_wp2_with fail
                go_roundw
                case rel => exact ⟨t + 1, by omega, by go_num, by rw [HA.out.2.2 rfl HAM.out], by rw [HFX.out, HAM.out]; rfl, HX7⟩
                case measure => simp [intOf]; omega
              · rw [hft] at hC HAM
                go_wp2_with fail
                go_roundw
                case rel => exact ⟨t + 1, by omega, by go_num, by rw [HA.out.2.1 rfl HAM.out], by rw [HFX.out, HAM.out]; rfl, HX7⟩
                case measure => simp [intOf]; omega
          · rw [hfd] at HFX HA
            go_wp2_with fail
            go_roundw
            case rel => exact ⟨t + 1, by omega, by go_num, by rw [HA.out.1 rfl], by rw [HFX.out]; rfl, HX7⟩
            case measure => simp [intOf]; omega
        · have htm2 : t = m := by omega
          subst htm2
          have hend := at_end up fs2
          rw [HMM.out] at hend
          have HF := first_any up (HST2.out.net.ext (HE5.out.trans H2.out)) (by have := HMM.out; omega)
          rw [hend.1, hend.2] at HF
          have HX8 : Hid (Ext w wr) := HE4.out.trans (HE5.out.trans H2.out)
          clear hend HP
          generalize atN up fs2 t = at9 at *
          generalize fndB up fs2 t = fo9 at *
          have hxx : (fo9 != fo9) = false := by cases fo9 <;> rfl
          go_wp2_with fail
          refine HF.mono ?_
          rintro e w5 ⟨rfl, e5⟩
          go_wp2_with fail
          go_roundw
          case rel => exact ⟨k + 1, by omega, by go_num, HX8.out.trans e5, fs2, rs2, lv2, HST2.out.ext ((HE5.out.trans H2.out).trans e5), by rw [HMM.out]; exact HK2.out⟩
          case measure => simp [intOf]; omega
    · go_wp2_with fail
      go_ret
      exact ⟨rfl, H.out.1⟩
theorem plays_any (limit up : Int) (v : Value) (os : List OpR) (w : World) (hv : OpsAt w v os) (hl : os.length ≤ 9223372036854775807) (hu0 : 0 ≤ up) (hu1 : up < 256) :
    Calls Try.prog 7 #[.int .i64 limit, v, .int .u8 up] w fun e w' => e = .returned (.bool true) ∧ Ext w w' := by
  have hf : ∃ a cap, v = .slice a os.length cap := by
    obtain ⟨a, cap, e, _⟩ := hv
    exact ⟨a, cap, e⟩
  by_cases h : limit < 1 ∨ 4096 < limit
  · obtain ⟨a, cap, e⟩ := hf
    exact plays_out limit up v w ⟨a, _, cap, e⟩ h
  · by_cases hn : 60 < os.length
    · exact plays_long limit up v os.length w hf (by omega) (by omega) hn hl
    · exact plays_run limit up v os w hv (by omega) (by omega) (by omega) hu0 hu1
end Go.Proofs.Ytdbhndieommkaaa.NetW
