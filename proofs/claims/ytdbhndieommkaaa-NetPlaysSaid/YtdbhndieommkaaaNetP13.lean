/- The walk of the law NetPlays. -/
import Derived.Test.YtdbhndieommkaaaNetP12
import Derived.Test.YtdbhndieommkaaaNetO
namespace Go.Proofs.Ytdbhndieommkaaa.NetW
open Go.RowKit
open CrewW (hasB)

structure OpR where
  kind : Int
  i : Int
  bit : Int
  fro : Int
  too : Int
  dv : Value
  data : List Int
/-- a slice of ops -/
def OpsAt (w : World) (v : Value) (os : List OpR) : Prop :=
  ∃ a cap, v = .slice a os.length cap ∧ ∀ j (hj : j < os.length), ∃ b off, a = some ⟨b, off, none⟩ ∧
    (w.cell? ⟨b, off + j * 6, none⟩ = some (.int .i64 os[j].kind) ∧ w.cell? ⟨b, off + j * 6 + 1, none⟩ = some (.int .i64 os[j].i) ∧ w.cell? ⟨b, off + j * 6 + 2, none⟩ = some (.int .i64 os[j].bit) ∧
      w.cell? ⟨b, off + j * 6 + 3, none⟩ = some (.int .i64 os[j].fro) ∧ w.cell? ⟨b, off + j * 6 + 4, none⟩ = some (.int .i64 os[j].too) ∧ w.cell? ⟨b, off + j * 6 + 5, none⟩ = some os[j].dv) ∧
    BytesAt w os[j].dv os[j].data ∧ (∀ x ∈ os[j].data, 0 ≤ x ∧ x ≤ 255) ∧ os[j].data.length ≤ 9223372036854775807 ∧ os[j].bit ≤ 9223372036854775807

theorem plays_out (limit up : Int) (v : Value) (w : World) (hv : ∃ a n cap, v = .slice a n cap) (hl : limit < 1 ∨ 4096 < limit) :
    Calls Try.prog 7 #[.int .i64 limit, v, .int .u8 up] w fun e w' => e = .returned (.bool true) ∧ Ext w w' := by
  obtain ⟨a, n, cap, rfl⟩ := hv
  have hl2 := hl
  rcases hl with hl | hl
  all_goals
    go_enter Try.func7, Try.ntmps7
    go_wp2_with fail
    refine (anchor_any _).mono ?_
    rintro e w1 ⟨rfl, e1⟩
    go_wp2_with fail
    refine (new_no limit hl2 _).mono ?_
    rintro e _ ⟨rfl, rfl⟩
    have hl0 : 1 ≤ limit ∨ limit < 1 := by omega
    go_wp2_with fail
    go_ret
    exact ⟨rfl, e1⟩

theorem plays_long (limit up : Int) (v : Value) (n : Nat) (w : World) (hv : ∃ a cap, v = .slice a n cap) (h0 : 1 ≤ limit) (h1 : limit ≤ 4096) (hn : 60 < n) (hn2 : n ≤ 9223372036854775807) :
    Calls Try.prog 7 #[.int .i64 limit, v, .int .u8 up] w fun e w' => e = .returned (.bool true) ∧ Ext w w' := by
  obtain ⟨a, cap, rfl⟩ := hv
  go_enter Try.func7, Try.ntmps7
  go_wp2_with fail
  refine (anchor_any _).mono ?_
  rintro e w1 ⟨rfl, e1⟩
  go_wp2_with fail
  refine (new_ok limit h0 h1 _).mono ?_
  rintro e w2 hp
  obtain ⟨p, rfl, _, e2, _⟩ := hp
  go_wp2_with fail
  go_ret
  exact ⟨rfl, e1.trans e2⟩
end Go.Proofs.Ytdbhndieommkaaa.NetW
