/- Layer 3: adding two costs, in the code and in the reference: what each returns, for all costs. -/
import Derived.Test.YtedijnokbemegaaRows
import Derived.WalkKit
import Derived.WalkSpells
import Derived.WalkLawsBesides
import Derived.Lib.Hide
import Derived.Handy
namespace Go.Proofs.Ytedijnokbemegaa
open Go.RowKit

/-- Two costs together. -/
def sadd (a b : Int) : Int := min (a + b) 18446744073709551615
/-- A cost. -/
def Ub (a : Int) : Prop := 0 ≤ a ∧ a ≤ 18446744073709551615

theorem sadd_ub {a b : Int} (ha : Ub a) (hb : Ub b) : Ub (sadd a b) := by unfold Ub sadd at *; omega

theorem sadd_big {a b : Int} (h : 18446744073709551615 - b < a) : sadd a b = 18446744073709551615 := by unfold sadd; omega
theorem sadd_small {a b : Int} (h : ¬ 18446744073709551615 - b < a) : sadd a b = a + b := by unfold sadd; omega

set_option maxHeartbeats 400000 in
theorem add_any (a b : Int) (ha : Ub a) (hb : Ub b) (w : World) :
    Calls Try.prog 20 #[.int .u64 a, .int .u64 b] w fun e w' => e = .returned (.int .u64 (sadd a b)) ∧ w = w' := by
  obtain ⟨a0, a1⟩ := ha
  obtain ⟨b0, b1⟩ := hb
  by_cases h : 18446744073709551615 - b < a
  · have H := Lib.hid (sadd_big h)
    go_enter Try.func20, Try.ntmps20
    go_wp2
    go_ret
    exact ⟨by rw [H.out]; rfl, rfl⟩
  · have H := Lib.hid (sadd_small h)
    go_enter Try.func20, Try.ntmps20
    go_wp2
    go_ret
    exact ⟨by rw [H.out]; rfl, rfl⟩

theorem halves {a b : Int} (ha : Ub a) (hb : Ub b) : (4294967295 < a / 4294967296 + b / 4294967296 + (a % 4294967296 + b % 4294967296) / 4294967296 → sadd a b = 18446744073709551615) ∧
    (¬ 4294967295 < a / 4294967296 + b / 4294967296 + (a % 4294967296 + b % 4294967296) / 4294967296 →
      sadd a b = (a / 4294967296 + b / 4294967296 + (a % 4294967296 + b % 4294967296) / 4294967296) * 4294967296 + (a + b) % 4294967296) := by
  unfold Ub sadd at *
  constructor <;> intro h <;> omega

set_option maxHeartbeats 400000 in
theorem rAdd_any (a b : Int) (ha : Ub a) (hb : Ub b) (w : World) :
    Calls Try.prog 18 #[.int .u64 a, .int .u64 b] w fun e w' => e = .returned (.int .u64 (sadd a b)) ∧ w = w' := by
  have HH := Lib.hid (halves ha hb)
  obtain ⟨a0, a1⟩ := ha
  obtain ⟨b0, b1⟩ := hb
  by_cases h : 4294967295 < a / 4294967296 + b / 4294967296 + (a % 4294967296 + b % 4294967296) / 4294967296
  · have H := Lib.hid (HH.out.1 h)
    go_enter Try.func18, Try.ntmps18
    go_wp2
    go_ret
    exact ⟨by rw [H.out]; rfl, rfl⟩
  · have H := Lib.hid (HH.out.2 h)
    go_enter Try.func18, Try.ntmps18
    go_wp2
    go_ret
    exact ⟨by rw [H.out]; rfl, rfl⟩
end Go.Proofs.Ytedijnokbemegaa
