/- The walk of the law CacheKinds, all cases together. -/
import Derived.Test.YtoecclpfgdfpoaaKJ
namespace Go.Proofs.Ytoecclpfgdfpoaa.K
open Go.RowKit

set_option maxRecDepth 100000 in
set_option maxHeartbeats 2000000 in
theorem wKinds_no1 (room : Int) (a : Option Addr) (n cap : Nat) (w : World) (h1 : room < 1 ∨ 16 < room) :
    Calls Try.prog 3 #[.int .i64 room, .slice a n cap] w fun e w' => e = .returned (.bool true) ∧ Below w.heap.size w w' := by
  have H1 := Lib.hid h1
  clear h1
  go_enter Try.func3, Try.ntmps3
  go_wp2_with fail
  refine (Go.Proofs.Ytoecclpfgdfpoaa.new_no room H1.out _).mono ?_
  rintro e w1 ⟨rfl, rfl⟩
  go_wp2_with fail
  refine (new_no room H1.out _).mono ?_
  rintro e w1 ⟨rfl, rfl⟩
  go_wp2_with fail
  refine (awake_any _).mono ?_
  rintro e w1 ⟨rfl, hb⟩
  go_wp2
  go_ret
  exact ⟨rfl, hb⟩

set_option maxRecDepth 100000 in
set_option maxHeartbeats 2000000 in
theorem wKinds_no2 (room : Int) (a : Option Addr) (n cap : Nat) (w : World) (h1 : 1 ≤ room ∧ room ≤ 16) (hn : n ≤ 9223372036854775807) (h : 100 < n) :
    Calls Try.prog 3 #[.int .i64 room, .slice a n cap] w fun e w' => e = .returned (.bool true) ∧ Below w.heap.size w w' := by
  obtain ⟨h1, h2⟩ := h1
  go_enter Try.func3, Try.ntmps3
  go_wp2_with fail
  refine (Go.Proofs.Ytoecclpfgdfpoaa.new_yes room h1 h2 _).mono ?_
  rintro e w1 ⟨p, rfl, _, _, hb⟩
  have B1 := Lib.hid hb
  clear hb
  go_wp2_with fail
  refine (new_yes room h1 h2 _).mono ?_
  rintro e w2 ⟨q, rfl, _, _, hb⟩
  have B2 := Lib.hid (bl B1.out hb)
  clear hb
  go_wp2_with fail
  refine (awake_any _).mono ?_
  rintro e w3 ⟨rfl, hb⟩
  have B3 := Lib.hid (bl B2.out hb)
  clear hb
  go_wp2
  go_ret
  exact ⟨rfl, B3.out⟩

theorem wKinds (room : Int) (a : Option Addr) (cap : Nat) (l : List Ac) (w : World) (ha : RowA w a l) (hl : l.length ≤ 9223372036854775807) :
    Calls Try.prog 3 #[.int .i64 room, .slice a l.length cap] w fun e w' => e = .returned (.bool true) ∧ Below w.heap.size w w' := by
  rcases ok_room room with h1 | h1
  · by_cases h : 100 < l.length
    · exact wKinds_no2 room a l.length cap w h1 hl h
    · obtain ⟨R, rfl, hR⟩ := room_nat h1.1
      exact wKinds_run R a cap l w ha hR (by omega) (by omega)
  · exact wKinds_no1 room a l.length cap w h1
end Go.Proofs.Ytoecclpfgdfpoaa.K
