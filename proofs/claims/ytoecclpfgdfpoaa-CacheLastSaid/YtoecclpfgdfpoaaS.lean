/- The walk of the law CacheLast, all cases together. -/
import Derived.Test.YtoecclpfgdfpoaaN
namespace Go.Proofs.Ytoecclpfgdfpoaa
open Go.RowKit

set_option maxHeartbeats 2000000 in
theorem wLast_no1 (room : Int) (a : Option Addr) (n cap : Nat) (w : World) (h1 : room < 1 ∨ 16 < room) :
    Calls Try.prog 5 #[.int .i64 room, .slice a n cap] w fun e w' => e = .returned (.bool true) ∧ Below w.heap.size w w' := by
  have H1 := Lib.hid h1
  clear h1
  go_enter Try.func5, Try.ntmps5
  go_wp2_with fail
  refine (new_no room H1.out _).mono ?_
  rintro e w1 ⟨rfl, rfl⟩
  go_wp2_with fail
  refine (awake_any _).mono ?_
  rintro e w1 ⟨rfl, hb⟩
  go_wp2
  go_ret
  exact ⟨rfl, hb⟩

set_option maxHeartbeats 2000000 in
theorem wLast_no2 (room : Int) (a : Option Addr) (n cap : Nat) (w : World) (h1 : 1 ≤ room ∧ room ≤ 16) (hn : n ≤ 9223372036854775807) (h : 150 < n) :
    Calls Try.prog 5 #[.int .i64 room, .slice a n cap] w fun e w' => e = .returned (.bool true) ∧ Below w.heap.size w w' := by
  have H1 := Lib.hid h1
  clear h1
  go_enter Try.func5, Try.ntmps5
  go_wp2_with fail
  refine (new_yes room H1.out.1 H1.out.2 _).mono ?_
  rintro e w1 ⟨p, rfl, _, _, hb⟩
  have B1 := Lib.hid hb
  clear hb
  go_wp2_with fail
  refine (awake_any _).mono ?_
  rintro e w2 ⟨rfl, hb⟩
  have B2 := Lib.hid (bl B1.out hb)
  clear hb
  go_wp2
  go_ret
  exact ⟨rfl, B2.out⟩

theorem wLast (room : Int) (a : Option Addr) (cap : Nat) (l : List Ac) (w : World) (ha : RowA w a l) (hl : l.length ≤ 9223372036854775807) (hcap : l.length ≤ cap) :
    Calls Try.prog 5 #[.int .i64 room, .slice a l.length cap] w fun e w' => e = .returned (.bool true) ∧ Below w.heap.size w w' := by
  rcases ok_room room with h1 | h1
  · by_cases h : 150 < l.length
    · exact wLast_no2 room a l.length cap w h1 hl h
    · obtain ⟨R, rfl, hR⟩ := room_nat h1.1
      obtain ⟨r, rfl⟩ : ∃ r, R = r + 1 := ⟨R - 1, by omega⟩
      exact wLast_run r a cap l w ha (by omega) (by omega) hcap
  · exact wLast_no1 room a l.length cap w h1
end Go.Proofs.Ytoecclpfgdfpoaa
