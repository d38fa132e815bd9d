/- The walk of the law CachePlays, all cases together. -/
import Derived.Test.YtoecclpfgdfpoaaPl
namespace Go.Proofs.Ytoecclpfgdfpoaa
open Go.RowKit

set_option maxRecDepth 100000 in
set_option maxHeartbeats 2000000 in
theorem wPlays_no1 (room : Int) (a : Option Addr) (n cap : Nat) (w : World) (h1 : room < 1 ∨ 16 < room) :
    Calls Try.prog 7 #[.int .i64 room, .slice a n cap] w fun e w' => e = .returned (.bool true) ∧ Below w.heap.size w w' := by
  have H1 := Lib.hid h1
  by_cases h2 : room < 1
  · clear h1
    go_enter Try.func7, Try.ntmps7
    go_wp2_with fail
    refine (new_no room H1.out _).mono ?_
    rintro e w1 ⟨rfl, rfl⟩
    go_wp2_with fail
    refine (awake_any _).mono ?_
    rintro e w1 ⟨rfl, hb⟩
    go_wp2
    go_ret
    exact ⟨rfl, hb⟩
  · have h3 : 16 < room := by omega
    clear h1
    go_enter Try.func7, Try.ntmps7
    go_wp2_with fail
    refine (new_no room H1.out _).mono ?_
    rintro e w1 ⟨rfl, rfl⟩
    go_wp2_with fail
    refine (awake_any _).mono ?_
    rintro e w1 ⟨rfl, hb⟩
    go_wp2
    go_ret
    exact ⟨rfl, hb⟩

set_option maxRecDepth 100000 in
set_option maxHeartbeats 2000000 in
theorem wPlays_no2 (room : Int) (a : Option Addr) (n cap : Nat) (w : World) (h1 : 1 ≤ room ∧ room ≤ 16) (hn : n ≤ 9223372036854775807) (h : 200 < n) :
    Calls Try.prog 7 #[.int .i64 room, .slice a n cap] w fun e w' => e = .returned (.bool true) ∧ Below w.heap.size w w' := by
  obtain ⟨h1, h2⟩ := h1
  go_enter Try.func7, Try.ntmps7
  go_wp2_with fail
  refine (new_yes room h1 h2 _).mono ?_
  rintro e w1 ⟨p, rfl, hc, _, hb⟩
  have B1 := Lib.hid hb
  have C1 := Lib.hid hc
  clear hb hc
  go_wp2_with fail
  refine (len_any p _ room [] _ C1.out).mono ?_
  rintro e w2 ⟨rfl, rfl⟩
  go_wp2_with fail
  refine (len_any p _ room [] _ C1.out).mono ?_
  rintro e w2 ⟨rfl, rfl⟩
  go_wp2_with fail
  refine (awake_any _).mono ?_
  rintro e w2 ⟨rfl, hb⟩
  have B2 := Lib.hid (bl B1.out hb)
  clear hb
  go_wp2
  go_ret
  exact ⟨rfl, B2.out⟩

theorem wPlays (room : Int) (a : Option Addr) (cap : Nat) (l : List Ac) (w : World) (ha : RowA w a l) (hl : l.length ≤ 9223372036854775807) :
    Calls Try.prog 7 #[.int .i64 room, .slice a l.length cap] w fun e w' => e = .returned (.bool true) ∧ Below w.heap.size w w' := by
  rcases ok_room room with h1 | h1
  · by_cases h : 200 < l.length
    · exact wPlays_no2 room a l.length cap w h1 hl h
    · obtain ⟨R, rfl, hR⟩ := room_nat h1.1
      exact wPlays_run R a cap l w ha hR (by omega) (by omega)
  · exact wPlays_no1 room a l.length cap w h1
end Go.Proofs.Ytoecclpfgdfpoaa
