/- The walk of the law CacheDrops, all cases together. -/
import Derived.Test.YtoecclpfgdfpoaaX
namespace Go.Proofs.Ytoecclpfgdfpoaa
open Go.RowKit

set_option maxHeartbeats 2000000 in
theorem wDrops_no1 (room : Int) (a : Option Addr) (n cap : Nat) (x0 xk xv : Int) (w : World) (h1 : room < 1 ∨ 16 < room) :
    Calls Try.prog 8 #[.int .i64 room, .slice a n cap, .agg #[.int .i64 x0, .int .i64 xk, .int .i64 xv]] w fun e w' => e = .returned (.bool true) ∧ Below w.heap.size w w' := by
  have H1 := Lib.hid h1
  clear h1
  go_enter Try.func8, Try.ntmps8
  go_wp2_with fail
  refine (new_no room H1.out _).mono ?_
  rintro e w1 ⟨rfl, rfl⟩
  go_wp2_with fail
  refine (awake_any _).mono ?_
  rintro e w1 ⟨rfl, hb⟩
  have hb1 : Below w.heap.size w w1 := bl (by go_grown) hb
  clear hb
  go_wp2
  go_ret
  exact ⟨rfl, hb1⟩

set_option maxHeartbeats 2000000 in
theorem wDrops_no2 (room : Int) (a : Option Addr) (n cap : Nat) (x0 xk xv : Int) (w : World) (h1 : 1 ≤ room ∧ room ≤ 16) (hn : n ≤ 9223372036854775807) (h : 60 < n) :
    Calls Try.prog 8 #[.int .i64 room, .slice a n cap, .agg #[.int .i64 x0, .int .i64 xk, .int .i64 xv]] w fun e w' => e = .returned (.bool true) ∧ Below w.heap.size w w' := by
  have H1 := Lib.hid h1
  clear h1
  go_enter Try.func8, Try.ntmps8
  go_wp2_with fail
  refine (new_yes room H1.out.1 H1.out.2 _).mono ?_
  rintro e w1 ⟨p, rfl, _, _, hb⟩
  have B1 := Lib.hid (show Below w.heap.size w w1 from bl (by go_grown) hb)
  clear hb
  go_wp2_with fail
  refine (awake_any _).mono ?_
  rintro e w2 ⟨rfl, hb⟩
  have B2 := Lib.hid (bl B1.out hb)
  clear hb
  go_wp2
  go_ret
  exact ⟨rfl, B2.out⟩

theorem wDrops (room : Int) (a : Option Addr) (cap : Nat) (l : List Ac) (x0 xk xv : Int) (w : World) (ha : RowA w a l) (hl : l.length ≤ 9223372036854775807) :
    Calls Try.prog 8 #[.int .i64 room, .slice a l.length cap, .agg #[.int .i64 x0, .int .i64 xk, .int .i64 xv]] w fun e w' => e = .returned (.bool true) ∧ Below w.heap.size w w' := by
  rcases ok_room room with h1 | h1
  · by_cases h : 60 < l.length
    · exact wDrops_no2 room a l.length cap x0 xk xv w h1 hl h
    · obtain ⟨R, rfl, hR⟩ := room_nat h1.1
      exact wDrops_run R a cap l x0 xk xv w ha hR (by omega) (by omega)
  · exact wDrops_no1 room a l.length cap x0 xk xv w h1
end Go.Proofs.Ytoecclpfgdfpoaa
