/- The walks of the laws of layer 17 that hold no loop: which purses there are, and how many ticks: for every input the law returns true, and writes to new memory alone. No condition. -/
import Derived.Test.YtefinnlnkilmpaaD
namespace Go.Proofs.Ytefinnlnkilmpaa
open Go.RowKit

set_option maxHeartbeats 1000000 in
theorem pNew_yes (m r : Int) (h : Rt m m r) (w : World) :
    Calls Try.prog 3 #[.int .i64 m, .int .i64 r] w fun e w' => e = .returned (.bool true) ∧ Below w.heap.size w w' := by
  go_enter Try.func3, Try.ntmps3
  go_wp2_with fail
  refine (new_yes m r h _).mono ?_
  rintro e w1 ⟨rfl, hb⟩
  have bw1 : Below w.heap.size w w1 := bl (by go_grown) hb
  have qw1 := hb.size
  try simp only [World.size_alloc] at qw1
  clear hb
  go_wp2_with fail
  refine (rRight_yes m m r _ h).mono ?_
  rintro e w2 ⟨rfl, hb⟩
  have bw2 : Below w.heap.size w w2 := bl (by go_grown) hb
  have qw2 := hb.size
  try simp only [World.size_alloc] at qw2
  have kw20 := fun o => hb.cell (p := ⟨w1.heap.size, o, none⟩) (by first | (show w1.heap.size < _; omega) | (show w1.heap.size < _; simp only [World.size_alloc]; omega))
  have pw20 : w1.heap.size < w2.heap.size := by omega
  have kw21 := fun o => hb.cell (p := ⟨w1.heap.size + 1, o, none⟩) (by first | (show w1.heap.size + 1 < _; omega) | (show w1.heap.size + 1 < _; simp only [World.size_alloc]; omega))
  have pw21 : w1.heap.size + 1 < w2.heap.size := by omega
  clear hb
  go_wp2_with fail
  refine (same_yes m m r _).mono ?_
  rintro e w3 ⟨rfl, hb⟩
  have bw3 : Below w.heap.size w w3 := bl (by go_grown) hb
  have qw3 := hb.size
  try simp only [World.size_alloc] at qw3
  clear hb
  go_wp2_with fail
  refine (awake_any _).mono ?_
  rintro e w4 ⟨rfl, hb⟩
  have bw4 : Below w.heap.size w w4 := bl (by go_grown) hb
  have qw4 := hb.size
  try simp only [World.size_alloc] at qw4
  clear hb
  go_wp2
  go_ret
  exact ⟨rfl, by go_grown⟩

set_option maxHeartbeats 1000000 in
theorem pNew_no (m r : Int) (h : ¬ Rt m m r) (w : World) :
    Calls Try.prog 3 #[.int .i64 m, .int .i64 r] w fun e w' => e = .returned (.bool true) ∧ Below w.heap.size w w' := by
  go_enter Try.func3, Try.ntmps3
  go_wp2_with fail
  refine (new_no m r h _).mono ?_
  rintro e w1 ⟨rfl, hb⟩
  have bw1 : Below w.heap.size w w1 := bl (by go_grown) hb
  have qw1 := hb.size
  try simp only [World.size_alloc] at qw1
  clear hb
  go_wp2_with fail
  refine (rRight_no m m r _ h).mono ?_
  rintro e w2 ⟨rfl, hb⟩
  have bw2 : Below w.heap.size w w2 := bl (by go_grown) hb
  have qw2 := hb.size
  try simp only [World.size_alloc] at qw2
  have kw20 := fun o => hb.cell (p := ⟨w1.heap.size, o, none⟩) (by first | (show w1.heap.size < _; omega) | (show w1.heap.size < _; simp only [World.size_alloc]; omega))
  have pw20 : w1.heap.size < w2.heap.size := by omega
  have kw21 := fun o => hb.cell (p := ⟨w1.heap.size + 1, o, none⟩) (by first | (show w1.heap.size + 1 < _; omega) | (show w1.heap.size + 1 < _; simp only [World.size_alloc]; omega))
  have pw21 : w1.heap.size + 1 < w2.heap.size := by omega
  clear hb
  go_wp2_with fail
  refine (awake_any _).mono ?_
  rintro e w4 ⟨rfl, hb⟩
  have bw4 : Below w.heap.size w w4 := bl (by go_grown) hb
  have qw4 := hb.size
  try simp only [World.size_alloc] at qw4
  clear hb
  go_wp2
  go_ret
  exact ⟨rfl, by go_grown⟩

set_option maxHeartbeats 1000000 in
theorem pTicks_no (l m r n : Int) (h : ¬ Rt l m r) (w : World) :
    Calls Try.prog 4 #[P3 l m r, .int .i64 n] w fun e w' => e = .returned (.bool true) ∧ Below w.heap.size w w' := by
  go_enter Try.func4, Try.ntmps4
  go_wp2_with fail
  refine (ticks_no l m r n h _).mono ?_
  rintro e w1 ⟨rfl, hb⟩
  have bw1 : Below w.heap.size w w1 := bl (by go_grown) hb
  have qw1 := hb.size
  try simp only [World.size_alloc] at qw1
  have kw10 := fun o => hb.cell (p := ⟨w.heap.size, o, none⟩) (by first | (show w.heap.size < _; omega) | (show w.heap.size < _; simp only [World.size_alloc]; omega))
  have pw10 : w.heap.size < w1.heap.size := by omega
  clear hb
  go_wp2_with fail
  refine (plain_any l m r _).mono ?_
  rintro e w2 ⟨rfl, hb⟩
  have bw2 : Below w.heap.size w w2 := bl (by go_grown) hb
  have qw2 := hb.size
  try simp only [World.size_alloc] at qw2
  have kw20 := fun o => hb.cell (p := ⟨w.heap.size, o, none⟩) (by first | (show w.heap.size < _; omega) | (show w.heap.size < _; simp only [World.size_alloc]; omega))
  have pw20 : w.heap.size < w2.heap.size := by omega
  clear hb
  go_wp2_with fail
  refine (rTicks_no l m r n h _).mono ?_
  rintro e w3 ⟨rfl, hb⟩
  have bw3 : Below w.heap.size w w3 := bl (by go_grown) hb
  have qw3 := hb.size
  try simp only [World.size_alloc] at qw3
  clear hb
  go_wp2_with fail
  refine (awake_any _).mono ?_
  rintro e w4 ⟨rfl, hb⟩
  have bw4 : Below w.heap.size w w4 := bl (by go_grown) hb
  have qw4 := hb.size
  try simp only [World.size_alloc] at qw4
  clear hb
  go_wp2
  go_ret
  exact ⟨rfl, by go_grown⟩

set_option maxHeartbeats 1000000 in
theorem pTicks_neg (l m r n : Int) (h : Rt l m r) (hn : n < 0) (w : World) :
    Calls Try.prog 4 #[P3 l m r, .int .i64 n] w fun e w' => e = .returned (.bool true) ∧ Below w.heap.size w w' := by
  go_enter Try.func4, Try.ntmps4
  go_wp2_with fail
  refine (ticks_neg l m r n h hn _).mono ?_
  rintro e w1 ⟨rfl, hb⟩
  have bw1 : Below w.heap.size w w1 := bl (by go_grown) hb
  have qw1 := hb.size
  try simp only [World.size_alloc] at qw1
  have kw10 := fun o => hb.cell (p := ⟨w.heap.size, o, none⟩) (by first | (show w.heap.size < _; omega) | (show w.heap.size < _; simp only [World.size_alloc]; omega))
  have pw10 : w.heap.size < w1.heap.size := by omega
  clear hb
  go_wp2_with fail
  refine (plain_any l m r _).mono ?_
  rintro e w2 ⟨rfl, hb⟩
  have bw2 : Below w.heap.size w w2 := bl (by go_grown) hb
  have qw2 := hb.size
  try simp only [World.size_alloc] at qw2
  have kw20 := fun o => hb.cell (p := ⟨w.heap.size, o, none⟩) (by first | (show w.heap.size < _; omega) | (show w.heap.size < _; simp only [World.size_alloc]; omega))
  have pw20 : w.heap.size < w2.heap.size := by omega
  clear hb
  go_wp2_with fail
  refine (rTicks_neg l m r n h hn _).mono ?_
  rintro e w3 ⟨rfl, hb⟩
  have bw3 : Below w.heap.size w w3 := bl (by go_grown) hb
  have qw3 := hb.size
  try simp only [World.size_alloc] at qw3
  clear hb
  go_wp2_with fail
  refine (awake_any _).mono ?_
  rintro e w4 ⟨rfl, hb⟩
  have bw4 : Below w.heap.size w w4 := bl (by go_grown) hb
  have qw4 := hb.size
  try simp only [World.size_alloc] at qw4
  clear hb
  go_wp2
  go_ret
  exact ⟨rfl, by go_grown⟩

set_option maxHeartbeats 1000000 in
theorem pTicks_over (l m r n : Int) (h : Rt l m r) (hn : 0 ≤ n) (hm : m < n) (w : World) :
    Calls Try.prog 4 #[P3 l m r, .int .i64 n] w fun e w' => e = .returned (.bool true) ∧ Below w.heap.size w w' := by
  go_enter Try.func4, Try.ntmps4
  go_wp2_with fail
  refine (ticks_over l m r n h hn hm _).mono ?_
  rintro e w1 ⟨rfl, hb⟩
  have bw1 : Below w.heap.size w w1 := bl (by go_grown) hb
  have qw1 := hb.size
  try simp only [World.size_alloc] at qw1
  have kw10 := fun o => hb.cell (p := ⟨w.heap.size, o, none⟩) (by first | (show w.heap.size < _; omega) | (show w.heap.size < _; simp only [World.size_alloc]; omega))
  have pw10 : w.heap.size < w1.heap.size := by omega
  clear hb
  go_wp2_with fail
  refine (plain_any l m r _).mono ?_
  rintro e w2 ⟨rfl, hb⟩
  have bw2 : Below w.heap.size w w2 := bl (by go_grown) hb
  have qw2 := hb.size
  try simp only [World.size_alloc] at qw2
  have kw20 := fun o => hb.cell (p := ⟨w.heap.size, o, none⟩) (by first | (show w.heap.size < _; omega) | (show w.heap.size < _; simp only [World.size_alloc]; omega))
  have pw20 : w.heap.size < w2.heap.size := by omega
  clear hb
  go_wp2_with fail
  refine (rTicks_over l m r n h hn hm _).mono ?_
  rintro e w3 ⟨rfl, hb⟩
  have bw3 : Below w.heap.size w w3 := bl (by go_grown) hb
  have qw3 := hb.size
  try simp only [World.size_alloc] at qw3
  clear hb
  go_wp2_with fail
  refine (awake_any _).mono ?_
  rintro e w4 ⟨rfl, hb⟩
  have bw4 : Below w.heap.size w w4 := bl (by go_grown) hb
  have qw4 := hb.size
  try simp only [World.size_alloc] at qw4
  clear hb
  go_wp2
  go_ret
  exact ⟨rfl, by go_grown⟩

set_option maxHeartbeats 1000000 in
theorem pTicks_now (l m r n : Int) (h : Rt l m r) (hn : 0 ≤ n) (hm : n ≤ m) (hl : n ≤ l) (w : World) :
    Calls Try.prog 4 #[P3 l m r, .int .i64 n] w fun e w' => e = .returned (.bool true) ∧ Below w.heap.size w w' := by
  go_enter Try.func4, Try.ntmps4
  go_wp2_with fail
  refine (ticks_now l m r n h hn hm hl _).mono ?_
  rintro e w1 ⟨rfl, hb⟩
  have bw1 : Below w.heap.size w w1 := bl (by go_grown) hb
  have qw1 := hb.size
  try simp only [World.size_alloc] at qw1
  have kw10 := fun o => hb.cell (p := ⟨w.heap.size, o, none⟩) (by first | (show w.heap.size < _; omega) | (show w.heap.size < _; simp only [World.size_alloc]; omega))
  have pw10 : w.heap.size < w1.heap.size := by omega
  clear hb
  go_wp2_with fail
  refine (plain_any l m r _).mono ?_
  rintro e w2 ⟨rfl, hb⟩
  have bw2 : Below w.heap.size w w2 := bl (by go_grown) hb
  have qw2 := hb.size
  try simp only [World.size_alloc] at qw2
  have kw20 := fun o => hb.cell (p := ⟨w.heap.size, o, none⟩) (by first | (show w.heap.size < _; omega) | (show w.heap.size < _; simp only [World.size_alloc]; omega))
  have pw20 : w.heap.size < w2.heap.size := by omega
  clear hb
  go_wp2_with fail
  refine (rTicks_now l m r n h hn hm hl _).mono ?_
  rintro e w3 ⟨rfl, hb⟩
  have bw3 : Below w.heap.size w w3 := bl (by go_grown) hb
  have qw3 := hb.size
  try simp only [World.size_alloc] at qw3
  clear hb
  go_wp2_with fail
  refine (awake_any _).mono ?_
  rintro e w4 ⟨rfl, hb⟩
  have bw4 : Below w.heap.size w w4 := bl (by go_grown) hb
  have qw4 := hb.size
  try simp only [World.size_alloc] at qw4
  clear hb
  go_wp2
  go_ret
  exact ⟨rfl, by go_grown⟩

set_option maxHeartbeats 1000000 in
theorem pTicks_yes (l m r n : Int) (h : Rt l m r) (hr : 0 < r) (hn : 0 ≤ n) (hm : n ≤ m) (hl : l < n) (w : World) :
    Calls Try.prog 4 #[P3 l m r, .int .i64 n] w fun e w' => e = .returned (.bool true) ∧ Below w.heap.size w w' := by
  go_enter Try.func4, Try.ntmps4
  go_wp2_with fail
  refine (ticks_yes l m r n h hr hn hm hl _).mono ?_
  rintro e w1 ⟨rfl, hb⟩
  have bw1 : Below w.heap.size w w1 := bl (by go_grown) hb
  have qw1 := hb.size
  try simp only [World.size_alloc] at qw1
  have kw10 := fun o => hb.cell (p := ⟨w.heap.size, o, none⟩) (by first | (show w.heap.size < _; omega) | (show w.heap.size < _; simp only [World.size_alloc]; omega))
  have pw10 : w.heap.size < w1.heap.size := by omega
  clear hb
  go_wp2_with fail
  refine (plain_any l m r _).mono ?_
  rintro e w2 ⟨rfl, hb⟩
  have bw2 : Below w.heap.size w w2 := bl (by go_grown) hb
  have qw2 := hb.size
  try simp only [World.size_alloc] at qw2
  have kw20 := fun o => hb.cell (p := ⟨w.heap.size, o, none⟩) (by first | (show w.heap.size < _; omega) | (show w.heap.size < _; simp only [World.size_alloc]; omega))
  have pw20 : w.heap.size < w2.heap.size := by omega
  clear hb
  go_wp2_with fail
  refine (rTicks_yes l m r n h hr hn hm hl _).mono ?_
  rintro e w3 ⟨rfl, hb⟩
  have bw3 : Below w.heap.size w w3 := bl (by go_grown) hb
  have qw3 := hb.size
  try simp only [World.size_alloc] at qw3
  clear hb
  go_wp2_with fail
  refine (awake_any _).mono ?_
  rintro e w4 ⟨rfl, hb⟩
  have bw4 : Below w.heap.size w w4 := bl (by go_grown) hb
  have qw4 := hb.size
  try simp only [World.size_alloc] at qw4
  clear hb
  go_wp2
  go_ret
  exact ⟨rfl, by go_grown⟩

set_option maxHeartbeats 1000000 in
theorem pTicks_never (l m n : Int) (h : Rt l m 0) (hn : 0 ≤ n) (hm : n ≤ m) (hl : l < n) (w : World) :
    Calls Try.prog 4 #[P3 l m 0, .int .i64 n] w fun e w' => e = .returned (.bool true) ∧ Below w.heap.size w w' := by
  go_enter Try.func4, Try.ntmps4
  go_wp2_with fail
  refine (ticks_never l m n h hn hm hl _).mono ?_
  rintro e w1 ⟨rfl, hb⟩
  have bw1 : Below w.heap.size w w1 := bl (by go_grown) hb
  have qw1 := hb.size
  try simp only [World.size_alloc] at qw1
  have kw10 := fun o => hb.cell (p := ⟨w.heap.size, o, none⟩) (by first | (show w.heap.size < _; omega) | (show w.heap.size < _; simp only [World.size_alloc]; omega))
  have pw10 : w.heap.size < w1.heap.size := by omega
  clear hb
  go_wp2_with fail
  refine (plain_any l m 0 _).mono ?_
  rintro e w2 ⟨rfl, hb⟩
  have bw2 : Below w.heap.size w w2 := bl (by go_grown) hb
  have qw2 := hb.size
  try simp only [World.size_alloc] at qw2
  have kw20 := fun o => hb.cell (p := ⟨w.heap.size, o, none⟩) (by first | (show w.heap.size < _; omega) | (show w.heap.size < _; simp only [World.size_alloc]; omega))
  have pw20 : w.heap.size < w2.heap.size := by omega
  clear hb
  go_wp2_with fail
  refine (rTicks_never l m n h hn hm hl _).mono ?_
  rintro e w3 ⟨rfl, hb⟩
  have bw3 : Below w.heap.size w w3 := bl (by go_grown) hb
  have qw3 := hb.size
  try simp only [World.size_alloc] at qw3
  clear hb
  go_wp2_with fail
  refine (awake_any _).mono ?_
  rintro e w4 ⟨rfl, hb⟩
  have bw4 : Below w.heap.size w w4 := bl (by go_grown) hb
  have qw4 := hb.size
  try simp only [World.size_alloc] at qw4
  clear hb
  go_wp2
  go_ret
  exact ⟨rfl, by go_grown⟩

theorem pNew (m r : Int) (w : World) :
    Calls Try.prog 3 #[.int .i64 m, .int .i64 r] w fun e w' => e = .returned (.bool true) ∧ Below w.heap.size w w' := by
  by_cases h : Rt m m r
  · exact pNew_yes m r h w
  · exact pNew_no m r h w

theorem pTicks (l m r n : Int) (w : World) :
    Calls Try.prog 4 #[P3 l m r, .int .i64 n] w fun e w' => e = .returned (.bool true) ∧ Below w.heap.size w w' := by
  by_cases h : Rt l m r
  · by_cases hn : n < 0
    · exact pTicks_neg l m r n h hn w
    · by_cases hm : n ≤ m
      · by_cases hl : n ≤ l
        · exact pTicks_now l m r n h (by omega) hm hl w
        · by_cases hr : 0 < r
          · exact pTicks_yes l m r n h hr (by omega) hm (by omega) w
          · obtain rfl : r = 0 := by have := h.2.2.2.2.1; omega
            exact pTicks_never l m n h (by omega) hm (by omega) w
      · exact pTicks_over l m r n h (by omega) (by omega) w
  · exact pTicks_no l m r n h w

end Go.Proofs.Ytefinnlnkilmpaa
