/- The walk of the law PurseTurns: for every input it returns true, and writes to new memory alone. No condition. -/
import Derived.Test.YtefinnlnkilmpaaD
import Derived.Deep.RegionWith
import Derived.Deep.RegionHeld3
namespace Go.Proofs.Ytefinnlnkilmpaa
open Go.RowKit

/-- A spending, in the code and in the reference: one answer. -/
theorem spend_both (l m r n : Int) (h : Rt l m r) : ∃ a b c k : Int, (∀ w : World, Calls Try.prog 18 #[P3 l m r, .int .i64 n] w fun e w' => e = .returned (.tuple #[P3 a b c, .int .i64 k]) ∧ Below w.heap.size w w') ∧
    (∀ w : World, Calls Try.prog 19 #[P3 l m r, .int .i64 n] w fun e w' => e = .returned (.tuple #[P3 a b c, .int .i64 k]) ∧ Below w.heap.size w w') := by
  by_cases hn : n < 0
  · exact ⟨_, _, _, _, spend_neg l m r n h hn, rSpend_neg l m r n h hn⟩
  · by_cases hl : n ≤ l
    · exact ⟨_, _, _, _, spend_yes l m r n h (by omega) hl, rSpend_yes l m r n h (by omega) hl⟩
    · exact ⟨_, _, _, _, spend_over l m r n h (by omega), rSpend_over l m r n h (by omega)⟩

set_option maxHeartbeats 1000000 in
theorem pTurns_no (l m r t n : Int) (h : ¬ Rt l m r) (w : World) :
    Calls Try.prog 5 #[P3 l m r, .int .i64 t, .int .i64 n] w fun e w' => e = .returned (.bool true) ∧ Below w.heap.size w w' := by
  go_enter Try.func5, Try.ntmps5
  go_wp2_with fail
  refine (plain_any l m r _).mono ?_
  rintro e w1 ⟨rfl, hb⟩
  have bw1 : Below w.heap.size w w1 := bl (by go_grown) hb
  have qw1 := hb.size
  try simp only [World.size_alloc] at qw1
  have kw10 := fun o => hb.cell (p := ⟨w.heap.size, o, none⟩) (by first | (show w.heap.size < _; omega) | (show w.heap.size < _; simp only [World.size_alloc]; omega))
  have pw10 : w.heap.size < w1.heap.size := by omega
  clear hb
  go_wp2_with fail
  refine (tick_no l m r h _).mono ?_
  rintro e w2 ⟨rfl, hb⟩
  have bw2 : Below w.heap.size w w2 := bl (by go_grown) hb
  have qw2 := hb.size
  try simp only [World.size_alloc] at qw2
  have kw20 := fun o => hb.cell (p := ⟨w.heap.size, o, none⟩) (by first | (show w.heap.size < _; omega) | (show w.heap.size < _; simp only [World.size_alloc]; omega))
  have pw20 : w.heap.size < w2.heap.size := by omega
  have kw21 := fun o => hb.cell (p := ⟨w1.heap.size, o, none⟩) (by first | (show w1.heap.size < _; omega) | (show w1.heap.size < _; simp only [World.size_alloc]; omega))
  have pw21 : w1.heap.size < w2.heap.size := by omega
  clear hb
  go_wp2_with fail
  refine (after_no l m r t h _).mono ?_
  rintro e w3 ⟨rfl, hb⟩
  have bw3 : Below w.heap.size w w3 := bl (by go_grown) hb
  have qw3 := hb.size
  try simp only [World.size_alloc] at qw3
  have kw30 := fun o => hb.cell (p := ⟨w.heap.size, o, none⟩) (by first | (show w.heap.size < _; omega) | (show w.heap.size < _; simp only [World.size_alloc]; omega))
  have pw30 : w.heap.size < w3.heap.size := by omega
  have kw31 := fun o => hb.cell (p := ⟨w1.heap.size, o, none⟩) (by first | (show w1.heap.size < _; omega) | (show w1.heap.size < _; simp only [World.size_alloc]; omega))
  have pw31 : w1.heap.size < w3.heap.size := by omega
  have kw32 := fun o => hb.cell (p := ⟨w2.heap.size, o, none⟩) (by first | (show w2.heap.size < _; omega) | (show w2.heap.size < _; simp only [World.size_alloc]; omega))
  have pw32 : w2.heap.size < w3.heap.size := by omega
  clear hb
  go_wp2_with fail
  refine (spend_no l m r n h _).mono ?_
  rintro e w4 ⟨rfl, hb⟩
  have bw4 : Below w.heap.size w w4 := bl (by go_grown) hb
  have qw4 := hb.size
  try simp only [World.size_alloc] at qw4
  have kw40 := fun o => hb.cell (p := ⟨w1.heap.size, o, none⟩) (by first | (show w1.heap.size < _; omega) | (show w1.heap.size < _; simp only [World.size_alloc]; omega))
  have pw40 : w1.heap.size < w4.heap.size := by omega
  have kw41 := fun o => hb.cell (p := ⟨w2.heap.size, o, none⟩) (by first | (show w2.heap.size < _; omega) | (show w2.heap.size < _; simp only [World.size_alloc]; omega))
  have pw41 : w2.heap.size < w4.heap.size := by omega
  have kw42 := fun o => hb.cell (p := ⟨w3.heap.size, o, none⟩) (by first | (show w3.heap.size < _; omega) | (show w3.heap.size < _; simp only [World.size_alloc]; omega))
  have pw42 : w3.heap.size < w4.heap.size := by omega
  clear hb
  go_wp2_with fail
  refine (rSpend_no l m r n h _).mono ?_
  rintro e w5 ⟨rfl, hb⟩
  have bw5 : Below w.heap.size w w5 := bl (by go_grown) hb
  have qw5 := hb.size
  try simp only [World.size_alloc] at qw5
  have kw50 := fun o => hb.cell (p := ⟨w1.heap.size, o, none⟩) (by first | (show w1.heap.size < _; omega) | (show w1.heap.size < _; simp only [World.size_alloc]; omega))
  have pw50 : w1.heap.size < w5.heap.size := by omega
  have kw51 := fun o => hb.cell (p := ⟨w2.heap.size, o, none⟩) (by first | (show w2.heap.size < _; omega) | (show w2.heap.size < _; simp only [World.size_alloc]; omega))
  have pw51 : w2.heap.size < w5.heap.size := by omega
  have kw52 := fun o => hb.cell (p := ⟨w3.heap.size, o, none⟩) (by first | (show w3.heap.size < _; omega) | (show w3.heap.size < _; simp only [World.size_alloc]; omega))
  have pw52 : w3.heap.size < w5.heap.size := by omega
  have kw53 := fun o => hb.cell (p := ⟨w4.heap.size, o, none⟩) (by first | (show w4.heap.size < _; omega) | (show w4.heap.size < _; simp only [World.size_alloc]; omega))
  have pw53 : w4.heap.size < w5.heap.size := by omega
  clear hb
  go_wp2_with fail
  refine (same_yes 0 0 0 _).mono ?_
  rintro e w6 ⟨rfl, hb⟩
  have bw6 : Below w.heap.size w w6 := bl (by go_grown) hb
  have qw6 := hb.size
  try simp only [World.size_alloc] at qw6
  have kw60 := fun o => hb.cell (p := ⟨w1.heap.size, o, none⟩) (by first | (show w1.heap.size < _; omega) | (show w1.heap.size < _; simp only [World.size_alloc]; omega))
  have pw60 : w1.heap.size < w6.heap.size := by omega
  have kw61 := fun o => hb.cell (p := ⟨w2.heap.size, o, none⟩) (by first | (show w2.heap.size < _; omega) | (show w2.heap.size < _; simp only [World.size_alloc]; omega))
  have pw61 : w2.heap.size < w6.heap.size := by omega
  have kw62 := fun o => hb.cell (p := ⟨w3.heap.size, o, none⟩) (by first | (show w3.heap.size < _; omega) | (show w3.heap.size < _; simp only [World.size_alloc]; omega))
  have pw62 : w3.heap.size < w6.heap.size := by omega
  clear hb
  go_wp2_with fail
  refine (rRight_no l m r _ h).mono ?_
  rintro e w7 ⟨rfl, hb⟩
  have bw7 : Below w.heap.size w w7 := bl (by go_grown) hb
  have qw7 := hb.size
  try simp only [World.size_alloc] at qw7
  have kw70 := fun o => hb.cell (p := ⟨w1.heap.size, o, none⟩) (by first | (show w1.heap.size < _; omega) | (show w1.heap.size < _; simp only [World.size_alloc]; omega))
  have pw70 : w1.heap.size < w7.heap.size := by omega
  have kw71 := fun o => hb.cell (p := ⟨w2.heap.size, o, none⟩) (by first | (show w2.heap.size < _; omega) | (show w2.heap.size < _; simp only [World.size_alloc]; omega))
  have pw71 : w2.heap.size < w7.heap.size := by omega
  have kw72 := fun o => hb.cell (p := ⟨w3.heap.size, o, none⟩) (by first | (show w3.heap.size < _; omega) | (show w3.heap.size < _; simp only [World.size_alloc]; omega))
  have pw72 : w3.heap.size < w7.heap.size := by omega
  clear hb
  go_wp2_with fail
  refine (awake_any _).mono ?_
  rintro e w8 ⟨rfl, hb⟩
  have bw8 : Below w.heap.size w w8 := bl (by go_grown) hb
  have qw8 := hb.size
  try simp only [World.size_alloc] at qw8
  clear hb
  go_wp2
  go_ret
  exact ⟨rfl, by go_grown⟩

set_option maxHeartbeats 1000000 in
theorem pTurns_neg (l m r t n : Int) (h : Rt l m r) (ht : t < 0) (w : World) :
    Calls Try.prog 5 #[P3 l m r, .int .i64 t, .int .i64 n] w fun e w' => e = .returned (.bool true) ∧ Below w.heap.size w w' := by
  obtain ⟨sa, sb, sc, sk, s1, s2⟩ := spend_both l m r n h
  have S1 := Lib.hid s1
  have S2 := Lib.hid s2
  clear s1 s2
  go_enter Try.func5, Try.ntmps5
  go_wp2_with fail
  refine (plain_any l m r _).mono ?_
  rintro e w1 ⟨rfl, hb⟩
  have bw1 : Below w.heap.size w w1 := bl (by go_grown) hb
  have qw1 := hb.size
  try simp only [World.size_alloc] at qw1
  have kw10 := fun o => hb.cell (p := ⟨w.heap.size, o, none⟩) (by first | (show w.heap.size < _; omega) | (show w.heap.size < _; simp only [World.size_alloc]; omega))
  have pw10 : w.heap.size < w1.heap.size := by omega
  clear hb
  go_wp2_with fail
  refine (tick_yes l m r h _).mono ?_
  rintro e w2 ⟨rfl, hb⟩
  have bw2 : Below w.heap.size w w2 := bl (by go_grown) hb
  have qw2 := hb.size
  try simp only [World.size_alloc] at qw2
  have kw20 := fun o => hb.cell (p := ⟨w.heap.size, o, none⟩) (by first | (show w.heap.size < _; omega) | (show w.heap.size < _; simp only [World.size_alloc]; omega))
  have pw20 : w.heap.size < w2.heap.size := by omega
  have kw21 := fun o => hb.cell (p := ⟨w1.heap.size, o, none⟩) (by first | (show w1.heap.size < _; omega) | (show w1.heap.size < _; simp only [World.size_alloc]; omega))
  have pw21 : w1.heap.size < w2.heap.size := by omega
  clear hb
  go_wp2_with fail
  refine (after_neg l m r t h ht _).mono ?_
  rintro e w3 ⟨rfl, hb⟩
  have bw3 : Below w.heap.size w w3 := bl (by go_grown) hb
  have qw3 := hb.size
  try simp only [World.size_alloc] at qw3
  have kw30 := fun o => hb.cell (p := ⟨w.heap.size, o, none⟩) (by first | (show w.heap.size < _; omega) | (show w.heap.size < _; simp only [World.size_alloc]; omega))
  have pw30 : w.heap.size < w3.heap.size := by omega
  have kw31 := fun o => hb.cell (p := ⟨w1.heap.size, o, none⟩) (by first | (show w1.heap.size < _; omega) | (show w1.heap.size < _; simp only [World.size_alloc]; omega))
  have pw31 : w1.heap.size < w3.heap.size := by omega
  have kw32 := fun o => hb.cell (p := ⟨w2.heap.size, o, none⟩) (by first | (show w2.heap.size < _; omega) | (show w2.heap.size < _; simp only [World.size_alloc]; omega))
  have pw32 : w2.heap.size < w3.heap.size := by omega
  clear hb
  go_wp2_with fail
  refine (S1.out _).mono ?_
  rintro e w4 ⟨rfl, hb⟩
  have bw4 : Below w.heap.size w w4 := bl (by go_grown) hb
  have qw4 := hb.size
  try simp only [World.size_alloc] at qw4
  have kw40 := fun o => hb.cell (p := ⟨w1.heap.size, o, none⟩) (by first | (show w1.heap.size < _; omega) | (show w1.heap.size < _; simp only [World.size_alloc]; omega))
  have pw40 : w1.heap.size < w4.heap.size := by omega
  have kw41 := fun o => hb.cell (p := ⟨w2.heap.size, o, none⟩) (by first | (show w2.heap.size < _; omega) | (show w2.heap.size < _; simp only [World.size_alloc]; omega))
  have pw41 : w2.heap.size < w4.heap.size := by omega
  have kw42 := fun o => hb.cell (p := ⟨w3.heap.size, o, none⟩) (by first | (show w3.heap.size < _; omega) | (show w3.heap.size < _; simp only [World.size_alloc]; omega))
  have pw42 : w3.heap.size < w4.heap.size := by omega
  clear hb
  go_wp2_with fail
  refine (S2.out _).mono ?_
  rintro e w5 ⟨rfl, hb⟩
  have bw5 : Below w.heap.size w w5 := bl (by go_grown) hb
  have qw5 := hb.size
  try simp only [World.size_alloc] at qw5
  have kw50 := fun o => hb.cell (p := ⟨w1.heap.size, o, none⟩) (by first | (show w1.heap.size < _; omega) | (show w1.heap.size < _; simp only [World.size_alloc]; omega))
  have pw50 : w1.heap.size < w5.heap.size := by omega
  have kw51 := fun o => hb.cell (p := ⟨w2.heap.size, o, none⟩) (by first | (show w2.heap.size < _; omega) | (show w2.heap.size < _; simp only [World.size_alloc]; omega))
  have pw51 : w2.heap.size < w5.heap.size := by omega
  have kw52 := fun o => hb.cell (p := ⟨w3.heap.size, o, none⟩) (by first | (show w3.heap.size < _; omega) | (show w3.heap.size < _; simp only [World.size_alloc]; omega))
  have pw52 : w3.heap.size < w5.heap.size := by omega
  have kw53 := fun o => hb.cell (p := ⟨w4.heap.size, o, none⟩) (by first | (show w4.heap.size < _; omega) | (show w4.heap.size < _; simp only [World.size_alloc]; omega))
  have pw53 : w4.heap.size < w5.heap.size := by omega
  clear hb
  go_wp2_with fail
  refine (same_yes sa sb sc _).mono ?_
  rintro e w6 ⟨rfl, hb⟩
  have bw6 : Below w.heap.size w w6 := bl (by go_grown) hb
  have qw6 := hb.size
  try simp only [World.size_alloc] at qw6
  have kw60 := fun o => hb.cell (p := ⟨w1.heap.size, o, none⟩) (by first | (show w1.heap.size < _; omega) | (show w1.heap.size < _; simp only [World.size_alloc]; omega))
  have pw60 : w1.heap.size < w6.heap.size := by omega
  have kw61 := fun o => hb.cell (p := ⟨w2.heap.size, o, none⟩) (by first | (show w2.heap.size < _; omega) | (show w2.heap.size < _; simp only [World.size_alloc]; omega))
  have pw61 : w2.heap.size < w6.heap.size := by omega
  have kw62 := fun o => hb.cell (p := ⟨w3.heap.size, o, none⟩) (by first | (show w3.heap.size < _; omega) | (show w3.heap.size < _; simp only [World.size_alloc]; omega))
  have pw62 : w3.heap.size < w6.heap.size := by omega
  clear hb
  go_wp2_with fail
  refine (rRight_yes l m r _ h).mono ?_
  rintro e w7 ⟨rfl, hb⟩
  have bw7 : Below w.heap.size w w7 := bl (by go_grown) hb
  have qw7 := hb.size
  try simp only [World.size_alloc] at qw7
  have kw70 := fun o => hb.cell (p := ⟨w1.heap.size, o, none⟩) (by first | (show w1.heap.size < _; omega) | (show w1.heap.size < _; simp only [World.size_alloc]; omega))
  have pw70 : w1.heap.size < w7.heap.size := by omega
  have kw71 := fun o => hb.cell (p := ⟨w2.heap.size, o, none⟩) (by first | (show w2.heap.size < _; omega) | (show w2.heap.size < _; simp only [World.size_alloc]; omega))
  have pw71 : w2.heap.size < w7.heap.size := by omega
  have kw72 := fun o => hb.cell (p := ⟨w3.heap.size, o, none⟩) (by first | (show w3.heap.size < _; omega) | (show w3.heap.size < _; simp only [World.size_alloc]; omega))
  have pw72 : w3.heap.size < w7.heap.size := by omega
  clear hb
  go_wp2_with fail
  go_region_with (first | (go_at_call 20; refine (rTick l m r _ h).mono ?_; rintro e w8 ⟨rfl, hb⟩; have bw8 : Below w.heap.size w w8 := bl (by go_grown) hb; have qw8 := hb.size; (try simp only [World.size_alloc, World.size_drew] at qw8); have kw80 := fun o => hb.cell (p := ⟨w2.heap.size, o, none⟩) (by first | (show w2.heap.size < _; omega) | (show w2.heap.size < _; simp only [World.size_alloc, World.size_drew]; omega)); have pw80 : w2.heap.size < w8.heap.size := (by omega); have kw81 := fun o => hb.cell (p := ⟨w3.heap.size, o, none⟩) (by first | (show w3.heap.size < _; omega) | (show w3.heap.size < _; simp only [World.size_alloc, World.size_drew]; omega)); have pw81 : w3.heap.size < w8.heap.size := (by omega); have kw82 := fun o => hb.cell (p := ⟨w1.heap.size, o, none⟩) (by first | (show w1.heap.size < _; omega) | (show w1.heap.size < _; simp only [World.size_alloc, World.size_drew]; omega)); have pw82 : w1.heap.size < w8.heap.size := (by omega); clear hb) | (go_at_call 12; refine (same_yes _ _ _ _).mono ?_; rintro e w9 ⟨rfl, hb⟩; have bw9 : Below w.heap.size w w9 := bl (by go_grown) hb; have qw9 := hb.size; (try simp only [World.size_alloc, World.size_drew] at qw9); have kw90 := fun o => hb.cell (p := ⟨w3.heap.size, o, none⟩) (by first | (show w3.heap.size < _; omega) | (show w3.heap.size < _; simp only [World.size_alloc, World.size_drew]; omega)); have pw90 : w3.heap.size < w9.heap.size := (by omega); have kw91 := fun o => hb.cell (p := ⟨w1.heap.size, o, none⟩) (by first | (show w1.heap.size < _; omega) | (show w1.heap.size < _; simp only [World.size_alloc, World.size_drew]; omega)); have pw91 : w1.heap.size < w9.heap.size := (by omega); clear hb))
  all_goals (
  go_wp2_with fail
  refine (awake_any _).mono ?_
  rintro e w10 ⟨rfl, hb⟩
  have bw10 : Below w.heap.size w w10 := bl (by go_grown) hb
  go_wp2
  go_ret
  exact ⟨rfl, by go_grown⟩
  )

set_option maxHeartbeats 4000000 in
theorem pTurns_yes (l m r t n : Int) (h : Rt l m r) (ht : 0 ≤ t) (ht' : t ≤ 9223372036854775807) (w : World) :
    Calls Try.prog 5 #[P3 l m r, .int .i64 t, .int .i64 n] w fun e w' => e = .returned (.bool true) ∧ Below w.heap.size w w' := by
  obtain ⟨sa, sb, sc, sk, s1, s2⟩ := spend_both l m r n h
  have S1 := Lib.hid s1
  have S2 := Lib.hid s2
  clear s1 s2
  go_enter Try.func5, Try.ntmps5
  go_wp2_with fail
  refine (plain_any l m r _).mono ?_
  rintro e w1 ⟨rfl, hb⟩
  have bw1 : Below w.heap.size w w1 := bl (by go_grown) hb
  have qw1 := hb.size
  try simp only [World.size_alloc] at qw1
  have kw10 := fun o => hb.cell (p := ⟨w.heap.size, o, none⟩) (by first | (show w.heap.size < _; omega) | (show w.heap.size < _; simp only [World.size_alloc]; omega))
  have pw10 : w.heap.size < w1.heap.size := by omega
  clear hb
  go_wp2_with fail
  refine (tick_yes l m r h _).mono ?_
  rintro e w2 ⟨rfl, hb⟩
  have bw2 : Below w.heap.size w w2 := bl (by go_grown) hb
  have qw2 := hb.size
  try simp only [World.size_alloc] at qw2
  have kw20 := fun o => hb.cell (p := ⟨w.heap.size, o, none⟩) (by first | (show w.heap.size < _; omega) | (show w.heap.size < _; simp only [World.size_alloc]; omega))
  have pw20 : w.heap.size < w2.heap.size := by omega
  have kw21 := fun o => hb.cell (p := ⟨w1.heap.size, o, none⟩) (by first | (show w1.heap.size < _; omega) | (show w1.heap.size < _; simp only [World.size_alloc]; omega))
  have pw21 : w1.heap.size < w2.heap.size := by omega
  clear hb
  go_wp2_with fail
  refine (after_yes l m r t h ht ht' _).mono ?_
  rintro e w3 ⟨rfl, hb⟩
  have bw3 : Below w.heap.size w w3 := bl (by go_grown) hb
  have qw3 := hb.size
  try simp only [World.size_alloc] at qw3
  have kw30 := fun o => hb.cell (p := ⟨w.heap.size, o, none⟩) (by first | (show w.heap.size < _; omega) | (show w.heap.size < _; simp only [World.size_alloc]; omega))
  have pw30 : w.heap.size < w3.heap.size := by omega
  have kw31 := fun o => hb.cell (p := ⟨w1.heap.size, o, none⟩) (by first | (show w1.heap.size < _; omega) | (show w1.heap.size < _; simp only [World.size_alloc]; omega))
  have pw31 : w1.heap.size < w3.heap.size := by omega
  have kw32 := fun o => hb.cell (p := ⟨w2.heap.size, o, none⟩) (by first | (show w2.heap.size < _; omega) | (show w2.heap.size < _; simp only [World.size_alloc]; omega))
  have pw32 : w2.heap.size < w3.heap.size := by omega
  clear hb
  go_wp2_with fail
  refine (S1.out _).mono ?_
  rintro e w4 ⟨rfl, hb⟩
  have bw4 : Below w.heap.size w w4 := bl (by go_grown) hb
  have qw4 := hb.size
  try simp only [World.size_alloc] at qw4
  have kw40 := fun o => hb.cell (p := ⟨w1.heap.size, o, none⟩) (by first | (show w1.heap.size < _; omega) | (show w1.heap.size < _; simp only [World.size_alloc]; omega))
  have pw40 : w1.heap.size < w4.heap.size := by omega
  have kw41 := fun o => hb.cell (p := ⟨w2.heap.size, o, none⟩) (by first | (show w2.heap.size < _; omega) | (show w2.heap.size < _; simp only [World.size_alloc]; omega))
  have pw41 : w2.heap.size < w4.heap.size := by omega
  have kw42 := fun o => hb.cell (p := ⟨w3.heap.size, o, none⟩) (by first | (show w3.heap.size < _; omega) | (show w3.heap.size < _; simp only [World.size_alloc]; omega))
  have pw42 : w3.heap.size < w4.heap.size := by omega
  clear hb
  go_wp2_with fail
  refine (S2.out _).mono ?_
  rintro e w5 ⟨rfl, hb⟩
  have bw5 : Below w.heap.size w w5 := bl (by go_grown) hb
  have qw5 := hb.size
  try simp only [World.size_alloc] at qw5
  have kw50 := fun o => hb.cell (p := ⟨w1.heap.size, o, none⟩) (by first | (show w1.heap.size < _; omega) | (show w1.heap.size < _; simp only [World.size_alloc]; omega))
  have pw50 : w1.heap.size < w5.heap.size := by omega
  have kw51 := fun o => hb.cell (p := ⟨w2.heap.size, o, none⟩) (by first | (show w2.heap.size < _; omega) | (show w2.heap.size < _; simp only [World.size_alloc]; omega))
  have pw51 : w2.heap.size < w5.heap.size := by omega
  have kw52 := fun o => hb.cell (p := ⟨w3.heap.size, o, none⟩) (by first | (show w3.heap.size < _; omega) | (show w3.heap.size < _; simp only [World.size_alloc]; omega))
  have pw52 : w3.heap.size < w5.heap.size := by omega
  have kw53 := fun o => hb.cell (p := ⟨w4.heap.size, o, none⟩) (by first | (show w4.heap.size < _; omega) | (show w4.heap.size < _; simp only [World.size_alloc]; omega))
  have pw53 : w4.heap.size < w5.heap.size := by omega
  clear hb
  go_wp2_with fail
  refine (same_yes sa sb sc _).mono ?_
  rintro e w6 ⟨rfl, hb⟩
  have bw6 : Below w.heap.size w w6 := bl (by go_grown) hb
  have qw6 := hb.size
  try simp only [World.size_alloc] at qw6
  have kw60 := fun o => hb.cell (p := ⟨w1.heap.size, o, none⟩) (by first | (show w1.heap.size < _; omega) | (show w1.heap.size < _; simp only [World.size_alloc]; omega))
  have pw60 : w1.heap.size < w6.heap.size := by omega
  have kw61 := fun o => hb.cell (p := ⟨w2.heap.size, o, none⟩) (by first | (show w2.heap.size < _; omega) | (show w2.heap.size < _; simp only [World.size_alloc]; omega))
  have pw61 : w2.heap.size < w6.heap.size := by omega
  have kw62 := fun o => hb.cell (p := ⟨w3.heap.size, o, none⟩) (by first | (show w3.heap.size < _; omega) | (show w3.heap.size < _; simp only [World.size_alloc]; omega))
  have pw62 : w3.heap.size < w6.heap.size := by omega
  clear hb
  go_wp2_with fail
  refine (rRight_yes l m r _ h).mono ?_
  rintro e w7 ⟨rfl, hb⟩
  have bw7 : Below w.heap.size w w7 := bl (by go_grown) hb
  have qw7 := hb.size
  try simp only [World.size_alloc] at qw7
  have kw70 := fun o => hb.cell (p := ⟨w1.heap.size, o, none⟩) (by first | (show w1.heap.size < _; omega) | (show w1.heap.size < _; simp only [World.size_alloc]; omega))
  have pw70 : w1.heap.size < w7.heap.size := by omega
  have kw71 := fun o => hb.cell (p := ⟨w2.heap.size, o, none⟩) (by first | (show w2.heap.size < _; omega) | (show w2.heap.size < _; simp only [World.size_alloc]; omega))
  have pw71 : w2.heap.size < w7.heap.size := by omega
  have kw72 := fun o => hb.cell (p := ⟨w3.heap.size, o, none⟩) (by first | (show w3.heap.size < _; omega) | (show w3.heap.size < _; simp only [World.size_alloc]; omega))
  have pw72 : w3.heap.size < w7.heap.size := by omega
  clear hb
  go_wp2_with fail
  go_region_with (first | (go_at_call 20; refine (rTick l m r _ h).mono ?_; rintro e w8 ⟨rfl, hb⟩; have bw8 : Below w.heap.size w w8 := bl (by go_grown) hb; have qw8 := hb.size; (try simp only [World.size_alloc, World.size_drew] at qw8); have kw80 := fun o => hb.cell (p := ⟨w2.heap.size, o, none⟩) (by first | (show w2.heap.size < _; omega) | (show w2.heap.size < _; simp only [World.size_alloc, World.size_drew]; omega)); have pw80 : w2.heap.size < w8.heap.size := (by omega); have kw81 := fun o => hb.cell (p := ⟨w3.heap.size, o, none⟩) (by first | (show w3.heap.size < _; omega) | (show w3.heap.size < _; simp only [World.size_alloc, World.size_drew]; omega)); have pw81 : w3.heap.size < w8.heap.size := (by omega); have kw82 := fun o => hb.cell (p := ⟨w1.heap.size, o, none⟩) (by first | (show w1.heap.size < _; omega) | (show w1.heap.size < _; simp only [World.size_alloc, World.size_drew]; omega)); have pw82 : w1.heap.size < w8.heap.size := (by omega); clear hb) | (go_at_call 12; refine (same_yes _ _ _ _).mono ?_; rintro e w9 ⟨rfl, hb⟩; have bw9 : Below w.heap.size w w9 := bl (by go_grown) hb; have qw9 := hb.size; (try simp only [World.size_alloc, World.size_drew] at qw9); have kw90 := fun o => hb.cell (p := ⟨w3.heap.size, o, none⟩) (by first | (show w3.heap.size < _; omega) | (show w3.heap.size < _; simp only [World.size_alloc, World.size_drew]; omega)); have pw90 : w3.heap.size < w9.heap.size := (by omega); have kw91 := fun o => hb.cell (p := ⟨w1.heap.size, o, none⟩) (by first | (show w1.heap.size < _; omega) | (show w1.heap.size < _; simp only [World.size_alloc, World.size_drew]; omega)); have pw91 : w1.heap.size < w9.heap.size := (by omega); clear hb))
  all_goals (
  go_wp2_with fail
  go_region_with (first | (go_at_call 21; refine (rAfter l m r t _ h ht ht').mono ?_; rintro e w11 ⟨rfl, hb⟩; have bw11 : Below w.heap.size w w11 := bl (by go_grown) hb; have qw11 := hb.size; (try simp only [World.size_alloc, World.size_drew] at qw11); have kw110 := fun o => hb.cell (p := ⟨w3.heap.size, o, none⟩) (by first | (show w3.heap.size < _; omega) | (show w3.heap.size < _; simp only [World.size_alloc, World.size_drew]; omega)); have pw110 : w3.heap.size < w11.heap.size := (by omega); have kw111 := fun o => hb.cell (p := ⟨w1.heap.size, o, none⟩) (by first | (show w1.heap.size < _; omega) | (show w1.heap.size < _; simp only [World.size_alloc, World.size_drew]; omega)); have pw111 : w1.heap.size < w11.heap.size := (by omega); clear hb) | (go_at_call 12; refine (same_yes _ _ _ _).mono ?_; rintro e w12 ⟨rfl, hb⟩; have bw12 : Below w.heap.size w w12 := bl (by go_grown) hb; have qw12 := hb.size; (try simp only [World.size_alloc, World.size_drew] at qw12); clear hb) | (go_at_call 11; refine (awake_any _).mono ?_; rintro e w13 ⟨rfl, hb⟩; have bw13 : Below w.heap.size w w13 := bl (by go_grown) hb; have qw13 := hb.size; (try simp only [World.size_alloc, World.size_drew] at qw13); clear hb))
  all_goals go_wp2
  all_goals go_ret
  all_goals exact ⟨rfl, by go_grown⟩
  )

theorem pTurns (l m r t n : Int) (ht' : t ≤ 9223372036854775807) (w : World) :
    Calls Try.prog 5 #[P3 l m r, .int .i64 t, .int .i64 n] w fun e w' => e = .returned (.bool true) ∧ Below w.heap.size w w' := by
  by_cases h : Rt l m r
  · by_cases ht : t < 0
    · exact pTurns_neg l m r t n h ht w
    · exact pTurns_yes l m r t n h (by omega) ht' w
  · exact pTurns_no l m r t n h w

end Go.Proofs.Ytefinnlnkilmpaa
