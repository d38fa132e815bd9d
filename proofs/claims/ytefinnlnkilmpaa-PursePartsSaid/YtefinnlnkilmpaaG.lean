/- The walk of the law PurseParts: for every input it returns true, and writes to new memory alone. No condition. -/
import Derived.Test.YtefinnlnkilmpaaF
namespace Go.Proofs.Ytefinnlnkilmpaa
open Go.RowKit

set_option maxHeartbeats 1000000 in
theorem pParts_no (l m r x y : Int) (h : ¬ Rt l m r) (w : World) :
    Calls Try.prog 8 #[P3 l m r, .agg #[.int .i64 x, .int .i64 y]] w fun e w' => e = .returned (.bool true) ∧ Below w.heap.size w w' := by
  go_enter Try.func8, Try.ntmps8
  go_wp2_with fail
  refine (spend_no l m r x h _).mono ?_
  rintro e w1 ⟨rfl, hb⟩
  have bw1 : Below w.heap.size w w1 := bl (by go_grown) hb
  have qw1 := hb.size
  try simp only [World.size_alloc] at qw1
  have kw10 := fun o => hb.cell (p := ⟨w.heap.size + 1, o, none⟩) (by first | (show w.heap.size + 1 < _; omega) | (show w.heap.size + 1 < _; simp only [World.size_alloc]; omega))
  have pw10 : w.heap.size + 1 < w1.heap.size := by omega
  clear hb
  go_wp2_with fail
  refine (awake_any _).mono ?_
  rintro e w9 ⟨rfl, hb⟩
  have bw9 : Below w.heap.size w w9 := bl (by go_grown) hb
  go_wp2
  go_ret
  exact ⟨rfl, by go_grown⟩

set_option maxHeartbeats 1000000 in
theorem pParts_neg (l m r x y : Int) (h : Rt l m r) (hx : x < 0) (w : World) :
    Calls Try.prog 8 #[P3 l m r, .agg #[.int .i64 x, .int .i64 y]] w fun e w' => e = .returned (.bool true) ∧ Below w.heap.size w w' := by
  go_enter Try.func8, Try.ntmps8
  go_wp2_with fail
  refine (spend_neg l m r x h hx _).mono ?_
  rintro e w1 ⟨rfl, hb⟩
  have bw1 : Below w.heap.size w w1 := bl (by go_grown) hb
  have qw1 := hb.size
  try simp only [World.size_alloc] at qw1
  have kw10 := fun o => hb.cell (p := ⟨w.heap.size + 1, o, none⟩) (by first | (show w.heap.size + 1 < _; omega) | (show w.heap.size + 1 < _; simp only [World.size_alloc]; omega))
  have pw10 : w.heap.size + 1 < w1.heap.size := by omega
  clear hb
  go_wp2_with fail
  refine (awake_any _).mono ?_
  rintro e w9 ⟨rfl, hb⟩
  have bw9 : Below w.heap.size w w9 := bl (by go_grown) hb
  go_wp2
  go_ret
  exact ⟨rfl, by go_grown⟩

set_option maxHeartbeats 1000000 in
theorem pParts_over (l m r x y : Int) (h : Rt l m r) (hx : l < x) (w : World) :
    Calls Try.prog 8 #[P3 l m r, .agg #[.int .i64 x, .int .i64 y]] w fun e w' => e = .returned (.bool true) ∧ Below w.heap.size w w' := by
  go_enter Try.func8, Try.ntmps8
  go_wp2_with fail
  refine (spend_over l m r x h hx _).mono ?_
  rintro e w1 ⟨rfl, hb⟩
  have bw1 : Below w.heap.size w w1 := bl (by go_grown) hb
  have qw1 := hb.size
  try simp only [World.size_alloc] at qw1
  have kw10 := fun o => hb.cell (p := ⟨w.heap.size + 1, o, none⟩) (by first | (show w.heap.size + 1 < _; omega) | (show w.heap.size + 1 < _; simp only [World.size_alloc]; omega))
  have pw10 : w.heap.size + 1 < w1.heap.size := by omega
  clear hb
  go_wp2_with fail
  refine (awake_any _).mono ?_
  rintro e w9 ⟨rfl, hb⟩
  have bw9 : Below w.heap.size w w9 := bl (by go_grown) hb
  go_wp2
  go_ret
  exact ⟨rfl, by go_grown⟩

set_option maxHeartbeats 1000000 in
theorem pParts_out (l m r x y : Int) (h : Rt l m r) (hx : 0 ≤ x) (hl : x ≤ l) (hy : y < 0 ∨ 1048576 < y) (w : World) :
    Calls Try.prog 8 #[P3 l m r, .agg #[.int .i64 x, .int .i64 y]] w fun e w' => e = .returned (.bool true) ∧ Below w.heap.size w w' := by
  obtain ⟨h1, h2, h3, h4, h5, h6⟩ := id h
  go_enter Try.func8, Try.ntmps8
  rcases hy with hy | hy
  all_goals (
    go_wp2_with fail
    refine (spend_yes l m r x h hx hl _).mono ?_
    rintro e w1 ⟨rfl, hb⟩
    have bw1 : Below w.heap.size w w1 := bl (by go_grown) hb
    have qw1 := hb.size
    try simp only [World.size_alloc] at qw1
    have kw10 := fun o => hb.cell (p := ⟨w.heap.size + 1, o, none⟩) (by first | (show w.heap.size + 1 < _; omega) | (show w.heap.size + 1 < _; simp only [World.size_alloc]; omega))
    have pw10 : w.heap.size + 1 < w1.heap.size := by omega
    clear hb
    go_wp2_with fail
    refine (awake_any _).mono ?_
    rintro e w9 ⟨rfl, hb⟩
    have bw9 : Below w.heap.size w w9 := bl (by go_grown) hb
    go_wp2
    go_ret
    exact ⟨rfl, by go_grown⟩
  )

set_option maxHeartbeats 1000000 in
theorem pParts_yes (l m r x y : Int) (h : Rt l m r) (hx : 0 ≤ x) (hl : x ≤ l) (hy : 0 ≤ y) (hy2 : y ≤ 1048576) (hxy : x + y ≤ l) (w : World) :
    Calls Try.prog 8 #[P3 l m r, .agg #[.int .i64 x, .int .i64 y]] w fun e w' => e = .returned (.bool true) ∧ Below w.heap.size w w' := by
  obtain ⟨h1, h2, h3, h4, h5, h6⟩ := id h
  obtain ⟨b1, b2⟩ := lat_bd (t := 1) h4 h5 (by omega)
  have hT : Rt (lat l m r 1) m r := ⟨h1, h2, by omega, b2, h5, h6⟩
  have hS : Rt (l - x) m r := ⟨h1, h2, by omega, by omega, h5, h6⟩
  have hx2 : x ≤ lat l m r 1 := by omega
  have hle : lat l m r 1 - x ≤ lat (l - x) m r 1 := by unfold lat; rw [Int.mul_one]; omega
  have heq : l - (x + y) = l - x - y := by omega
  go_enter Try.func8, Try.ntmps8
  go_wp2_with fail
  refine (spend_yes l m r x h hx hl _).mono ?_
  rintro e w1 ⟨rfl, hb⟩
  have bw1 : Below w.heap.size w w1 := bl (by go_grown) hb
  have qw1 := hb.size
  try simp only [World.size_alloc] at qw1
  have kw10 := fun o => hb.cell (p := ⟨w.heap.size, o, none⟩) (by first | (show w.heap.size < _; omega) | (show w.heap.size < _; simp only [World.size_alloc]; omega))
  have pw10 : w.heap.size < w1.heap.size := by omega
  have kw11 := fun o => hb.cell (p := ⟨w.heap.size + 1, o, none⟩) (by first | (show w.heap.size + 1 < _; omega) | (show w.heap.size + 1 < _; simp only [World.size_alloc]; omega))
  have pw11 : w.heap.size + 1 < w1.heap.size := by omega
  clear hb
  go_wp2_with fail
  refine (spend_yes (l - x) m r y hS hy (by omega) _).mono ?_
  rintro e w2 ⟨rfl, hb⟩
  have bw2 : Below w.heap.size w w2 := bl (by go_grown) hb
  have qw2 := hb.size
  try simp only [World.size_alloc] at qw2
  have kw20 := fun o => hb.cell (p := ⟨w.heap.size, o, none⟩) (by first | (show w.heap.size < _; omega) | (show w.heap.size < _; simp only [World.size_alloc]; omega))
  have pw20 : w.heap.size < w2.heap.size := by omega
  have kw21 := fun o => hb.cell (p := ⟨w.heap.size + 1, o, none⟩) (by first | (show w.heap.size + 1 < _; omega) | (show w.heap.size + 1 < _; simp only [World.size_alloc]; omega))
  have pw21 : w.heap.size + 1 < w2.heap.size := by omega
  have kw22 := fun o => hb.cell (p := ⟨w1.heap.size, o, none⟩) (by first | (show w1.heap.size < _; omega) | (show w1.heap.size < _; simp only [World.size_alloc]; omega))
  have pw22 : w1.heap.size < w2.heap.size := by omega
  clear hb
  go_wp2_with fail
  refine (spend_yes l m r (x + y) h (by omega) hxy _).mono ?_
  rintro e w3 ⟨rfl, hb⟩
  have bw3 : Below w.heap.size w w3 := bl (by go_grown) hb
  have qw3 := hb.size
  try simp only [World.size_alloc] at qw3
  have kw30 := fun o => hb.cell (p := ⟨w.heap.size, o, none⟩) (by first | (show w.heap.size < _; omega) | (show w.heap.size < _; simp only [World.size_alloc]; omega))
  have pw30 : w.heap.size < w3.heap.size := by omega
  have kw31 := fun o => hb.cell (p := ⟨w.heap.size + 1, o, none⟩) (by first | (show w.heap.size + 1 < _; omega) | (show w.heap.size + 1 < _; simp only [World.size_alloc]; omega))
  have pw31 : w.heap.size + 1 < w3.heap.size := by omega
  have kw32 := fun o => hb.cell (p := ⟨w1.heap.size, o, none⟩) (by first | (show w1.heap.size < _; omega) | (show w1.heap.size < _; simp only [World.size_alloc]; omega))
  have pw32 : w1.heap.size < w3.heap.size := by omega
  have kw33 := fun o => hb.cell (p := ⟨w2.heap.size, o, none⟩) (by first | (show w2.heap.size < _; omega) | (show w2.heap.size < _; simp only [World.size_alloc]; omega))
  have pw33 : w2.heap.size < w3.heap.size := by omega
  clear hb
  go_wp2_with fail
  refine (tick_yes l m r h _).mono ?_
  rintro e w4 ⟨rfl, hb⟩
  have bw4 : Below w.heap.size w w4 := bl (by go_grown) hb
  have qw4 := hb.size
  try simp only [World.size_alloc] at qw4
  have kw40 := fun o => hb.cell (p := ⟨w.heap.size, o, none⟩) (by first | (show w.heap.size < _; omega) | (show w.heap.size < _; simp only [World.size_alloc]; omega))
  have pw40 : w.heap.size < w4.heap.size := by omega
  have kw41 := fun o => hb.cell (p := ⟨w.heap.size + 1, o, none⟩) (by first | (show w.heap.size + 1 < _; omega) | (show w.heap.size + 1 < _; simp only [World.size_alloc]; omega))
  have pw41 : w.heap.size + 1 < w4.heap.size := by omega
  have kw42 := fun o => hb.cell (p := ⟨w1.heap.size, o, none⟩) (by first | (show w1.heap.size < _; omega) | (show w1.heap.size < _; simp only [World.size_alloc]; omega))
  have pw42 : w1.heap.size < w4.heap.size := by omega
  clear hb
  go_wp2_with fail
  refine (spend_yes (lat l m r 1) m r x hT hx hx2 _).mono ?_
  rintro e w5 ⟨rfl, hb⟩
  have bw5 : Below w.heap.size w w5 := bl (by go_grown) hb
  have qw5 := hb.size
  try simp only [World.size_alloc] at qw5
  have kw50 := fun o => hb.cell (p := ⟨w1.heap.size, o, none⟩) (by first | (show w1.heap.size < _; omega) | (show w1.heap.size < _; simp only [World.size_alloc]; omega))
  have pw50 : w1.heap.size < w5.heap.size := by omega
  clear hb
  go_wp2_with fail
  refine (tick_yes (l - x) m r hS _).mono ?_
  rintro e w6 ⟨rfl, hb⟩
  have bw6 : Below w.heap.size w w6 := bl (by go_grown) hb
  have qw6 := hb.size
  try simp only [World.size_alloc] at qw6
  have kw60 := fun o => hb.cell (p := ⟨w5.heap.size, o, none⟩) (by first | (show w5.heap.size < _; omega) | (show w5.heap.size < _; simp only [World.size_alloc]; omega))
  have pw60 : w5.heap.size < w6.heap.size := by omega
  clear hb
  go_wp2_with fail
  refine (awake_any _).mono ?_
  rintro e w7 ⟨rfl, hb⟩
  have bw7 : Below w.heap.size w w7 := bl (by go_grown) hb
  have qw7 := hb.size
  try simp only [World.size_alloc] at qw7
  clear hb
  go_wp2
  go_ret
  exact ⟨rfl, by go_grown⟩

set_option maxHeartbeats 1000000 in
theorem pParts_more (l m r x y : Int) (h : Rt l m r) (hx : 0 ≤ x) (hl : x ≤ l) (hy : 0 ≤ y) (hy2 : y ≤ 1048576) (hxy : l < x + y) (w : World) :
    Calls Try.prog 8 #[P3 l m r, .agg #[.int .i64 x, .int .i64 y]] w fun e w' => e = .returned (.bool true) ∧ Below w.heap.size w w' := by
  obtain ⟨h1, h2, h3, h4, h5, h6⟩ := id h
  obtain ⟨b1, b2⟩ := lat_bd (t := 1) h4 h5 (by omega)
  have hT : Rt (lat l m r 1) m r := ⟨h1, h2, by omega, b2, h5, h6⟩
  have hS : Rt (l - x) m r := ⟨h1, h2, by omega, by omega, h5, h6⟩
  have hx2 : x ≤ lat l m r 1 := by omega
  have hle : lat l m r 1 - x ≤ lat (l - x) m r 1 := by unfold lat; rw [Int.mul_one]; omega
  go_enter Try.func8, Try.ntmps8
  go_wp2_with fail
  refine (spend_yes l m r x h hx hl _).mono ?_
  rintro e w1 ⟨rfl, hb⟩
  have bw1 : Below w.heap.size w w1 := bl (by go_grown) hb
  have qw1 := hb.size
  try simp only [World.size_alloc] at qw1
  have kw10 := fun o => hb.cell (p := ⟨w.heap.size, o, none⟩) (by first | (show w.heap.size < _; omega) | (show w.heap.size < _; simp only [World.size_alloc]; omega))
  have pw10 : w.heap.size < w1.heap.size := by omega
  have kw11 := fun o => hb.cell (p := ⟨w.heap.size + 1, o, none⟩) (by first | (show w.heap.size + 1 < _; omega) | (show w.heap.size + 1 < _; simp only [World.size_alloc]; omega))
  have pw11 : w.heap.size + 1 < w1.heap.size := by omega
  clear hb
  go_wp2_with fail
  refine (spend_over (l - x) m r y hS (by omega) _).mono ?_
  rintro e w2 ⟨rfl, hb⟩
  have bw2 : Below w.heap.size w w2 := bl (by go_grown) hb
  have qw2 := hb.size
  try simp only [World.size_alloc] at qw2
  have kw20 := fun o => hb.cell (p := ⟨w.heap.size, o, none⟩) (by first | (show w.heap.size < _; omega) | (show w.heap.size < _; simp only [World.size_alloc]; omega))
  have pw20 : w.heap.size < w2.heap.size := by omega
  have kw21 := fun o => hb.cell (p := ⟨w.heap.size + 1, o, none⟩) (by first | (show w.heap.size + 1 < _; omega) | (show w.heap.size + 1 < _; simp only [World.size_alloc]; omega))
  have pw21 : w.heap.size + 1 < w2.heap.size := by omega
  have kw22 := fun o => hb.cell (p := ⟨w1.heap.size, o, none⟩) (by first | (show w1.heap.size < _; omega) | (show w1.heap.size < _; simp only [World.size_alloc]; omega))
  have pw22 : w1.heap.size < w2.heap.size := by omega
  clear hb
  go_wp2_with fail
  refine (spend_over l m r (x + y) h (by omega) _).mono ?_
  rintro e w3 ⟨rfl, hb⟩
  have bw3 : Below w.heap.size w w3 := bl (by go_grown) hb
  have qw3 := hb.size
  try simp only [World.size_alloc] at qw3
  have kw30 := fun o => hb.cell (p := ⟨w.heap.size, o, none⟩) (by first | (show w.heap.size < _; omega) | (show w.heap.size < _; simp only [World.size_alloc]; omega))
  have pw30 : w.heap.size < w3.heap.size := by omega
  have kw31 := fun o => hb.cell (p := ⟨w.heap.size + 1, o, none⟩) (by first | (show w.heap.size + 1 < _; omega) | (show w.heap.size + 1 < _; simp only [World.size_alloc]; omega))
  have pw31 : w.heap.size + 1 < w3.heap.size := by omega
  have kw32 := fun o => hb.cell (p := ⟨w1.heap.size, o, none⟩) (by first | (show w1.heap.size < _; omega) | (show w1.heap.size < _; simp only [World.size_alloc]; omega))
  have pw32 : w1.heap.size < w3.heap.size := by omega
  have kw33 := fun o => hb.cell (p := ⟨w2.heap.size, o, none⟩) (by first | (show w2.heap.size < _; omega) | (show w2.heap.size < _; simp only [World.size_alloc]; omega))
  have pw33 : w2.heap.size < w3.heap.size := by omega
  clear hb
  go_wp2_with fail
  refine (tick_yes l m r h _).mono ?_
  rintro e w4 ⟨rfl, hb⟩
  have bw4 : Below w.heap.size w w4 := bl (by go_grown) hb
  have qw4 := hb.size
  try simp only [World.size_alloc] at qw4
  have kw40 := fun o => hb.cell (p := ⟨w.heap.size, o, none⟩) (by first | (show w.heap.size < _; omega) | (show w.heap.size < _; simp only [World.size_alloc]; omega))
  have pw40 : w.heap.size < w4.heap.size := by omega
  have kw41 := fun o => hb.cell (p := ⟨w.heap.size + 1, o, none⟩) (by first | (show w.heap.size + 1 < _; omega) | (show w.heap.size + 1 < _; simp only [World.size_alloc]; omega))
  have pw41 : w.heap.size + 1 < w4.heap.size := by omega
  have kw42 := fun o => hb.cell (p := ⟨w1.heap.size, o, none⟩) (by first | (show w1.heap.size < _; omega) | (show w1.heap.size < _; simp only [World.size_alloc]; omega))
  have pw42 : w1.heap.size < w4.heap.size := by omega
  clear hb
  go_wp2_with fail
  refine (spend_yes (lat l m r 1) m r x hT hx hx2 _).mono ?_
  rintro e w5 ⟨rfl, hb⟩
  have bw5 : Below w.heap.size w w5 := bl (by go_grown) hb
  have qw5 := hb.size
  try simp only [World.size_alloc] at qw5
  have kw50 := fun o => hb.cell (p := ⟨w1.heap.size, o, none⟩) (by first | (show w1.heap.size < _; omega) | (show w1.heap.size < _; simp only [World.size_alloc]; omega))
  have pw50 : w1.heap.size < w5.heap.size := by omega
  clear hb
  go_wp2_with fail
  refine (tick_yes (l - x) m r hS _).mono ?_
  rintro e w6 ⟨rfl, hb⟩
  have bw6 : Below w.heap.size w w6 := bl (by go_grown) hb
  have qw6 := hb.size
  try simp only [World.size_alloc] at qw6
  have kw60 := fun o => hb.cell (p := ⟨w5.heap.size, o, none⟩) (by first | (show w5.heap.size < _; omega) | (show w5.heap.size < _; simp only [World.size_alloc]; omega))
  have pw60 : w5.heap.size < w6.heap.size := by omega
  clear hb
  go_wp2_with fail
  refine (awake_any _).mono ?_
  rintro e w7 ⟨rfl, hb⟩
  have bw7 : Below w.heap.size w w7 := bl (by go_grown) hb
  have qw7 := hb.size
  try simp only [World.size_alloc] at qw7
  clear hb
  go_wp2
  go_ret
  exact ⟨rfl, by go_grown⟩

theorem pParts (l m r x y : Int) (w : World) :
    Calls Try.prog 8 #[P3 l m r, .agg #[.int .i64 x, .int .i64 y]] w fun e w' => e = .returned (.bool true) ∧ Below w.heap.size w w' := by
  by_cases h : Rt l m r
  · by_cases hx : x < 0
    · exact pParts_neg l m r x y h hx w
    · by_cases hl : x ≤ l
      · by_cases hy : 0 ≤ y ∧ y ≤ 1048576
        · by_cases hxy : x + y ≤ l
          · exact pParts_yes l m r x y h (by omega) hl hy.1 hy.2 hxy w
          · exact pParts_more l m r x y h (by omega) hl hy.1 hy.2 (by omega) w
        · exact pParts_out l m r x y h (by omega) hl (by omega) w
      · exact pParts_over l m r x y h (by omega) w
  · exact pParts_no l m r x y h w

theorem pTurnsW (l m r t n : Int) (_ : (Lit.int .i64 l).wf = true) (_ : (Lit.int .i64 m).wf = true) (_ : (Lit.int .i64 r).wf = true) (ht : (Lit.int .i64 t).wf = true) (_ : (Lit.int .i64 n).wf = true) (w : World) :
    Calls Try.prog 5 #[P3 l m r, .int .i64 t, .int .i64 n] w fun e w' => e = .returned (.bool true) ∧ Below w.heap.size w w' := by
  refine pTurns l m r t n ?_ w
  simp only [Lit.wf, Bool.and_eq_true, decide_eq_true_eq] at ht
  exact ht.2

end Go.Proofs.Ytefinnlnkilmpaa
