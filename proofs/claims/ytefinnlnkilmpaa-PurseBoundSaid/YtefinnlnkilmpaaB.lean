/- The contracts of the exported functions of package purse: what each returns, a theorem a way through; each writes to new memory alone. Conditions stand in each statement. -/
import Derived.Test.YtefinnlnkilmpaaA
namespace Go.Proofs.Ytefinnlnkilmpaa
open Go.RowKit

set_option maxHeartbeats 400000 in
theorem may_no (l m r n : Int) (f : Value) (h : ¬ Rt l m r) (w : World) :
    Calls Try.prog 23 #[P3 l m r, .int .i64 n, f] w fun e w' => e = .returned (.tuple #[P3 0 0 0, .int .i64 1]) ∧ Below w.heap.size w w' := by
  go_enter Try.func23, Try.ntmps23
  go_wp2_with (first | (go_at_call 22; refine (right_no l m r _ h).mono ?_; rintro e w1 ⟨rfl, hb⟩; have hb1 : Below w.heap.size w w1 := bl (by go_grown) hb; have hz := hb.size; obtain ⟨hc, hf⟩ := bcell hb; have HB := Lib.hid hb; clear hb; (try simp only [World.size_alloc] at hz); have q0 : w.heap.size < w1.heap.size := (by omega); have k0 := fun o => hc (w.heap.size) o (by first | omega | (simp only [World.size_alloc]; omega)); have q1 : w.heap.size + 1 < w1.heap.size := (by omega); have k1 := fun o => hc (w.heap.size + 1) o (by first | omega | (simp only [World.size_alloc]; omega))))
  refine bodyPost_ret (v := .tuple #[P3 0 0 0, .int .i64 1]) (by simp [results, Try.results23, go_sem, *]) rfl ?_
  exact ⟨rfl, by go_grown⟩

set_option maxHeartbeats 400000 in
theorem may_neg (l m r n : Int) (f : Value) (h : Rt l m r) (hn : n < 0) (w : World) :
    Calls Try.prog 23 #[P3 l m r, .int .i64 n, f] w fun e w' => e = .returned (.tuple #[P3 0 0 0, .int .i64 10]) ∧ Below w.heap.size w w' := by
  go_enter Try.func23, Try.ntmps23
  go_wp2_with (first | (go_at_call 22; refine (right_yes l m r _ h).mono ?_; rintro e w1 ⟨rfl, hb⟩; have hb1 : Below w.heap.size w w1 := bl (by go_grown) hb; have hz := hb.size; obtain ⟨hc, hf⟩ := bcell hb; have HB := Lib.hid hb; clear hb; (try simp only [World.size_alloc] at hz); have q0 : w.heap.size < w1.heap.size := (by omega); have k0 := fun o => hc (w.heap.size) o (by first | omega | (simp only [World.size_alloc]; omega)); have q1 : w.heap.size + 1 < w1.heap.size := (by omega); have k1 := fun o => hc (w.heap.size + 1) o (by first | omega | (simp only [World.size_alloc]; omega))))
  refine bodyPost_ret (v := .tuple #[P3 0 0 0, .int .i64 10]) (by simp [results, Try.results23, go_sem, *]) rfl ?_
  exact ⟨rfl, by go_grown⟩

set_option maxHeartbeats 400000 in
theorem may_later (l m r n : Int) (h : Rt l m r) (hn : 0 ≤ n) (hn' : n ≤ 9223372036854775807) (w : World) :
    Calls Try.prog 23 #[P3 l m r, .int .i64 n, .func (.func 24) #[] #[]] w fun e w' => e = .returned (.tuple #[P3 (lat l m r n) m r, .int .i64 0]) ∧ Below w.heap.size w w' := by
  have hL := (lat_bd (t := n) h.2.2.2.1 h.2.2.2.2.1 hn).1
  have hl := h.2.2.1
  have hne : (lat l m r n == -1) = false := by simp; omega
  clear hL hl
  go_enter Try.func23, Try.ntmps23
  go_wp2_with (first | (go_at_call 22; refine (right_yes l m r _ h).mono ?_; rintro e w1 ⟨rfl, hb⟩; have hb1 : Below w.heap.size w w1 := bl (by go_grown) hb; have hz := hb.size; obtain ⟨hc, hf⟩ := bcell hb; have HB := Lib.hid hb; clear hb; (try simp only [World.size_alloc] at hz); have q0 : w.heap.size < w1.heap.size := (by omega); have k0 := fun o => hc (w.heap.size) o (by first | omega | (simp only [World.size_alloc]; omega)); have q1 : w.heap.size + 1 < w1.heap.size := (by omega); have k1 := fun o => hc (w.heap.size + 1) o (by first | omega | (simp only [World.size_alloc]; omega))) | (go_at_call 24; refine (later_any l m r n _ h hn hn').mono ?_; rintro e w1 ⟨rfl, hb⟩; have hb1 : Below w.heap.size w w1 := bl (by go_grown) hb; have hz := hb.size; obtain ⟨hc, hf⟩ := bcell hb; have HB := Lib.hid hb; clear hb; (try simp only [World.size_alloc] at hz); have q0 : w.heap.size < w1.heap.size := (by omega); have k0 := fun o => hc (w.heap.size) o (by first | omega | (simp only [World.size_alloc]; omega)); have q1 : w.heap.size + 1 < w1.heap.size := (by omega); have k1 := fun o => hc (w.heap.size + 1) o (by first | omega | (simp only [World.size_alloc]; omega))))
  refine bodyPost_ret (v := .tuple #[P3 (lat l m r n) m r, .int .i64 0]) (by simp [results, Try.results23, go_sem, *]) rfl ?_
  exact ⟨rfl, by go_grown⟩

set_option maxHeartbeats 400000 in
theorem may_over (l m r n : Int) (h : Rt l m r) (hn : l < n) (w : World) :
    Calls Try.prog 23 #[P3 l m r, .int .i64 n, .func (.func 25) #[] #[]] w fun e w' => e = .returned (.tuple #[P3 0 0 0, .int .i64 23]) ∧ Below w.heap.size w w' := by
  have hl := h.2.2.1
  go_enter Try.func23, Try.ntmps23
  go_wp2_with (first | (go_at_call 22; refine (right_yes l m r _ h).mono ?_; rintro e w1 ⟨rfl, hb⟩; have hb1 : Below w.heap.size w w1 := bl (by go_grown) hb; have hz := hb.size; obtain ⟨hc, hf⟩ := bcell hb; have HB := Lib.hid hb; clear hb; (try simp only [World.size_alloc] at hz); have q0 : w.heap.size < w1.heap.size := (by omega); have k0 := fun o => hc (w.heap.size) o (by first | omega | (simp only [World.size_alloc]; omega)); have q1 : w.heap.size + 1 < w1.heap.size := (by omega); have k1 := fun o => hc (w.heap.size + 1) o (by first | omega | (simp only [World.size_alloc]; omega))) | (go_at_call 25; refine (less_no l m r n _ hn).mono ?_; rintro e w1 ⟨rfl, hb⟩; have hb1 : Below w.heap.size w w1 := bl (by go_grown) hb; have hz := hb.size; obtain ⟨hc, hf⟩ := bcell hb; have HB := Lib.hid hb; clear hb; (try simp only [World.size_alloc] at hz); have q0 : w.heap.size < w1.heap.size := (by omega); have k0 := fun o => hc (w.heap.size) o (by first | omega | (simp only [World.size_alloc]; omega)); have q1 : w.heap.size + 1 < w1.heap.size := (by omega); have k1 := fun o => hc (w.heap.size + 1) o (by first | omega | (simp only [World.size_alloc]; omega))))
  refine bodyPost_ret (v := .tuple #[P3 0 0 0, .int .i64 23]) (by simp [results, Try.results23, go_sem, *]) rfl ?_
  exact ⟨rfl, by go_grown⟩

set_option maxHeartbeats 400000 in
theorem may_less (l m r n : Int) (h : Rt l m r) (hn : 0 ≤ n) (hl : n ≤ l) (w : World) :
    Calls Try.prog 23 #[P3 l m r, .int .i64 n, .func (.func 25) #[] #[]] w fun e w' => e = .returned (.tuple #[P3 (l - n) m r, .int .i64 0]) ∧ Below w.heap.size w w' := by
  have hl2 : l ≤ 9223372036854775807 := by have := h.2.1; have := h.2.2.2.1; omega
  have hne : (l - n == -1) = false := by simp; omega
  go_enter Try.func23, Try.ntmps23
  go_wp2_with (first | (go_at_call 22; refine (right_yes l m r _ h).mono ?_; rintro e w1 ⟨rfl, hb⟩; have hb1 : Below w.heap.size w w1 := bl (by go_grown) hb; have hz := hb.size; obtain ⟨hc, hf⟩ := bcell hb; have HB := Lib.hid hb; clear hb; (try simp only [World.size_alloc] at hz); have q0 : w.heap.size < w1.heap.size := (by omega); have k0 := fun o => hc (w.heap.size) o (by first | omega | (simp only [World.size_alloc]; omega)); have q1 : w.heap.size + 1 < w1.heap.size := (by omega); have k1 := fun o => hc (w.heap.size + 1) o (by first | omega | (simp only [World.size_alloc]; omega))) | (go_at_call 25; refine (less_yes l m r n _ hn hl hl2).mono ?_; rintro e w1 ⟨rfl, hb⟩; have hb1 : Below w.heap.size w w1 := bl (by go_grown) hb; have hz := hb.size; obtain ⟨hc, hf⟩ := bcell hb; have HB := Lib.hid hb; clear hb; (try simp only [World.size_alloc] at hz); have q0 : w.heap.size < w1.heap.size := (by omega); have k0 := fun o => hc (w.heap.size) o (by first | omega | (simp only [World.size_alloc]; omega)); have q1 : w.heap.size + 1 < w1.heap.size := (by omega); have k1 := fun o => hc (w.heap.size + 1) o (by first | omega | (simp only [World.size_alloc]; omega))))
  refine bodyPost_ret (v := .tuple #[P3 (l - n) m r, .int .i64 0]) (by simp [results, Try.results23, go_sem, *]) rfl ?_
  exact ⟨rfl, by go_grown⟩

set_option maxHeartbeats 400000 in
theorem tick_no (l m r : Int) (h : ¬ Rt l m r) (w : World) :
    Calls Try.prog 16 #[P3 l m r] w fun e w' => e = .returned (.tuple #[P3 0 0 0, .int .i64 1]) ∧ Below w.heap.size w w' := by
  go_enter Try.func16, Try.ntmps16
  go_wp2_with (first | (go_at_call 23; refine (may_no l m r 1 _ h _).mono ?_; rintro e w1 ⟨rfl, hb⟩; have hb1 : Below w.heap.size w w1 := bl (by go_grown) hb; have hz := hb.size; obtain ⟨hc, hf⟩ := bcell hb; have HB := Lib.hid hb; clear hb; (try simp only [World.size_alloc] at hz); have q0 : w.heap.size < w1.heap.size := (by omega); have k0 := fun o => hc (w.heap.size) o (by first | omega | (simp only [World.size_alloc]; omega)); have q1 : w.heap.size + 1 < w1.heap.size := (by omega); have k1 := fun o => hc (w.heap.size + 1) o (by first | omega | (simp only [World.size_alloc]; omega))))
  refine bodyPost_ret (v := .tuple #[P3 0 0 0, .int .i64 1]) (by simp [results, Try.results16, go_sem, *]) rfl ?_
  exact ⟨rfl, by go_grown⟩

set_option maxHeartbeats 400000 in
theorem tick_yes (l m r : Int) (h : Rt l m r) (w : World) :
    Calls Try.prog 16 #[P3 l m r] w fun e w' => e = .returned (.tuple #[P3 (lat l m r 1) m r, .int .i64 0]) ∧ Below w.heap.size w w' := by
  go_enter Try.func16, Try.ntmps16
  go_wp2_with (first | (go_at_call 23; refine (may_later l m r 1 h (by omega) (by omega) _).mono ?_; rintro e w1 ⟨rfl, hb⟩; have hb1 : Below w.heap.size w w1 := bl (by go_grown) hb; have hz := hb.size; obtain ⟨hc, hf⟩ := bcell hb; have HB := Lib.hid hb; clear hb; (try simp only [World.size_alloc] at hz); have q0 : w.heap.size < w1.heap.size := (by omega); have k0 := fun o => hc (w.heap.size) o (by first | omega | (simp only [World.size_alloc]; omega)); have q1 : w.heap.size + 1 < w1.heap.size := (by omega); have k1 := fun o => hc (w.heap.size + 1) o (by first | omega | (simp only [World.size_alloc]; omega))))
  refine bodyPost_ret (v := .tuple #[P3 (lat l m r 1) m r, .int .i64 0]) (by simp [results, Try.results16, go_sem, *]) rfl ?_
  exact ⟨rfl, by go_grown⟩

set_option maxHeartbeats 400000 in
theorem after_no (l m r n : Int) (h : ¬ Rt l m r) (w : World) :
    Calls Try.prog 17 #[P3 l m r, .int .i64 n] w fun e w' => e = .returned (.tuple #[P3 0 0 0, .int .i64 1]) ∧ Below w.heap.size w w' := by
  go_enter Try.func17, Try.ntmps17
  go_wp2_with (first | (go_at_call 23; refine (may_no l m r n _ h _).mono ?_; rintro e w1 ⟨rfl, hb⟩; have hb1 : Below w.heap.size w w1 := bl (by go_grown) hb; have hz := hb.size; obtain ⟨hc, hf⟩ := bcell hb; have HB := Lib.hid hb; clear hb; (try simp only [World.size_alloc] at hz); have q0 : w.heap.size < w1.heap.size := (by omega); have k0 := fun o => hc (w.heap.size) o (by first | omega | (simp only [World.size_alloc]; omega)); have q1 : w.heap.size + 1 < w1.heap.size := (by omega); have k1 := fun o => hc (w.heap.size + 1) o (by first | omega | (simp only [World.size_alloc]; omega))))
  refine bodyPost_ret (v := .tuple #[P3 0 0 0, .int .i64 1]) (by simp [results, Try.results17, go_sem, *]) rfl ?_
  exact ⟨rfl, by go_grown⟩

set_option maxHeartbeats 400000 in
theorem after_neg (l m r n : Int) (h : Rt l m r) (hn : n < 0) (w : World) :
    Calls Try.prog 17 #[P3 l m r, .int .i64 n] w fun e w' => e = .returned (.tuple #[P3 0 0 0, .int .i64 10]) ∧ Below w.heap.size w w' := by
  go_enter Try.func17, Try.ntmps17
  go_wp2_with (first | (go_at_call 23; refine (may_neg l m r n _ h hn _).mono ?_; rintro e w1 ⟨rfl, hb⟩; have hb1 : Below w.heap.size w w1 := bl (by go_grown) hb; have hz := hb.size; obtain ⟨hc, hf⟩ := bcell hb; have HB := Lib.hid hb; clear hb; (try simp only [World.size_alloc] at hz); have q0 : w.heap.size < w1.heap.size := (by omega); have k0 := fun o => hc (w.heap.size) o (by first | omega | (simp only [World.size_alloc]; omega)); have q1 : w.heap.size + 1 < w1.heap.size := (by omega); have k1 := fun o => hc (w.heap.size + 1) o (by first | omega | (simp only [World.size_alloc]; omega))))
  refine bodyPost_ret (v := .tuple #[P3 0 0 0, .int .i64 10]) (by simp [results, Try.results17, go_sem, *]) rfl ?_
  exact ⟨rfl, by go_grown⟩

set_option maxHeartbeats 400000 in
theorem after_yes (l m r n : Int) (h : Rt l m r) (hn : 0 ≤ n) (hn' : n ≤ 9223372036854775807) (w : World) :
    Calls Try.prog 17 #[P3 l m r, .int .i64 n] w fun e w' => e = .returned (.tuple #[P3 (lat l m r n) m r, .int .i64 0]) ∧ Below w.heap.size w w' := by
  go_enter Try.func17, Try.ntmps17
  go_wp2_with (first | (go_at_call 23; refine (may_later l m r n h hn hn' _).mono ?_; rintro e w1 ⟨rfl, hb⟩; have hb1 : Below w.heap.size w w1 := bl (by go_grown) hb; have hz := hb.size; obtain ⟨hc, hf⟩ := bcell hb; have HB := Lib.hid hb; clear hb; (try simp only [World.size_alloc] at hz); have q0 : w.heap.size < w1.heap.size := (by omega); have k0 := fun o => hc (w.heap.size) o (by first | omega | (simp only [World.size_alloc]; omega)); have q1 : w.heap.size + 1 < w1.heap.size := (by omega); have k1 := fun o => hc (w.heap.size + 1) o (by first | omega | (simp only [World.size_alloc]; omega))))
  refine bodyPost_ret (v := .tuple #[P3 (lat l m r n) m r, .int .i64 0]) (by simp [results, Try.results17, go_sem, *]) rfl ?_
  exact ⟨rfl, by go_grown⟩

set_option maxHeartbeats 400000 in
theorem spend_no (l m r n : Int) (h : ¬ Rt l m r) (w : World) :
    Calls Try.prog 18 #[P3 l m r, .int .i64 n] w fun e w' => e = .returned (.tuple #[P3 0 0 0, .int .i64 1]) ∧ Below w.heap.size w w' := by
  go_enter Try.func18, Try.ntmps18
  go_wp2_with (first | (go_at_call 23; refine (may_no l m r n _ h _).mono ?_; rintro e w1 ⟨rfl, hb⟩; have hb1 : Below w.heap.size w w1 := bl (by go_grown) hb; have hz := hb.size; obtain ⟨hc, hf⟩ := bcell hb; have HB := Lib.hid hb; clear hb; (try simp only [World.size_alloc] at hz); have q0 : w.heap.size < w1.heap.size := (by omega); have k0 := fun o => hc (w.heap.size) o (by first | omega | (simp only [World.size_alloc]; omega)); have q1 : w.heap.size + 1 < w1.heap.size := (by omega); have k1 := fun o => hc (w.heap.size + 1) o (by first | omega | (simp only [World.size_alloc]; omega))))
  refine bodyPost_ret (v := .tuple #[P3 0 0 0, .int .i64 1]) (by simp [results, Try.results18, go_sem, *]) rfl ?_
  exact ⟨rfl, by go_grown⟩

set_option maxHeartbeats 400000 in
theorem spend_neg (l m r n : Int) (h : Rt l m r) (hn : n < 0) (w : World) :
    Calls Try.prog 18 #[P3 l m r, .int .i64 n] w fun e w' => e = .returned (.tuple #[P3 0 0 0, .int .i64 10]) ∧ Below w.heap.size w w' := by
  go_enter Try.func18, Try.ntmps18
  go_wp2_with (first | (go_at_call 23; refine (may_neg l m r n _ h hn _).mono ?_; rintro e w1 ⟨rfl, hb⟩; have hb1 : Below w.heap.size w w1 := bl (by go_grown) hb; have hz := hb.size; obtain ⟨hc, hf⟩ := bcell hb; have HB := Lib.hid hb; clear hb; (try simp only [World.size_alloc] at hz); have q0 : w.heap.size < w1.heap.size := (by omega); have k0 := fun o => hc (w.heap.size) o (by first | omega | (simp only [World.size_alloc]; omega)); have q1 : w.heap.size + 1 < w1.heap.size := (by omega); have k1 := fun o => hc (w.heap.size + 1) o (by first | omega | (simp only [World.size_alloc]; omega))))
  refine bodyPost_ret (v := .tuple #[P3 0 0 0, .int .i64 10]) (by simp [results, Try.results18, go_sem, *]) rfl ?_
  exact ⟨rfl, by go_grown⟩

set_option maxHeartbeats 400000 in
theorem spend_over (l m r n : Int) (h : Rt l m r) (hn : l < n) (w : World) :
    Calls Try.prog 18 #[P3 l m r, .int .i64 n] w fun e w' => e = .returned (.tuple #[P3 0 0 0, .int .i64 23]) ∧ Below w.heap.size w w' := by
  go_enter Try.func18, Try.ntmps18
  go_wp2_with (first | (go_at_call 23; refine (may_over l m r n h hn _).mono ?_; rintro e w1 ⟨rfl, hb⟩; have hb1 : Below w.heap.size w w1 := bl (by go_grown) hb; have hz := hb.size; obtain ⟨hc, hf⟩ := bcell hb; have HB := Lib.hid hb; clear hb; (try simp only [World.size_alloc] at hz); have q0 : w.heap.size < w1.heap.size := (by omega); have k0 := fun o => hc (w.heap.size) o (by first | omega | (simp only [World.size_alloc]; omega)); have q1 : w.heap.size + 1 < w1.heap.size := (by omega); have k1 := fun o => hc (w.heap.size + 1) o (by first | omega | (simp only [World.size_alloc]; omega))))
  refine bodyPost_ret (v := .tuple #[P3 0 0 0, .int .i64 23]) (by simp [results, Try.results18, go_sem, *]) rfl ?_
  exact ⟨rfl, by go_grown⟩

set_option maxHeartbeats 400000 in
theorem spend_yes (l m r n : Int) (h : Rt l m r) (hn : 0 ≤ n) (hl : n ≤ l) (w : World) :
    Calls Try.prog 18 #[P3 l m r, .int .i64 n] w fun e w' => e = .returned (.tuple #[P3 (l - n) m r, .int .i64 0]) ∧ Below w.heap.size w w' := by
  go_enter Try.func18, Try.ntmps18
  go_wp2_with (first | (go_at_call 23; refine (may_less l m r n h hn hl _).mono ?_; rintro e w1 ⟨rfl, hb⟩; have hb1 : Below w.heap.size w w1 := bl (by go_grown) hb; have hz := hb.size; obtain ⟨hc, hf⟩ := bcell hb; have HB := Lib.hid hb; clear hb; (try simp only [World.size_alloc] at hz); have q0 : w.heap.size < w1.heap.size := (by omega); have k0 := fun o => hc (w.heap.size) o (by first | omega | (simp only [World.size_alloc]; omega)); have q1 : w.heap.size + 1 < w1.heap.size := (by omega); have k1 := fun o => hc (w.heap.size + 1) o (by first | omega | (simp only [World.size_alloc]; omega))))
  refine bodyPost_ret (v := .tuple #[P3 (l - n) m r, .int .i64 0]) (by simp [results, Try.results18, go_sem, *]) rfl ?_
  exact ⟨rfl, by go_grown⟩

set_option maxHeartbeats 400000 in
theorem new_no (m r : Int) (h : ¬ Rt m m r) (w : World) :
    Calls Try.prog 9 #[.int .i64 m, .int .i64 r] w fun e w' => e = .returned (.tuple #[P3 0 0 0, .int .i64 10]) ∧ Below w.heap.size w w' := by
  go_enter Try.func9, Try.ntmps9
  go_wp2_with (first | (go_at_call 22; refine (right_no m m r _ h).mono ?_; rintro e w1 ⟨rfl, hb⟩; have hb1 : Below w.heap.size w w1 := bl (by go_grown) hb; have hz := hb.size; obtain ⟨hc, hf⟩ := bcell hb; have HB := Lib.hid hb; clear hb; (try simp only [World.size_alloc] at hz); have q0 : w.heap.size < w1.heap.size := (by omega); have k0 := fun o => hc (w.heap.size) o (by first | omega | (simp only [World.size_alloc]; omega)); have q1 : w.heap.size + 1 < w1.heap.size := (by omega); have k1 := fun o => hc (w.heap.size + 1) o (by first | omega | (simp only [World.size_alloc]; omega))))
  refine bodyPost_ret (v := .tuple #[P3 0 0 0, .int .i64 10]) (by simp [results, Try.results9, go_sem, *]) rfl ?_
  exact ⟨rfl, by go_grown⟩

set_option maxHeartbeats 400000 in
theorem new_yes (m r : Int) (h : Rt m m r) (w : World) :
    Calls Try.prog 9 #[.int .i64 m, .int .i64 r] w fun e w' => e = .returned (.tuple #[P3 m m r, .int .i64 0]) ∧ Below w.heap.size w w' := by
  go_enter Try.func9, Try.ntmps9
  go_wp2_with (first | (go_at_call 22; refine (right_yes m m r _ h).mono ?_; rintro e w1 ⟨rfl, hb⟩; have hb1 : Below w.heap.size w w1 := bl (by go_grown) hb; have hz := hb.size; obtain ⟨hc, hf⟩ := bcell hb; have HB := Lib.hid hb; clear hb; (try simp only [World.size_alloc] at hz); have q0 : w.heap.size < w1.heap.size := (by omega); have k0 := fun o => hc (w.heap.size) o (by first | omega | (simp only [World.size_alloc]; omega)); have q1 : w.heap.size + 1 < w1.heap.size := (by omega); have k1 := fun o => hc (w.heap.size + 1) o (by first | omega | (simp only [World.size_alloc]; omega))))
  refine bodyPost_ret (v := .tuple #[P3 m m r, .int .i64 0]) (by simp [results, Try.results9, go_sem, *]) rfl ?_
  exact ⟨rfl, by go_grown⟩

set_option maxHeartbeats 400000 in
theorem ticks_no (l m r n : Int) (h : ¬ Rt l m r) (w : World) :
    Calls Try.prog 13 #[P3 l m r, .int .i64 n] w fun e w' => e = .returned (.tuple #[.int .i64 0, .bool false]) ∧ Below w.heap.size w w' := by
  go_enter Try.func13, Try.ntmps13
  go_wp2_with (first | (go_at_call 22; refine (right_no l m r _ h).mono ?_; rintro e w1 ⟨rfl, hb⟩; have hb1 : Below w.heap.size w w1 := bl (by go_grown) hb; have hz := hb.size; obtain ⟨hc, hf⟩ := bcell hb; have HB := Lib.hid hb; clear hb; (try simp only [World.size_alloc] at hz); have q0 : w.heap.size < w1.heap.size := (by omega); have k0 := fun o => hc (w.heap.size) o (by first | omega | (simp only [World.size_alloc]; omega))))
  go_returns
  exact ⟨rfl, by go_grown⟩

set_option maxHeartbeats 400000 in
theorem ticks_neg (l m r n : Int) (h : Rt l m r) (hn : n < 0) (w : World) :
    Calls Try.prog 13 #[P3 l m r, .int .i64 n] w fun e w' => e = .returned (.tuple #[.int .i64 0, .bool false]) ∧ Below w.heap.size w w' := by
  go_enter Try.func13, Try.ntmps13
  go_wp2_with (first | (go_at_call 22; refine (right_yes l m r _ h).mono ?_; rintro e w1 ⟨rfl, hb⟩; have hb1 : Below w.heap.size w w1 := bl (by go_grown) hb; have hz := hb.size; obtain ⟨hc, hf⟩ := bcell hb; have HB := Lib.hid hb; clear hb; (try simp only [World.size_alloc] at hz); have q0 : w.heap.size < w1.heap.size := (by omega); have k0 := fun o => hc (w.heap.size) o (by first | omega | (simp only [World.size_alloc]; omega))))
  go_returns
  exact ⟨rfl, by go_grown⟩

set_option maxHeartbeats 400000 in
theorem ticks_over (l m r n : Int) (h : Rt l m r) (hn : 0 ≤ n) (hm : m < n) (w : World) :
    Calls Try.prog 13 #[P3 l m r, .int .i64 n] w fun e w' => e = .returned (.tuple #[.int .i64 0, .bool false]) ∧ Below w.heap.size w w' := by
  go_enter Try.func13, Try.ntmps13
  go_wp2_with (first | (go_at_call 22; refine (right_yes l m r _ h).mono ?_; rintro e w1 ⟨rfl, hb⟩; have hb1 : Below w.heap.size w w1 := bl (by go_grown) hb; have hz := hb.size; obtain ⟨hc, hf⟩ := bcell hb; have HB := Lib.hid hb; clear hb; (try simp only [World.size_alloc] at hz); have q0 : w.heap.size < w1.heap.size := (by omega); have k0 := fun o => hc (w.heap.size) o (by first | omega | (simp only [World.size_alloc]; omega))))
  go_returns
  exact ⟨rfl, by go_grown⟩

set_option maxHeartbeats 400000 in
theorem ticks_now (l m r n : Int) (h : Rt l m r) (hn : 0 ≤ n) (hm : n ≤ m) (hl : n ≤ l) (w : World) :
    Calls Try.prog 13 #[P3 l m r, .int .i64 n] w fun e w' => e = .returned (.tuple #[.int .i64 0, .bool true]) ∧ Below w.heap.size w w' := by
  go_enter Try.func13, Try.ntmps13
  go_wp2_with (first | (go_at_call 22; refine (right_yes l m r _ h).mono ?_; rintro e w1 ⟨rfl, hb⟩; have hb1 : Below w.heap.size w w1 := bl (by go_grown) hb; have hz := hb.size; obtain ⟨hc, hf⟩ := bcell hb; have HB := Lib.hid hb; clear hb; (try simp only [World.size_alloc] at hz); have q0 : w.heap.size < w1.heap.size := (by omega); have k0 := fun o => hc (w.heap.size) o (by first | omega | (simp only [World.size_alloc]; omega))))
  go_returns
  exact ⟨rfl, by go_grown⟩

set_option maxHeartbeats 400000 in
theorem ticks_never (l m n : Int) (h : Rt l m 0) (hn : 0 ≤ n) (hm : n ≤ m) (hl : l < n) (w : World) :
    Calls Try.prog 13 #[P3 l m 0, .int .i64 n] w fun e w' => e = .returned (.tuple #[.int .i64 0, .bool false]) ∧ Below w.heap.size w w' := by
  go_enter Try.func13, Try.ntmps13
  go_wp2_with (first | (go_at_call 22; refine (right_yes l m 0 _ h).mono ?_; rintro e w1 ⟨rfl, hb⟩; have hb1 : Below w.heap.size w w1 := bl (by go_grown) hb; have hz := hb.size; obtain ⟨hc, hf⟩ := bcell hb; have HB := Lib.hid hb; clear hb; (try simp only [World.size_alloc] at hz); have q0 : w.heap.size < w1.heap.size := (by omega); have k0 := fun o => hc (w.heap.size) o (by first | omega | (simp only [World.size_alloc]; omega))))
  go_returns
  exact ⟨rfl, by go_grown⟩

set_option maxHeartbeats 400000 in
theorem ticks_yes (l m r n : Int) (h : Rt l m r) (hr : 0 < r) (hn : 0 ≤ n) (hm : n ≤ m) (hl : l < n) (w : World) :
    Calls Try.prog 13 #[P3 l m r, .int .i64 n] w fun e w' => e = .returned (.tuple #[.int .i64 (tk l r n), .bool true]) ∧ Below w.heap.size w w' := by
  obtain ⟨h1, h2, h3, h4, h5, h6⟩ := id h
  have hr0 : (r == 0) = false := by simp; omega
  have b0 : 0 ≤ (n - l + r - 1) / r := Int.ediv_nonneg (by omega) (by omega)
  have b1 : (n - l + r - 1) / r ≤ n - l + r - 1 := Int.ediv_le_self _ (by omega)
  go_enter Try.func13, Try.ntmps13
  go_wp2_with (first | (go_at_call 22; refine (right_yes l m r _ h).mono ?_; rintro e w1 ⟨rfl, hb⟩; have hb1 : Below w.heap.size w w1 := bl (by go_grown) hb; have hz := hb.size; obtain ⟨hc, hf⟩ := bcell hb; have HB := Lib.hid hb; clear hb; (try simp only [World.size_alloc] at hz); have q0 : w.heap.size < w1.heap.size := (by omega); have k0 := fun o => hc (w.heap.size) o (by first | omega | (simp only [World.size_alloc]; omega))))
  go_returns
  exact ⟨rfl, by go_grown⟩

end Go.Proofs.Ytefinnlnkilmpaa
