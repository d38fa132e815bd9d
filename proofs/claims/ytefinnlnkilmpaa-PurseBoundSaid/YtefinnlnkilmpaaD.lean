/- The contracts of the reference of layer 17 (spending, and how many ticks), and the law's examples: a theorem a way through; each writes to new memory alone. Conditions stand in each statement. -/
import Derived.Test.YtefinnlnkilmpaaC
namespace Go.Proofs.Ytefinnlnkilmpaa
open Go.RowKit

set_option maxHeartbeats 400000 in
theorem rSpend_no (l m r n : Int) (h : ¬ Rt l m r) (w : World) :
    Calls Try.prog 19 #[P3 l m r, .int .i64 n] w fun e w' => e = .returned (.tuple #[P3 0 0 0, .int .i64 1]) ∧ Below w.heap.size w w' := by
  go_enter Try.func19, Try.ntmps19
  go_wp2_with (first | (go_at_call 10; refine (rRight_no l m r _ h).mono ?_; rintro e w1 ⟨rfl, hb⟩; have hb1 : Below w.heap.size w w1 := bl (by go_grown) hb; have hz := hb.size; obtain ⟨hc, hf⟩ := bcell hb; have HB := Lib.hid hb; clear hb; (try simp only [World.size_alloc] at hz); have q0 : w.heap.size < w1.heap.size := (by omega); have k0 := fun o => hc (w.heap.size) o (by first | omega | (simp only [World.size_alloc]; omega)); have q1 : w.heap.size + 1 < w1.heap.size := (by omega); have k1 := fun o => hc (w.heap.size + 1) o (by first | omega | (simp only [World.size_alloc]; omega))))
  refine bodyPost_ret (v := .tuple #[P3 0 0 0, .int .i64 1]) (by simp [results, Try.results19, go_sem, *]) rfl ?_
  exact ⟨rfl, by go_grown⟩

set_option maxHeartbeats 400000 in
theorem rSpend_neg (l m r n : Int) (h : Rt l m r) (hn : n < 0) (w : World) :
    Calls Try.prog 19 #[P3 l m r, .int .i64 n] w fun e w' => e = .returned (.tuple #[P3 0 0 0, .int .i64 10]) ∧ Below w.heap.size w w' := by
  go_enter Try.func19, Try.ntmps19
  go_wp2_with (first | (go_at_call 10; refine (rRight_yes l m r _ h).mono ?_; rintro e w1 ⟨rfl, hb⟩; have hb1 : Below w.heap.size w w1 := bl (by go_grown) hb; have hz := hb.size; obtain ⟨hc, hf⟩ := bcell hb; have HB := Lib.hid hb; clear hb; (try simp only [World.size_alloc] at hz); have q0 : w.heap.size < w1.heap.size := (by omega); have k0 := fun o => hc (w.heap.size) o (by first | omega | (simp only [World.size_alloc]; omega)); have q1 : w.heap.size + 1 < w1.heap.size := (by omega); have k1 := fun o => hc (w.heap.size + 1) o (by first | omega | (simp only [World.size_alloc]; omega))))
  refine bodyPost_ret (v := .tuple #[P3 0 0 0, .int .i64 10]) (by simp [results, Try.results19, go_sem, *]) rfl ?_
  exact ⟨rfl, by go_grown⟩

set_option maxHeartbeats 400000 in
theorem rSpend_over (l m r n : Int) (h : Rt l m r) (hn : l < n) (w : World) :
    Calls Try.prog 19 #[P3 l m r, .int .i64 n] w fun e w' => e = .returned (.tuple #[P3 0 0 0, .int .i64 23]) ∧ Below w.heap.size w w' := by
  have hl := h.2.2.1
  go_enter Try.func19, Try.ntmps19
  go_wp2_with (first | (go_at_call 10; refine (rRight_yes l m r _ h).mono ?_; rintro e w1 ⟨rfl, hb⟩; have hb1 : Below w.heap.size w w1 := bl (by go_grown) hb; have hz := hb.size; obtain ⟨hc, hf⟩ := bcell hb; have HB := Lib.hid hb; clear hb; (try simp only [World.size_alloc] at hz); have q0 : w.heap.size < w1.heap.size := (by omega); have k0 := fun o => hc (w.heap.size) o (by first | omega | (simp only [World.size_alloc]; omega)); have q1 : w.heap.size + 1 < w1.heap.size := (by omega); have k1 := fun o => hc (w.heap.size + 1) o (by first | omega | (simp only [World.size_alloc]; omega))))
  refine bodyPost_ret (v := .tuple #[P3 0 0 0, .int .i64 23]) (by simp [results, Try.results19, go_sem, *]) rfl ?_
  exact ⟨rfl, by go_grown⟩

set_option maxHeartbeats 400000 in
theorem rSpend_yes (l m r n : Int) (h : Rt l m r) (hn : 0 ≤ n) (hl : n ≤ l) (w : World) :
    Calls Try.prog 19 #[P3 l m r, .int .i64 n] w fun e w' => e = .returned (.tuple #[P3 (l - n) m r, .int .i64 0]) ∧ Below w.heap.size w w' := by
  have hl2 : l ≤ 9223372036854775807 := by have := h.2.1; have := h.2.2.2.1; omega
  go_enter Try.func19, Try.ntmps19
  go_wp2_with (first | (go_at_call 10; refine (rRight_yes l m r _ h).mono ?_; rintro e w1 ⟨rfl, hb⟩; have hb1 : Below w.heap.size w w1 := bl (by go_grown) hb; have hz := hb.size; obtain ⟨hc, hf⟩ := bcell hb; have HB := Lib.hid hb; clear hb; (try simp only [World.size_alloc] at hz); have q0 : w.heap.size < w1.heap.size := (by omega); have k0 := fun o => hc (w.heap.size) o (by first | omega | (simp only [World.size_alloc]; omega)); have q1 : w.heap.size + 1 < w1.heap.size := (by omega); have k1 := fun o => hc (w.heap.size + 1) o (by first | omega | (simp only [World.size_alloc]; omega))))
  refine bodyPost_ret (v := .tuple #[P3 (l - n) m r, .int .i64 0]) (by simp [results, Try.results19, go_sem, *]) rfl ?_
  exact ⟨rfl, by go_grown⟩

set_option maxHeartbeats 400000 in
theorem rTicks_no (l m r n : Int) (h : ¬ Rt l m r) (w : World) :
    Calls Try.prog 14 #[P3 l m r, .int .i64 n] w fun e w' => e = .returned (.tuple #[.int .i64 0, .bool false]) ∧ Below w.heap.size w w' := by
  go_enter Try.func14, Try.ntmps14
  go_wp2_with (first | (go_at_call 10; refine (rRight_no l m r _ h).mono ?_; rintro e w1 ⟨rfl, hb⟩; have hb1 : Below w.heap.size w w1 := bl (by go_grown) hb; have hz := hb.size; obtain ⟨hc, hf⟩ := bcell hb; have HB := Lib.hid hb; clear hb; (try simp only [World.size_alloc] at hz); have q0 : w.heap.size < w1.heap.size := (by omega); have k0 := fun o => hc (w.heap.size) o (by first | omega | (simp only [World.size_alloc]; omega))))
  go_returns
  exact ⟨rfl, by go_grown⟩

set_option maxHeartbeats 400000 in
theorem rTicks_neg (l m r n : Int) (h : Rt l m r) (hn : n < 0) (w : World) :
    Calls Try.prog 14 #[P3 l m r, .int .i64 n] w fun e w' => e = .returned (.tuple #[.int .i64 0, .bool false]) ∧ Below w.heap.size w w' := by
  go_enter Try.func14, Try.ntmps14
  go_wp2_with (first | (go_at_call 10; refine (rRight_yes l m r _ h).mono ?_; rintro e w1 ⟨rfl, hb⟩; have hb1 : Below w.heap.size w w1 := bl (by go_grown) hb; have hz := hb.size; obtain ⟨hc, hf⟩ := bcell hb; have HB := Lib.hid hb; clear hb; (try simp only [World.size_alloc] at hz); have q0 : w.heap.size < w1.heap.size := (by omega); have k0 := fun o => hc (w.heap.size) o (by first | omega | (simp only [World.size_alloc]; omega))))
  go_returns
  exact ⟨rfl, by go_grown⟩

set_option maxHeartbeats 400000 in
theorem rTicks_over (l m r n : Int) (h : Rt l m r) (hn : 0 ≤ n) (hm : m < n) (w : World) :
    Calls Try.prog 14 #[P3 l m r, .int .i64 n] w fun e w' => e = .returned (.tuple #[.int .i64 0, .bool false]) ∧ Below w.heap.size w w' := by
  go_enter Try.func14, Try.ntmps14
  go_wp2_with (first | (go_at_call 10; refine (rRight_yes l m r _ h).mono ?_; rintro e w1 ⟨rfl, hb⟩; have hb1 : Below w.heap.size w w1 := bl (by go_grown) hb; have hz := hb.size; obtain ⟨hc, hf⟩ := bcell hb; have HB := Lib.hid hb; clear hb; (try simp only [World.size_alloc] at hz); have q0 : w.heap.size < w1.heap.size := (by omega); have k0 := fun o => hc (w.heap.size) o (by first | omega | (simp only [World.size_alloc]; omega))))
  go_returns
  exact ⟨rfl, by go_grown⟩

set_option maxHeartbeats 400000 in
theorem rTicks_now (l m r n : Int) (h : Rt l m r) (hn : 0 ≤ n) (hm : n ≤ m) (hl : n ≤ l) (w : World) :
    Calls Try.prog 14 #[P3 l m r, .int .i64 n] w fun e w' => e = .returned (.tuple #[.int .i64 0, .bool true]) ∧ Below w.heap.size w w' := by
  go_enter Try.func14, Try.ntmps14
  go_wp2_with (first | (go_at_call 10; refine (rRight_yes l m r _ h).mono ?_; rintro e w1 ⟨rfl, hb⟩; have hb1 : Below w.heap.size w w1 := bl (by go_grown) hb; have hz := hb.size; obtain ⟨hc, hf⟩ := bcell hb; have HB := Lib.hid hb; clear hb; (try simp only [World.size_alloc] at hz); have q0 : w.heap.size < w1.heap.size := (by omega); have k0 := fun o => hc (w.heap.size) o (by first | omega | (simp only [World.size_alloc]; omega))))
  refine wp_loop_rounds 1 ?_
  rw [rounds_succ]
  go_wp2
  go_returns
  exact ⟨rfl, by go_grown⟩

set_option maxHeartbeats 400000 in
theorem rTicks_never (l m n : Int) (h : Rt l m 0) (hn : 0 ≤ n) (hm : n ≤ m) (hl : l < n) (w : World) :
    Calls Try.prog 14 #[P3 l m 0, .int .i64 n] w fun e w' => e = .returned (.tuple #[.int .i64 0, .bool false]) ∧ Below w.heap.size w w' := by
  go_enter Try.func14, Try.ntmps14
  go_wp2_with (first | (go_at_call 10; refine (rRight_yes l m 0 _ h).mono ?_; rintro e w1 ⟨rfl, hb⟩; have hb1 : Below w.heap.size w w1 := bl (by go_grown) hb; have hz := hb.size; obtain ⟨hc, hf⟩ := bcell hb; have HB := Lib.hid hb; clear hb; (try simp only [World.size_alloc] at hz); have q0 : w.heap.size < w1.heap.size := (by omega); have k0 := fun o => hc (w.heap.size) o (by first | omega | (simp only [World.size_alloc]; omega))))
  refine wp_loop_rounds 1 ?_
  rw [rounds_succ]
  go_wp2
  go_returns
  exact ⟨rfl, by go_grown⟩

set_option maxHeartbeats 800000 in
theorem rTicks_yes (l m r n : Int) (h : Rt l m r) (hr : 0 < r) (hn : 0 ≤ n) (hm : n ≤ m) (hl : l < n) (w : World) :
    Calls Try.prog 14 #[P3 l m r, .int .i64 n] w fun e w' => e = .returned (.tuple #[.int .i64 (tk l r n), .bool true]) ∧ Below w.heap.size w w' := by
  obtain ⟨h1, h2, h3, h4, h5, h6⟩ := id h
  have hr0 : (r == 0) = false := by simp; omega
  go_enter Try.func14, Try.ntmps14
  go_wp2_with (first | (go_at_call 10; refine (rRight_yes l m r _ h).mono ?_; rintro e w1 ⟨rfl, hb⟩; have hb1 : Below w.heap.size w w1 := bl (by go_grown) hb; have hz := hb.size; obtain ⟨hc, hf⟩ := bcell hb; have HB := Lib.hid hb; clear hb; (try simp only [World.size_alloc] at hz); have q0 : w.heap.size < w1.heap.size := (by omega); have k0 := fun o => hc (w.heap.size) o (by first | omega | (simp only [World.size_alloc]; omega))))
  have hB : Blk w1 w.heap.size 27 #[.int .i64 l, .int .i64 m, .int .i64 r] := by
    have := Blk.new w 27 #[.int .i64 l, .int .i64 m, .int .i64 r]
    exact this.below HB.out (by simp)
  clear hc hf k0
  go_loopw [6] (fun i wr => ∃ k : Nat, (k : Int) ≤ n ∧ i = .int .i64 k ∧ (k = 0 ∨ l + r * ((k : Int) - 1) < n) ∧ Blk wr w.heap.size 27 #[.int .i64 (lat l m r k), .int .i64 m, .int .i64 r] ∧ Below w.heap.size w wr)
    (fun i _ => (n - intOf i).toNat)
  case atStart =>
    refine ⟨0, by omega, rfl, .inl rfl, ?_, by go_grown⟩
    rw [show ((0 : Nat) : Int) = 0 from rfl, lat_zero h4]
    exact hB
  case round =>
    obtain ⟨k, hk, rfl, hlast, hb0, hbel⟩ := hrel
    have HL := Lib.hid hlast
    have hc0 := hb0.cell
    have hf0 := hb0.frozen
    have hl0 := hb0.lt
    have HB := Lib.hid hb0
    obtain ⟨hL1, hL2⟩ := lat_bd (t := (k : Int)) h4 h5 (by omega)
    have HS := Lib.hid (lat_succ (l := l) (m := m) (t := (k : Int)) h5)
    have HT := Lib.hid (ticks_le (l := l) (r := r) (k := (k : Int)) hm)
    clear hb0 hB hlast
    by_cases ha : lat l m r k < n
    · have hlt : (k : Int) < n := by
        have h8 : ¬ n ≤ l + r * (k : Int) := fun h8 => by have := HT.out.2 h8; omega
        have : 1 * (k : Int) ≤ r * (k : Int) := Int.mul_le_mul_of_nonneg_right (by omega) (by omega)
        omega
      have HN := Lib.hid (show l + r * (k : Int) < n by
        have h8 : ¬ n ≤ l + r * (k : Int) := fun h8 => by have := HT.out.2 h8; omega
        omega)
      go_wp2_with (first | (go_at_call 20; refine (rTick (lat l m r k) m r _ ⟨h1, h2, by omega, hL2, h5, h6⟩).mono ?_; rintro e w1 ⟨rfl, hb⟩; have hbw := bl hbel hb; have q0 := Nat.lt_of_lt_of_le hl0 hb.size; have HW := Lib.hid (HB.out.below hb hl0); have k0 := HW.out.cell; have f0 := HW.out.frozen; clear hb hc0 hf0))
      go_roundw
      case rel =>
        refine ⟨k + 1, by omega, by go_num, .inr ?_, ?_, by go_grown⟩
        · rw [show ((k + 1 : Nat) : Int) - 1 = k from by omega]; exact HN.out
        · have := ((HW.out.set_ 0 (.int .i64 (lat (lat l m r k) m r 1))).set_ 1 (.int .i64 m)).set_ 2 (.int .i64 r)
          rw [HS.out] at this
          rw [HS.out]
          simpa using this
      case measure => simp [intOf]; omega
    · have HF := Lib.hid (tk_eq (k := (k : Int)) hr hl (by omega) (HT.out.1 (by omega)) (HL.out.imp (fun e => by omega) id))
      go_wp2
      go_returns
      exact ⟨(show Ending.returned (.tuple #[.int .i64 (k : Int), .bool true]) = _ from by rw [HF.out]), by go_grown⟩

set_option maxHeartbeats 1000000 in
theorem awake_any (w : World) :
    Calls Try.prog 11 #[] w fun e w' => e = .returned (.bool true) ∧ Below w.heap.size w w' := by
  have e1 : lat 1 10 4 2 = 9 := rfl
  have e2 : lat 1 10 4 100 = 10 := rfl
  have e3 : tk 1 4 9 = 2 := rfl
  have t1 : Rt 10 10 4 := by unfold Rt; omega
  have t2 : Rt 1 10 4 := by unfold Rt; omega
  have c1 := fun W => new_yes 10 4 t1 W
  have c2 := fun W => spend_yes 10 10 4 9 t1 (by omega) (by omega) W
  have c3 := fun W => ticks_yes 1 10 4 9 t2 (by omega) (by omega) (by omega) (by omega) W
  have c4 := fun W => after_yes 1 10 4 2 t2 (by omega) (by omega) W
  have c5 := fun W => after_yes 1 10 4 100 t2 (by omega) (by omega) W
  rw [e1] at c4
  rw [e2] at c5
  rw [e3] at c3
  have H1 := Lib.hid c1
  have H2 := Lib.hid c2
  have H3 := Lib.hid c3
  have H4 := Lib.hid c4
  have H5 := Lib.hid c5
  clear c1 c2 c3 c4 c5 e1 e2 e3 t1 t2
  go_enter Try.func11, Try.ntmps11
  go_wp2_with fail
  refine (H1.out _).mono ?_
  rintro e w1 ⟨rfl, hb⟩
  have bw1 : Below w.heap.size w w1 := bl (by go_grown) hb
  have qw1 := hb.size
  try simp only [World.size_alloc] at qw1
  clear hb
  go_wp2_with fail
  refine (H2.out _).mono ?_
  rintro e w2 ⟨rfl, hb⟩
  have bw2 : Below w.heap.size w w2 := bl (by go_grown) hb
  have qw2 := hb.size
  try simp only [World.size_alloc] at qw2
  have kw20 := fun o => hb.cell (p := ⟨w1.heap.size, o, none⟩) (by first | (show w1.heap.size < _; omega) | (show w1.heap.size < _; simp only [World.size_alloc]; omega))
  have pw20 : w1.heap.size < w2.heap.size := by omega
  clear hb
  go_wp2_with fail
  refine (H3.out _).mono ?_
  rintro e w3 ⟨rfl, hb⟩
  have bw3 : Below w.heap.size w w3 := bl (by go_grown) hb
  have qw3 := hb.size
  try simp only [World.size_alloc] at qw3
  have kw30 := fun o => hb.cell (p := ⟨w2.heap.size, o, none⟩) (by first | (show w2.heap.size < _; omega) | (show w2.heap.size < _; simp only [World.size_alloc]; omega))
  have pw30 : w2.heap.size < w3.heap.size := by omega
  clear hb
  go_wp2_with fail
  refine (H4.out _).mono ?_
  rintro e w4 ⟨rfl, hb⟩
  have bw4 : Below w.heap.size w w4 := bl (by go_grown) hb
  have qw4 := hb.size
  try simp only [World.size_alloc] at qw4
  have kw40 := fun o => hb.cell (p := ⟨w2.heap.size, o, none⟩) (by first | (show w2.heap.size < _; omega) | (show w2.heap.size < _; simp only [World.size_alloc]; omega))
  have pw40 : w2.heap.size < w4.heap.size := by omega
  clear hb
  go_wp2_with fail
  refine (H5.out _).mono ?_
  rintro e w5 ⟨rfl, hb⟩
  have bw5 : Below w.heap.size w w5 := bl (by go_grown) hb
  have qw5 := hb.size
  try simp only [World.size_alloc] at qw5
  have kw50 := fun o => hb.cell (p := ⟨w2.heap.size, o, none⟩) (by first | (show w2.heap.size < _; omega) | (show w2.heap.size < _; simp only [World.size_alloc]; omega))
  have pw50 : w2.heap.size < w5.heap.size := by omega
  have kw51 := fun o => hb.cell (p := ⟨w4.heap.size, o, none⟩) (by first | (show w4.heap.size < _; omega) | (show w4.heap.size < _; simp only [World.size_alloc]; omega))
  have pw51 : w4.heap.size < w5.heap.size := by omega
  clear hb
  go_wp2
  go_ret
  exact ⟨rfl, by go_grown⟩

end Go.Proofs.Ytefinnlnkilmpaa
