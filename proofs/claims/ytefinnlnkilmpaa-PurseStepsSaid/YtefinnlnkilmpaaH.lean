/- The walk of the law PurseSteps: for every input it returns true, and writes to new memory alone. No condition. -/
import Derived.Test.YtefinnlnkilmpaaD
namespace Go.Proofs.Ytefinnlnkilmpaa
open Go.RowKit

set_option maxRecDepth 100000 in
set_option maxHeartbeats 1000000 in
theorem pSteps_no (l m r x y n : Int) (h : ¬ Rt l m r) (w : World) :
    Calls Try.prog 7 #[P3 l m r, .agg #[.int .i64 x, .int .i64 y], .int .i64 n] w fun e w' => e = .returned (.bool true) ∧ Below w.heap.size w w' := by
  go_enter Try.func7, Try.ntmps7
  go_wp2_with fail
  refine (tick_no l m r h _).mono ?_
  rintro e w1 ⟨rfl, hb⟩
  have bw1 : Below w.heap.size w w1 := bl (by go_grown) hb
  have qw1 := hb.size
  try simp only [World.size_alloc] at qw1
  have kw10 := fun o => hb.cell (p := ⟨w.heap.size + 1, o, none⟩) (by first | (show w.heap.size + 1 < _; omega) | (show w.heap.size + 1 < _; simp only [World.size_alloc]; omega))
  have pw10 : w.heap.size + 1 < w1.heap.size := by omega
  have HBw1 := Lib.hid hb
  clear hb
  go_wp2_with fail
  refine (awake_any _).mono ?_
  rintro e w99 ⟨rfl, hb⟩
  have bw99 : Below w.heap.size w w99 := bl (by go_grown) hb
  go_wp2
  go_ret
  exact ⟨rfl, by go_grown⟩

set_option maxRecDepth 100000 in
set_option maxHeartbeats 1000000 in
theorem pSteps_out (l m r x y n : Int) (h : Rt l m r) (hx : x < 0 ∨ 300 < x ∨ y < 0 ∨ 1000000 < y) (w : World) :
    Calls Try.prog 7 #[P3 l m r, .agg #[.int .i64 x, .int .i64 y], .int .i64 n] w fun e w' => e = .returned (.bool true) ∧ Below w.heap.size w w' := by
  go_enter Try.func7, Try.ntmps7
  by_cases x1 : x < 0
  · go_wp2_with fail
    refine (tick_yes l m r h _).mono ?_
    rintro e w1 ⟨rfl, hb⟩
    have bw1 : Below w.heap.size w w1 := bl (by go_grown) hb
    have qw1 := hb.size
    try simp only [World.size_alloc] at qw1
    have kw10 := fun o => hb.cell (p := ⟨w.heap.size + 1, o, none⟩) (by first | (show w.heap.size + 1 < _; omega) | (show w.heap.size + 1 < _; simp only [World.size_alloc]; omega))
    have pw10 : w.heap.size + 1 < w1.heap.size := by omega
    have HBw1 := Lib.hid hb
    clear hb
    go_wp2_with fail
    refine (awake_any _).mono ?_
    rintro e w99 ⟨rfl, hb⟩
    have bw99 : Below w.heap.size w w99 := bl (by go_grown) hb
    go_wp2
    go_ret
    exact ⟨rfl, by go_grown⟩
  · by_cases x2 : 300 < x
    · go_wp2_with fail
      refine (tick_yes l m r h _).mono ?_
      rintro e w1 ⟨rfl, hb⟩
      have bw1 : Below w.heap.size w w1 := bl (by go_grown) hb
      have qw1 := hb.size
      try simp only [World.size_alloc] at qw1
      have kw10 := fun o => hb.cell (p := ⟨w.heap.size + 1, o, none⟩) (by first | (show w.heap.size + 1 < _; omega) | (show w.heap.size + 1 < _; simp only [World.size_alloc]; omega))
      have pw10 : w.heap.size + 1 < w1.heap.size := by omega
      have HBw1 := Lib.hid hb
      clear hb
      go_wp2_with fail
      refine (awake_any _).mono ?_
      rintro e w99 ⟨rfl, hb⟩
      have bw99 : Below w.heap.size w w99 := bl (by go_grown) hb
      go_wp2
      go_ret
      exact ⟨rfl, by go_grown⟩
    · by_cases y1 : y < 0
      · go_wp2_with fail
        refine (tick_yes l m r h _).mono ?_
        rintro e w1 ⟨rfl, hb⟩
        have bw1 : Below w.heap.size w w1 := bl (by go_grown) hb
        have qw1 := hb.size
        try simp only [World.size_alloc] at qw1
        have kw10 := fun o => hb.cell (p := ⟨w.heap.size + 1, o, none⟩) (by first | (show w.heap.size + 1 < _; omega) | (show w.heap.size + 1 < _; simp only [World.size_alloc]; omega))
        have pw10 : w.heap.size + 1 < w1.heap.size := by omega
        have HBw1 := Lib.hid hb
        clear hb
        go_wp2_with fail
        refine (awake_any _).mono ?_
        rintro e w99 ⟨rfl, hb⟩
        have bw99 : Below w.heap.size w w99 := bl (by go_grown) hb
        go_wp2
        go_ret
        exact ⟨rfl, by go_grown⟩
      · have y2 : 1000000 < y := by omega
        go_wp2_with fail
        refine (tick_yes l m r h _).mono ?_
        rintro e w1 ⟨rfl, hb⟩
        have bw1 : Below w.heap.size w w1 := bl (by go_grown) hb
        have qw1 := hb.size
        try simp only [World.size_alloc] at qw1
        have kw10 := fun o => hb.cell (p := ⟨w.heap.size + 1, o, none⟩) (by first | (show w.heap.size + 1 < _; omega) | (show w.heap.size + 1 < _; simp only [World.size_alloc]; omega))
        have pw10 : w.heap.size + 1 < w1.heap.size := by omega
        have HBw1 := Lib.hid hb
        clear hb
        go_wp2_with fail
        refine (awake_any _).mono ?_
        rintro e w99 ⟨rfl, hb⟩
        have bw99 : Below w.heap.size w w99 := bl (by go_grown) hb
        go_wp2
        go_ret
        exact ⟨rfl, by go_grown⟩

theorem after_two (l m r x y : Int) (h : Rt l m r) (hx : 0 ≤ x) (hy : 0 ≤ y) (hy' : y ≤ 9223372036854775807) (w : World) :
    Calls Try.prog 17 #[P3 (lat l m r x) m r, .int .i64 y] w fun e w' => e = .returned (.tuple #[P3 (lat l m r (x + y)) m r, .int .i64 0]) ∧ Below w.heap.size w w' := by
  obtain ⟨h1, h2, h3, h4, h5, h6⟩ := h
  obtain ⟨b1, b2⟩ := lat_bd (t := x) h4 h5 hx
  have := after_yes (lat l m r x) m r y ⟨h1, h2, by omega, b2, h5, h6⟩ hy hy' w
  rwa [lat_add h5 hx hy] at this

set_option maxRecDepth 100000 in
set_option maxHeartbeats 2000000 in
theorem pSteps_neg (l m r : Int) (X : Nat) (y n : Int) (h : Rt l m r) (hX : X ≤ 300) (hy : 0 ≤ y) (hy2 : y ≤ 1000000) (hn : n < 0) (w : World) :
    Calls Try.prog 7 #[P3 l m r, .agg #[.int .i64 (X : Int), .int .i64 y], .int .i64 n] w fun e w' => e = .returned (.bool true) ∧ Below w.heap.size w w' := by
  obtain ⟨h1, h2, h3, h4, h5, h6⟩ := id h
  have hF : Rt (lat l m r 1048576) m r := by obtain ⟨b1, b2⟩ := lat_bd (t := 1048576) h4 h5 (by omega); exact ⟨h1, h2, by omega, b2, h5, h6⟩
  go_enter Try.func7, Try.ntmps7
  go_wp2_with fail
  refine (tick_yes l m r h _).mono ?_
  rintro e w1 ⟨rfl, hb⟩
  have bw1 : Below w.heap.size w w1 := bl (by go_grown) hb
  have qw1 := hb.size
  try simp only [World.size_alloc] at qw1
  have kw10 := fun o => hb.cell (p := ⟨w.heap.size, o, none⟩) (by first | (show w.heap.size < _; omega) | (show w.heap.size < _; simp only [World.size_alloc]; omega))
  have pw10 : w.heap.size < w1.heap.size := by omega
  have kw11 := fun o => hb.cell (p := ⟨w.heap.size + 1, o, none⟩) (by first | (show w.heap.size + 1 < _; omega) | (show w.heap.size + 1 < _; simp only [World.size_alloc]; omega))
  have pw11 : w.heap.size + 1 < w1.heap.size := by omega
  have HBw1 := Lib.hid hb
  clear hb
  have hbP : Blk w1 w.heap.size 23 #[.int .i64 l, .int .i64 m, .int .i64 r] := ((Blk.new w 23 _).alloc _).below HBw1.out (by simp only [World.size_alloc]; omega)
  have hbT : Blk w1 (w.heap.size + 1) 48 #[.int .i64 (X : Int), .int .i64 y] := (Blk.new1 w _ 48 _).below HBw1.out (by simp only [World.size_alloc]; omega)
  have HBP := Lib.hid hbP
  have HBT := Lib.hid hbT
  have lP := hbP.lt
  have lT := hbT.lt
  clear hbP hbT
  go_wp2
  go_loopw [10] (fun i wr => ∃ k : Nat, k ≤ X ∧ i = .int .i64 k ∧ Blk wr w.heap.size 23 #[.int .i64 l, .int .i64 m, .int .i64 r] ∧ Blk wr (w.heap.size + 1) 48 #[.int .i64 (X : Int), .int .i64 y] ∧ Blk wr (w1.heap.size + 1) 23 #[.int .i64 (lat l m r k), .int .i64 m, .int .i64 r] ∧ Below w.heap.size w wr)
    (fun i _ => X - (intOf i).toNat)
  case atStart =>
    refine ⟨0, by omega, rfl, (HBP.out.alloc _).alloc _, (HBT.out.alloc _).alloc _, ?_, by go_grown⟩
    rw [show ((0 : Nat) : Int) = 0 from rfl, lat_zero h4]
    exact Blk.new1 w1 _ _ _
  case round =>
    obtain ⟨k, hk, rfl, hb0, hb1, hb2, hbel⟩ := hrel
    have kP := hb0.cell
    have kT := hb1.cell
    have kX := hb2.cell
    have fX := hb2.frozen
    have lP' := hb0.lt
    have lT' := hb1.lt
    have lX' := hb2.lt
    have H0 := Lib.hid hb0
    have H1 := Lib.hid hb1
    have H2 := Lib.hid hb2
    obtain ⟨hL1, hL2⟩ := lat_bd (t := (k : Int)) h4 h5 (by omega)
    have HS := Lib.hid (lat_succ (l := l) (m := m) (t := (k : Int)) h5)
    clear hb0 hb1 hb2 kw10 kw11 HBw1 HBP HBT
    by_cases hlt : k < X
    · go_wp2_with fail
      refine (tick_yes (lat l m r k) m r ⟨h1, h2, by omega, hL2, h5, h6⟩ _).mono ?_
      rintro e w2 ⟨rfl, hb⟩
      have bw2 := bl hbel hb
      have q2 := hb.size
      have J0 := Lib.hid (H0.out.below hb lP')
      have J1 := Lib.hid (H1.out.below hb lT')
      have J2 := Lib.hid (H2.out.below hb lX')
      have jX := J2.out.cell
      have gX := J2.out.frozen
      have mX := J2.out.lt
      clear hb kX fX
      go_wp2
      go_roundw
      case rel =>
        refine ⟨k + 1, by omega, by go_num, ?_, ?_, ?_, by go_grown⟩
        · exact (((J0.out.far (by simp; omega) _).far (by simp; omega) _).far (by simp; omega) _).alloc _
        · exact (((J1.out.far (by simp; omega) _).far (by simp; omega) _).far (by simp; omega) _).alloc _
        · have := (((J2.out.set_ 0 (.int .i64 (lat (lat l m r k) m r 1))).set_ 1 (.int .i64 m)).set_ 2 (.int .i64 r)).alloc (.cells #[.int .i64 (lat (lat l m r k) m r 1), .int .i64 m, .int .i64 r] 23)
          rw [HS.out] at this
          rw [HS.out]
          simpa using this
      case measure => simp [intOf]; omega
    · obtain rfl : k = X := by omega
      clear hlt HS
      go_wp2_with fail
      refine (after_yes l m r (k : Int) h (by omega) (by omega) _).mono ?_
      rintro e w2 ⟨rfl, hb⟩
      have bw2 : Below w.heap.size w w2 := bl (by go_grown) hb
      have qw2 := hb.size
      try simp only [World.size_alloc] at qw2
      have kw20 := fun o => hb.cell (p := ⟨w.heap.size, o, none⟩) (by first | (show w.heap.size < _; omega) | (show w.heap.size < _; simp only [World.size_alloc]; omega))
      have pw20 : w.heap.size < w2.heap.size := by omega
      have kw21 := fun o => hb.cell (p := ⟨w.heap.size + 1, o, none⟩) (by first | (show w.heap.size + 1 < _; omega) | (show w.heap.size + 1 < _; simp only [World.size_alloc]; omega))
      have pw21 : w.heap.size + 1 < w2.heap.size := by omega
      have kw22 := fun o => hb.cell (p := ⟨w1.heap.size + 1, o, none⟩) (by first | (show w1.heap.size + 1 < _; omega) | (show w1.heap.size + 1 < _; simp only [World.size_alloc]; omega))
      have pw22 : w1.heap.size + 1 < w2.heap.size := by omega
      have HBw2 := Lib.hid hb
      clear hb
      go_wp2_with fail
      refine (after_two l m r (k : Int) y h (by omega) hy (by omega) _).mono ?_
      rintro e w3 ⟨rfl, hb⟩
      have bw3 : Below w.heap.size w w3 := bl (by go_grown) hb
      have qw3 := hb.size
      try simp only [World.size_alloc] at qw3
      have kw30 := fun o => hb.cell (p := ⟨w.heap.size, o, none⟩) (by first | (show w.heap.size < _; omega) | (show w.heap.size < _; simp only [World.size_alloc]; omega))
      have pw30 : w.heap.size < w3.heap.size := by omega
      have kw31 := fun o => hb.cell (p := ⟨w.heap.size + 1, o, none⟩) (by first | (show w.heap.size + 1 < _; omega) | (show w.heap.size + 1 < _; simp only [World.size_alloc]; omega))
      have pw31 : w.heap.size + 1 < w3.heap.size := by omega
      have kw32 := fun o => hb.cell (p := ⟨w1.heap.size + 1, o, none⟩) (by first | (show w1.heap.size + 1 < _; omega) | (show w1.heap.size + 1 < _; simp only [World.size_alloc]; omega))
      have pw32 : w1.heap.size + 1 < w3.heap.size := by omega
      have kw33 := fun o => hb.cell (p := ⟨w2.heap.size, o, none⟩) (by first | (show w2.heap.size < _; omega) | (show w2.heap.size < _; simp only [World.size_alloc]; omega))
      have pw33 : w2.heap.size < w3.heap.size := by omega
      have HBw3 := Lib.hid hb
      clear hb
      go_wp2_with fail
      refine (after_yes l m r ((k : Int) + y) h (by omega) (by omega) _).mono ?_
      rintro e w4 ⟨rfl, hb⟩
      have bw4 : Below w.heap.size w w4 := bl (by go_grown) hb
      have qw4 := hb.size
      try simp only [World.size_alloc] at qw4
      have kw40 := fun o => hb.cell (p := ⟨w.heap.size, o, none⟩) (by first | (show w.heap.size < _; omega) | (show w.heap.size < _; simp only [World.size_alloc]; omega))
      have pw40 : w.heap.size < w4.heap.size := by omega
      have kw41 := fun o => hb.cell (p := ⟨w.heap.size + 1, o, none⟩) (by first | (show w.heap.size + 1 < _; omega) | (show w.heap.size + 1 < _; simp only [World.size_alloc]; omega))
      have pw41 : w.heap.size + 1 < w4.heap.size := by omega
      have kw42 := fun o => hb.cell (p := ⟨w1.heap.size + 1, o, none⟩) (by first | (show w1.heap.size + 1 < _; omega) | (show w1.heap.size + 1 < _; simp only [World.size_alloc]; omega))
      have pw42 : w1.heap.size + 1 < w4.heap.size := by omega
      have kw43 := fun o => hb.cell (p := ⟨w2.heap.size, o, none⟩) (by first | (show w2.heap.size < _; omega) | (show w2.heap.size < _; simp only [World.size_alloc]; omega))
      have pw43 : w2.heap.size < w4.heap.size := by omega
      have kw44 := fun o => hb.cell (p := ⟨w3.heap.size, o, none⟩) (by first | (show w3.heap.size < _; omega) | (show w3.heap.size < _; simp only [World.size_alloc]; omega))
      have pw44 : w3.heap.size < w4.heap.size := by omega
      have HBw4 := Lib.hid hb
      clear hb
      go_wp2_with fail
      refine (ticks_neg l m r n h hn _).mono ?_
      rintro e w5 ⟨rfl, hb⟩
      have bw5 : Below w.heap.size w w5 := bl (by go_grown) hb
      have qw5 := hb.size
      try simp only [World.size_alloc] at qw5
      have kw50 := fun o => hb.cell (p := ⟨w.heap.size, o, none⟩) (by first | (show w.heap.size < _; omega) | (show w.heap.size < _; simp only [World.size_alloc]; omega))
      have pw50 : w.heap.size < w5.heap.size := by omega
      have HBw5 := Lib.hid hb
      clear hb
      go_wp2_with fail
      refine (after_yes l m r 1048576 h (by omega) (by omega) _).mono ?_
      rintro e w6 ⟨rfl, hb⟩
      have bw6 : Below w.heap.size w w6 := bl (by go_grown) hb
      have qw6 := hb.size
      try simp only [World.size_alloc] at qw6
      have HBw6 := Lib.hid hb
      clear hb
      go_wp2_with fail
      refine (spend_neg (lat l m r 1048576) m r n hF hn _).mono ?_
      rintro e w7 ⟨rfl, hb⟩
      have bw7 : Below w.heap.size w w7 := bl (by go_grown) hb
      have qw7 := hb.size
      try simp only [World.size_alloc] at qw7
      have HBw7 := Lib.hid hb
      clear hb
      go_wp2_with fail
      refine (awake_any _).mono ?_
      rintro e w99 ⟨rfl, hb⟩
      have bw99 : Below w.heap.size w w99 := bl (by go_grown) hb
      go_wp2
      go_ret
      exact ⟨rfl, by go_grown⟩

set_option maxRecDepth 100000 in
set_option maxHeartbeats 2000000 in
theorem pSteps_over (l m r : Int) (X : Nat) (y n : Int) (h : Rt l m r) (hX : X ≤ 300) (hy : 0 ≤ y) (hy2 : y ≤ 1000000) (hn : 0 ≤ n) (hm : m < n) (w : World) :
    Calls Try.prog 7 #[P3 l m r, .agg #[.int .i64 (X : Int), .int .i64 y], .int .i64 n] w fun e w' => e = .returned (.bool true) ∧ Below w.heap.size w w' := by
  obtain ⟨h1, h2, h3, h4, h5, h6⟩ := id h
  have hF : Rt (lat l m r 1048576) m r := by obtain ⟨b1, b2⟩ := lat_bd (t := 1048576) h4 h5 (by omega); exact ⟨h1, h2, by omega, b2, h5, h6⟩
  have hF2 : lat l m r 1048576 < n := by have := (lat_bd (t := 1048576) h4 h5 (by omega)).2; omega
  go_enter Try.func7, Try.ntmps7
  go_wp2_with fail
  refine (tick_yes l m r h _).mono ?_
  rintro e w1 ⟨rfl, hb⟩
  have bw1 : Below w.heap.size w w1 := bl (by go_grown) hb
  have qw1 := hb.size
  try simp only [World.size_alloc] at qw1
  have kw10 := fun o => hb.cell (p := ⟨w.heap.size, o, none⟩) (by first | (show w.heap.size < _; omega) | (show w.heap.size < _; simp only [World.size_alloc]; omega))
  have pw10 : w.heap.size < w1.heap.size := by omega
  have kw11 := fun o => hb.cell (p := ⟨w.heap.size + 1, o, none⟩) (by first | (show w.heap.size + 1 < _; omega) | (show w.heap.size + 1 < _; simp only [World.size_alloc]; omega))
  have pw11 : w.heap.size + 1 < w1.heap.size := by omega
  have HBw1 := Lib.hid hb
  clear hb
  have hbP : Blk w1 w.heap.size 23 #[.int .i64 l, .int .i64 m, .int .i64 r] := ((Blk.new w 23 _).alloc _).below HBw1.out (by simp only [World.size_alloc]; omega)
  have hbT : Blk w1 (w.heap.size + 1) 48 #[.int .i64 (X : Int), .int .i64 y] := (Blk.new1 w _ 48 _).below HBw1.out (by simp only [World.size_alloc]; omega)
  have HBP := Lib.hid hbP
  have HBT := Lib.hid hbT
  have lP := hbP.lt
  have lT := hbT.lt
  clear hbP hbT
  go_wp2
  go_loopw [10] (fun i wr => ∃ k : Nat, k ≤ X ∧ i = .int .i64 k ∧ Blk wr w.heap.size 23 #[.int .i64 l, .int .i64 m, .int .i64 r] ∧ Blk wr (w.heap.size + 1) 48 #[.int .i64 (X : Int), .int .i64 y] ∧ Blk wr (w1.heap.size + 1) 23 #[.int .i64 (lat l m r k), .int .i64 m, .int .i64 r] ∧ Below w.heap.size w wr)
    (fun i _ => X - (intOf i).toNat)
  case atStart =>
    refine ⟨0, by omega, rfl, (HBP.out.alloc _).alloc _, (HBT.out.alloc _).alloc _, ?_, by go_grown⟩
    rw [show ((0 : Nat) : Int) = 0 from rfl, lat_zero h4]
    exact Blk.new1 w1 _ _ _
  case round =>
    obtain ⟨k, hk, rfl, hb0, hb1, hb2, hbel⟩ := hrel
    have kP := hb0.cell
    have kT := hb1.cell
    have kX := hb2.cell
    have fX := hb2.frozen
    have lP' := hb0.lt
    have lT' := hb1.lt
    have lX' := hb2.lt
    have H0 := Lib.hid hb0
    have H1 := Lib.hid hb1
    have H2 := Lib.hid hb2
    obtain ⟨hL1, hL2⟩ := lat_bd (t := (k : Int)) h4 h5 (by omega)
    have HS := Lib.hid (lat_succ (l := l) (m := m) (t := (k : Int)) h5)
    clear hb0 hb1 hb2 kw10 kw11 HBw1 HBP HBT
    by_cases hlt : k < X
    · go_wp2_with fail
      refine (tick_yes (lat l m r k) m r ⟨h1, h2, by omega, hL2, h5, h6⟩ _).mono ?_
      rintro e w2 ⟨rfl, hb⟩
      have bw2 := bl hbel hb
      have q2 := hb.size
      have J0 := Lib.hid (H0.out.below hb lP')
      have J1 := Lib.hid (H1.out.below hb lT')
      have J2 := Lib.hid (H2.out.below hb lX')
      have jX := J2.out.cell
      have gX := J2.out.frozen
      have mX := J2.out.lt
      clear hb kX fX
      go_wp2
      go_roundw
      case rel =>
        refine ⟨k + 1, by omega, by go_num, ?_, ?_, ?_, by go_grown⟩
        · exact (((J0.out.far (by simp; omega) _).far (by simp; omega) _).far (by simp; omega) _).alloc _
        · exact (((J1.out.far (by simp; omega) _).far (by simp; omega) _).far (by simp; omega) _).alloc _
        · have := (((J2.out.set_ 0 (.int .i64 (lat (lat l m r k) m r 1))).set_ 1 (.int .i64 m)).set_ 2 (.int .i64 r)).alloc (.cells #[.int .i64 (lat (lat l m r k) m r 1), .int .i64 m, .int .i64 r] 23)
          rw [HS.out] at this
          rw [HS.out]
          simpa using this
      case measure => simp [intOf]; omega
    · obtain rfl : k = X := by omega
      clear hlt HS
      go_wp2_with fail
      refine (after_yes l m r (k : Int) h (by omega) (by omega) _).mono ?_
      rintro e w2 ⟨rfl, hb⟩
      have bw2 : Below w.heap.size w w2 := bl (by go_grown) hb
      have qw2 := hb.size
      try simp only [World.size_alloc] at qw2
      have kw20 := fun o => hb.cell (p := ⟨w.heap.size, o, none⟩) (by first | (show w.heap.size < _; omega) | (show w.heap.size < _; simp only [World.size_alloc]; omega))
      have pw20 : w.heap.size < w2.heap.size := by omega
      have kw21 := fun o => hb.cell (p := ⟨w.heap.size + 1, o, none⟩) (by first | (show w.heap.size + 1 < _; omega) | (show w.heap.size + 1 < _; simp only [World.size_alloc]; omega))
      have pw21 : w.heap.size + 1 < w2.heap.size := by omega
      have kw22 := fun o => hb.cell (p := ⟨w1.heap.size + 1, o, none⟩) (by first | (show w1.heap.size + 1 < _; omega) | (show w1.heap.size + 1 < _; simp only [World.size_alloc]; omega))
      have pw22 : w1.heap.size + 1 < w2.heap.size := by omega
      have HBw2 := Lib.hid hb
      clear hb
      go_wp2_with fail
      refine (after_two l m r (k : Int) y h (by omega) hy (by omega) _).mono ?_
      rintro e w3 ⟨rfl, hb⟩
      have bw3 : Below w.heap.size w w3 := bl (by go_grown) hb
      have qw3 := hb.size
      try simp only [World.size_alloc] at qw3
      have kw30 := fun o => hb.cell (p := ⟨w.heap.size, o, none⟩) (by first | (show w.heap.size < _; omega) | (show w.heap.size < _; simp only [World.size_alloc]; omega))
      have pw30 : w.heap.size < w3.heap.size := by omega
      have kw31 := fun o => hb.cell (p := ⟨w.heap.size + 1, o, none⟩) (by first | (show w.heap.size + 1 < _; omega) | (show w.heap.size + 1 < _; simp only [World.size_alloc]; omega))
      have pw31 : w.heap.size + 1 < w3.heap.size := by omega
      have kw32 := fun o => hb.cell (p := ⟨w1.heap.size + 1, o, none⟩) (by first | (show w1.heap.size + 1 < _; omega) | (show w1.heap.size + 1 < _; simp only [World.size_alloc]; omega))
      have pw32 : w1.heap.size + 1 < w3.heap.size := by omega
      have kw33 := fun o => hb.cell (p := ⟨w2.heap.size, o, none⟩) (by first | (show w2.heap.size < _; omega) | (show w2.heap.size < _; simp only [World.size_alloc]; omega))
      have pw33 : w2.heap.size < w3.heap.size := by omega
      have HBw3 := Lib.hid hb
      clear hb
      go_wp2_with fail
      refine (after_yes l m r ((k : Int) + y) h (by omega) (by omega) _).mono ?_
      rintro e w4 ⟨rfl, hb⟩
      have bw4 : Below w.heap.size w w4 := bl (by go_grown) hb
      have qw4 := hb.size
      try simp only [World.size_alloc] at qw4
      have kw40 := fun o => hb.cell (p := ⟨w.heap.size, o, none⟩) (by first | (show w.heap.size < _; omega) | (show w.heap.size < _; simp only [World.size_alloc]; omega))
      have pw40 : w.heap.size < w4.heap.size := by omega
      have kw41 := fun o => hb.cell (p := ⟨w.heap.size + 1, o, none⟩) (by first | (show w.heap.size + 1 < _; omega) | (show w.heap.size + 1 < _; simp only [World.size_alloc]; omega))
      have pw41 : w.heap.size + 1 < w4.heap.size := by omega
      have kw42 := fun o => hb.cell (p := ⟨w1.heap.size + 1, o, none⟩) (by first | (show w1.heap.size + 1 < _; omega) | (show w1.heap.size + 1 < _; simp only [World.size_alloc]; omega))
      have pw42 : w1.heap.size + 1 < w4.heap.size := by omega
      have kw43 := fun o => hb.cell (p := ⟨w2.heap.size, o, none⟩) (by first | (show w2.heap.size < _; omega) | (show w2.heap.size < _; simp only [World.size_alloc]; omega))
      have pw43 : w2.heap.size < w4.heap.size := by omega
      have kw44 := fun o => hb.cell (p := ⟨w3.heap.size, o, none⟩) (by first | (show w3.heap.size < _; omega) | (show w3.heap.size < _; simp only [World.size_alloc]; omega))
      have pw44 : w3.heap.size < w4.heap.size := by omega
      have HBw4 := Lib.hid hb
      clear hb
      go_wp2_with fail
      refine (ticks_over l m r n h hn hm _).mono ?_
      rintro e w5 ⟨rfl, hb⟩
      have bw5 : Below w.heap.size w w5 := bl (by go_grown) hb
      have qw5 := hb.size
      try simp only [World.size_alloc] at qw5
      have kw50 := fun o => hb.cell (p := ⟨w.heap.size, o, none⟩) (by first | (show w.heap.size < _; omega) | (show w.heap.size < _; simp only [World.size_alloc]; omega))
      have pw50 : w.heap.size < w5.heap.size := by omega
      have HBw5 := Lib.hid hb
      clear hb
      go_wp2_with fail
      refine (after_yes l m r 1048576 h (by omega) (by omega) _).mono ?_
      rintro e w6 ⟨rfl, hb⟩
      have bw6 : Below w.heap.size w w6 := bl (by go_grown) hb
      have qw6 := hb.size
      try simp only [World.size_alloc] at qw6
      have HBw6 := Lib.hid hb
      clear hb
      go_wp2_with fail
      refine (spend_over (lat l m r 1048576) m r n hF hF2 _).mono ?_
      rintro e w7 ⟨rfl, hb⟩
      have bw7 : Below w.heap.size w w7 := bl (by go_grown) hb
      have qw7 := hb.size
      try simp only [World.size_alloc] at qw7
      have HBw7 := Lib.hid hb
      clear hb
      go_wp2_with fail
      refine (awake_any _).mono ?_
      rintro e w99 ⟨rfl, hb⟩
      have bw99 : Below w.heap.size w w99 := bl (by go_grown) hb
      go_wp2
      go_ret
      exact ⟨rfl, by go_grown⟩

set_option maxRecDepth 100000 in
set_option maxHeartbeats 2000000 in
theorem pSteps_never (l m : Int) (X : Nat) (y n : Int) (h : Rt l m 0) (hX : X ≤ 300) (hy : 0 ≤ y) (hy2 : y ≤ 1000000) (hn : 0 ≤ n) (hm : n ≤ m) (hl : l < n) (w : World) :
    Calls Try.prog 7 #[P3 l m 0, .agg #[.int .i64 (X : Int), .int .i64 y], .int .i64 n] w fun e w' => e = .returned (.bool true) ∧ Below w.heap.size w w' := by
  obtain ⟨h1, h2, h3, h4, h5, h6⟩ := id h
  have hF : Rt (lat l m 0 1048576) m 0 := by obtain ⟨b1, b2⟩ := lat_bd (t := 1048576) h4 h5 (by omega); exact ⟨h1, h2, by omega, b2, h5, h6⟩
  have hF2 : lat l m 0 1048576 < n := by rw [lat_none h4]; exact hl
  go_enter Try.func7, Try.ntmps7
  go_wp2_with fail
  refine (tick_yes l m 0 h _).mono ?_
  rintro e w1 ⟨rfl, hb⟩
  have bw1 : Below w.heap.size w w1 := bl (by go_grown) hb
  have qw1 := hb.size
  try simp only [World.size_alloc] at qw1
  have kw10 := fun o => hb.cell (p := ⟨w.heap.size, o, none⟩) (by first | (show w.heap.size < _; omega) | (show w.heap.size < _; simp only [World.size_alloc]; omega))
  have pw10 : w.heap.size < w1.heap.size := by omega
  have kw11 := fun o => hb.cell (p := ⟨w.heap.size + 1, o, none⟩) (by first | (show w.heap.size + 1 < _; omega) | (show w.heap.size + 1 < _; simp only [World.size_alloc]; omega))
  have pw11 : w.heap.size + 1 < w1.heap.size := by omega
  have HBw1 := Lib.hid hb
  clear hb
  have hbP : Blk w1 w.heap.size 23 #[.int .i64 l, .int .i64 m, .int .i64 0] := ((Blk.new w 23 _).alloc _).below HBw1.out (by simp only [World.size_alloc]; omega)
  have hbT : Blk w1 (w.heap.size + 1) 48 #[.int .i64 (X : Int), .int .i64 y] := (Blk.new1 w _ 48 _).below HBw1.out (by simp only [World.size_alloc]; omega)
  have HBP := Lib.hid hbP
  have HBT := Lib.hid hbT
  have lP := hbP.lt
  have lT := hbT.lt
  clear hbP hbT
  go_wp2
  go_loopw [10] (fun i wr => ∃ k : Nat, k ≤ X ∧ i = .int .i64 k ∧ Blk wr w.heap.size 23 #[.int .i64 l, .int .i64 m, .int .i64 0] ∧ Blk wr (w.heap.size + 1) 48 #[.int .i64 (X : Int), .int .i64 y] ∧ Blk wr (w1.heap.size + 1) 23 #[.int .i64 (lat l m 0 k), .int .i64 m, .int .i64 0] ∧ Below w.heap.size w wr)
    (fun i _ => X - (intOf i).toNat)
  case atStart =>
    refine ⟨0, by omega, rfl, (HBP.out.alloc _).alloc _, (HBT.out.alloc _).alloc _, ?_, by go_grown⟩
    rw [show ((0 : Nat) : Int) = 0 from rfl, lat_zero h4]
    exact Blk.new1 w1 _ _ _
  case round =>
    obtain ⟨k, hk, rfl, hb0, hb1, hb2, hbel⟩ := hrel
    have kP := hb0.cell
    have kT := hb1.cell
    have kX := hb2.cell
    have fX := hb2.frozen
    have lP' := hb0.lt
    have lT' := hb1.lt
    have lX' := hb2.lt
    have H0 := Lib.hid hb0
    have H1 := Lib.hid hb1
    have H2 := Lib.hid hb2
    obtain ⟨hL1, hL2⟩ := lat_bd (t := (k : Int)) h4 h5 (by omega)
    have HS := Lib.hid (lat_succ (l := l) (m := m) (t := (k : Int)) h5)
    clear hb0 hb1 hb2 kw10 kw11 HBw1 HBP HBT
    by_cases hlt : k < X
    · go_wp2_with fail
      refine (tick_yes (lat l m 0 k) m 0 ⟨h1, h2, by omega, hL2, h5, h6⟩ _).mono ?_
      rintro e w2 ⟨rfl, hb⟩
      have bw2 := bl hbel hb
      have q2 := hb.size
      have J0 := Lib.hid (H0.out.below hb lP')
      have J1 := Lib.hid (H1.out.below hb lT')
      have J2 := Lib.hid (H2.out.below hb lX')
      have jX := J2.out.cell
      have gX := J2.out.frozen
      have mX := J2.out.lt
      clear hb kX fX
      go_wp2
      go_roundw
      case rel =>
        refine ⟨k + 1, by omega, by go_num, ?_, ?_, ?_, by go_grown⟩
        · exact (((J0.out.far (by simp; omega) _).far (by simp; omega) _).far (by simp; omega) _).alloc _
        · exact (((J1.out.far (by simp; omega) _).far (by simp; omega) _).far (by simp; omega) _).alloc _
        · have := (((J2.out.set_ 0 (.int .i64 (lat (lat l m 0 k) m 0 1))).set_ 1 (.int .i64 m)).set_ 2 (.int .i64 0)).alloc (.cells #[.int .i64 (lat (lat l m 0 k) m 0 1), .int .i64 m, .int .i64 0] 23)
          rw [HS.out] at this
          rw [HS.out]
          simpa using this
      case measure => simp [intOf]; omega
    · obtain rfl : k = X := by omega
      clear hlt HS
      go_wp2_with fail
      refine (after_yes l m 0 (k : Int) h (by omega) (by omega) _).mono ?_
      rintro e w2 ⟨rfl, hb⟩
      have bw2 : Below w.heap.size w w2 := bl (by go_grown) hb
      have qw2 := hb.size
      try simp only [World.size_alloc] at qw2
      have kw20 := fun o => hb.cell (p := ⟨w.heap.size, o, none⟩) (by first | (show w.heap.size < _; omega) | (show w.heap.size < _; simp only [World.size_alloc]; omega))
      have pw20 : w.heap.size < w2.heap.size := by omega
      have kw21 := fun o => hb.cell (p := ⟨w.heap.size + 1, o, none⟩) (by first | (show w.heap.size + 1 < _; omega) | (show w.heap.size + 1 < _; simp only [World.size_alloc]; omega))
      have pw21 : w.heap.size + 1 < w2.heap.size := by omega
      have kw22 := fun o => hb.cell (p := ⟨w1.heap.size + 1, o, none⟩) (by first | (show w1.heap.size + 1 < _; omega) | (show w1.heap.size + 1 < _; simp only [World.size_alloc]; omega))
      have pw22 : w1.heap.size + 1 < w2.heap.size := by omega
      have HBw2 := Lib.hid hb
      clear hb
      go_wp2_with fail
      refine (after_two l m 0 (k : Int) y h (by omega) hy (by omega) _).mono ?_
      rintro e w3 ⟨rfl, hb⟩
      have bw3 : Below w.heap.size w w3 := bl (by go_grown) hb
      have qw3 := hb.size
      try simp only [World.size_alloc] at qw3
      have kw30 := fun o => hb.cell (p := ⟨w.heap.size, o, none⟩) (by first | (show w.heap.size < _; omega) | (show w.heap.size < _; simp only [World.size_alloc]; omega))
      have pw30 : w.heap.size < w3.heap.size := by omega
      have kw31 := fun o => hb.cell (p := ⟨w.heap.size + 1, o, none⟩) (by first | (show w.heap.size + 1 < _; omega) | (show w.heap.size + 1 < _; simp only [World.size_alloc]; omega))
      have pw31 : w.heap.size + 1 < w3.heap.size := by omega
      have kw32 := fun o => hb.cell (p := ⟨w1.heap.size + 1, o, none⟩) (by first | (show w1.heap.size + 1 < _; omega) | (show w1.heap.size + 1 < _; simp only [World.size_alloc]; omega))
      have pw32 : w1.heap.size + 1 < w3.heap.size := by omega
      have kw33 := fun o => hb.cell (p := ⟨w2.heap.size, o, none⟩) (by first | (show w2.heap.size < _; omega) | (show w2.heap.size < _; simp only [World.size_alloc]; omega))
      have pw33 : w2.heap.size < w3.heap.size := by omega
      have HBw3 := Lib.hid hb
      clear hb
      go_wp2_with fail
      refine (after_yes l m 0 ((k : Int) + y) h (by omega) (by omega) _).mono ?_
      rintro e w4 ⟨rfl, hb⟩
      have bw4 : Below w.heap.size w w4 := bl (by go_grown) hb
      have qw4 := hb.size
      try simp only [World.size_alloc] at qw4
      have kw40 := fun o => hb.cell (p := ⟨w.heap.size, o, none⟩) (by first | (show w.heap.size < _; omega) | (show w.heap.size < _; simp only [World.size_alloc]; omega))
      have pw40 : w.heap.size < w4.heap.size := by omega
      have kw41 := fun o => hb.cell (p := ⟨w.heap.size + 1, o, none⟩) (by first | (show w.heap.size + 1 < _; omega) | (show w.heap.size + 1 < _; simp only [World.size_alloc]; omega))
      have pw41 : w.heap.size + 1 < w4.heap.size := by omega
      have kw42 := fun o => hb.cell (p := ⟨w1.heap.size + 1, o, none⟩) (by first | (show w1.heap.size + 1 < _; omega) | (show w1.heap.size + 1 < _; simp only [World.size_alloc]; omega))
      have pw42 : w1.heap.size + 1 < w4.heap.size := by omega
      have kw43 := fun o => hb.cell (p := ⟨w2.heap.size, o, none⟩) (by first | (show w2.heap.size < _; omega) | (show w2.heap.size < _; simp only [World.size_alloc]; omega))
      have pw43 : w2.heap.size < w4.heap.size := by omega
      have kw44 := fun o => hb.cell (p := ⟨w3.heap.size, o, none⟩) (by first | (show w3.heap.size < _; omega) | (show w3.heap.size < _; simp only [World.size_alloc]; omega))
      have pw44 : w3.heap.size < w4.heap.size := by omega
      have HBw4 := Lib.hid hb
      clear hb
      go_wp2_with fail
      refine (ticks_never l m n h hn hm hl _).mono ?_
      rintro e w5 ⟨rfl, hb⟩
      have bw5 : Below w.heap.size w w5 := bl (by go_grown) hb
      have qw5 := hb.size
      try simp only [World.size_alloc] at qw5
      have kw50 := fun o => hb.cell (p := ⟨w.heap.size, o, none⟩) (by first | (show w.heap.size < _; omega) | (show w.heap.size < _; simp only [World.size_alloc]; omega))
      have pw50 : w.heap.size < w5.heap.size := by omega
      have HBw5 := Lib.hid hb
      clear hb
      go_wp2_with fail
      refine (after_yes l m 0 1048576 h (by omega) (by omega) _).mono ?_
      rintro e w6 ⟨rfl, hb⟩
      have bw6 : Below w.heap.size w w6 := bl (by go_grown) hb
      have qw6 := hb.size
      try simp only [World.size_alloc] at qw6
      have HBw6 := Lib.hid hb
      clear hb
      go_wp2_with fail
      refine (spend_over (lat l m 0 1048576) m 0 n hF hF2 _).mono ?_
      rintro e w7 ⟨rfl, hb⟩
      have bw7 : Below w.heap.size w w7 := bl (by go_grown) hb
      have qw7 := hb.size
      try simp only [World.size_alloc] at qw7
      have HBw7 := Lib.hid hb
      clear hb
      go_wp2_with fail
      refine (awake_any _).mono ?_
      rintro e w99 ⟨rfl, hb⟩
      have bw99 : Below w.heap.size w w99 := bl (by go_grown) hb
      go_wp2
      go_ret
      exact ⟨rfl, by go_grown⟩

set_option maxRecDepth 100000 in
set_option maxHeartbeats 2000000 in
theorem pSteps_now (l m r : Int) (X : Nat) (y n : Int) (h : Rt l m r) (hX : X ≤ 300) (hy : 0 ≤ y) (hy2 : y ≤ 1000000) (hn : 0 ≤ n) (hm : n ≤ m) (hl : n ≤ l) (w : World) :
    Calls Try.prog 7 #[P3 l m r, .agg #[.int .i64 (X : Int), .int .i64 y], .int .i64 n] w fun e w' => e = .returned (.bool true) ∧ Below w.heap.size w w' := by
  obtain ⟨h1, h2, h3, h4, h5, h6⟩ := id h
  have hF : Rt (lat l m r 0) m r := by obtain ⟨b1, b2⟩ := lat_bd (t := 0) h4 h5 (by omega); exact ⟨h1, h2, by omega, b2, h5, h6⟩
  have hF2 : n ≤ lat l m r 0 := by rw [lat_zero h4]; exact hl
  go_enter Try.func7, Try.ntmps7
  go_wp2_with fail
  refine (tick_yes l m r h _).mono ?_
  rintro e w1 ⟨rfl, hb⟩
  have bw1 : Below w.heap.size w w1 := bl (by go_grown) hb
  have qw1 := hb.size
  try simp only [World.size_alloc] at qw1
  have kw10 := fun o => hb.cell (p := ⟨w.heap.size, o, none⟩) (by first | (show w.heap.size < _; omega) | (show w.heap.size < _; simp only [World.size_alloc]; omega))
  have pw10 : w.heap.size < w1.heap.size := by omega
  have kw11 := fun o => hb.cell (p := ⟨w.heap.size + 1, o, none⟩) (by first | (show w.heap.size + 1 < _; omega) | (show w.heap.size + 1 < _; simp only [World.size_alloc]; omega))
  have pw11 : w.heap.size + 1 < w1.heap.size := by omega
  have HBw1 := Lib.hid hb
  clear hb
  have hbP : Blk w1 w.heap.size 23 #[.int .i64 l, .int .i64 m, .int .i64 r] := ((Blk.new w 23 _).alloc _).below HBw1.out (by simp only [World.size_alloc]; omega)
  have hbT : Blk w1 (w.heap.size + 1) 48 #[.int .i64 (X : Int), .int .i64 y] := (Blk.new1 w _ 48 _).below HBw1.out (by simp only [World.size_alloc]; omega)
  have HBP := Lib.hid hbP
  have HBT := Lib.hid hbT
  have lP := hbP.lt
  have lT := hbT.lt
  clear hbP hbT
  go_wp2
  go_loopw [10] (fun i wr => ∃ k : Nat, k ≤ X ∧ i = .int .i64 k ∧ Blk wr w.heap.size 23 #[.int .i64 l, .int .i64 m, .int .i64 r] ∧ Blk wr (w.heap.size + 1) 48 #[.int .i64 (X : Int), .int .i64 y] ∧ Blk wr (w1.heap.size + 1) 23 #[.int .i64 (lat l m r k), .int .i64 m, .int .i64 r] ∧ Below w.heap.size w wr)
    (fun i _ => X - (intOf i).toNat)
  case atStart =>
    refine ⟨0, by omega, rfl, (HBP.out.alloc _).alloc _, (HBT.out.alloc _).alloc _, ?_, by go_grown⟩
    rw [show ((0 : Nat) : Int) = 0 from rfl, lat_zero h4]
    exact Blk.new1 w1 _ _ _
  case round =>
    obtain ⟨k, hk, rfl, hb0, hb1, hb2, hbel⟩ := hrel
    have kP := hb0.cell
    have kT := hb1.cell
    have kX := hb2.cell
    have fX := hb2.frozen
    have lP' := hb0.lt
    have lT' := hb1.lt
    have lX' := hb2.lt
    have H0 := Lib.hid hb0
    have H1 := Lib.hid hb1
    have H2 := Lib.hid hb2
    obtain ⟨hL1, hL2⟩ := lat_bd (t := (k : Int)) h4 h5 (by omega)
    have HS := Lib.hid (lat_succ (l := l) (m := m) (t := (k : Int)) h5)
    clear hb0 hb1 hb2 kw10 kw11 HBw1 HBP HBT
    by_cases hlt : k < X
    · go_wp2_with fail
      refine (tick_yes (lat l m r k) m r ⟨h1, h2, by omega, hL2, h5, h6⟩ _).mono ?_
      rintro e w2 ⟨rfl, hb⟩
      have bw2 := bl hbel hb
      have q2 := hb.size
      have J0 := Lib.hid (H0.out.below hb lP')
      have J1 := Lib.hid (H1.out.below hb lT')
      have J2 := Lib.hid (H2.out.below hb lX')
      have jX := J2.out.cell
      have gX := J2.out.frozen
      have mX := J2.out.lt
      clear hb kX fX
      go_wp2
      go_roundw
      case rel =>
        refine ⟨k + 1, by omega, by go_num, ?_, ?_, ?_, by go_grown⟩
        · exact (((J0.out.far (by simp; omega) _).far (by simp; omega) _).far (by simp; omega) _).alloc _
        · exact (((J1.out.far (by simp; omega) _).far (by simp; omega) _).far (by simp; omega) _).alloc _
        · have := (((J2.out.set_ 0 (.int .i64 (lat (lat l m r k) m r 1))).set_ 1 (.int .i64 m)).set_ 2 (.int .i64 r)).alloc (.cells #[.int .i64 (lat (lat l m r k) m r 1), .int .i64 m, .int .i64 r] 23)
          rw [HS.out] at this
          rw [HS.out]
          simpa using this
      case measure => simp [intOf]; omega
    · obtain rfl : k = X := by omega
      clear hlt HS
      go_wp2_with fail
      refine (after_yes l m r (k : Int) h (by omega) (by omega) _).mono ?_
      rintro e w2 ⟨rfl, hb⟩
      have bw2 : Below w.heap.size w w2 := bl (by go_grown) hb
      have qw2 := hb.size
      try simp only [World.size_alloc] at qw2
      have kw20 := fun o => hb.cell (p := ⟨w.heap.size, o, none⟩) (by first | (show w.heap.size < _; omega) | (show w.heap.size < _; simp only [World.size_alloc]; omega))
      have pw20 : w.heap.size < w2.heap.size := by omega
      have kw21 := fun o => hb.cell (p := ⟨w.heap.size + 1, o, none⟩) (by first | (show w.heap.size + 1 < _; omega) | (show w.heap.size + 1 < _; simp only [World.size_alloc]; omega))
      have pw21 : w.heap.size + 1 < w2.heap.size := by omega
      have kw22 := fun o => hb.cell (p := ⟨w1.heap.size + 1, o, none⟩) (by first | (show w1.heap.size + 1 < _; omega) | (show w1.heap.size + 1 < _; simp only [World.size_alloc]; omega))
      have pw22 : w1.heap.size + 1 < w2.heap.size := by omega
      have HBw2 := Lib.hid hb
      clear hb
      go_wp2_with fail
      refine (after_two l m r (k : Int) y h (by omega) hy (by omega) _).mono ?_
      rintro e w3 ⟨rfl, hb⟩
      have bw3 : Below w.heap.size w w3 := bl (by go_grown) hb
      have qw3 := hb.size
      try simp only [World.size_alloc] at qw3
      have kw30 := fun o => hb.cell (p := ⟨w.heap.size, o, none⟩) (by first | (show w.heap.size < _; omega) | (show w.heap.size < _; simp only [World.size_alloc]; omega))
      have pw30 : w.heap.size < w3.heap.size := by omega
      have kw31 := fun o => hb.cell (p := ⟨w.heap.size + 1, o, none⟩) (by first | (show w.heap.size + 1 < _; omega) | (show w.heap.size + 1 < _; simp only [World.size_alloc]; omega))
      have pw31 : w.heap.size + 1 < w3.heap.size := by omega
      have kw32 := fun o => hb.cell (p := ⟨w1.heap.size + 1, o, none⟩) (by first | (show w1.heap.size + 1 < _; omega) | (show w1.heap.size + 1 < _; simp only [World.size_alloc]; omega))
      have pw32 : w1.heap.size + 1 < w3.heap.size := by omega
      have kw33 := fun o => hb.cell (p := ⟨w2.heap.size, o, none⟩) (by first | (show w2.heap.size < _; omega) | (show w2.heap.size < _; simp only [World.size_alloc]; omega))
      have pw33 : w2.heap.size < w3.heap.size := by omega
      have HBw3 := Lib.hid hb
      clear hb
      go_wp2_with fail
      refine (after_yes l m r ((k : Int) + y) h (by omega) (by omega) _).mono ?_
      rintro e w4 ⟨rfl, hb⟩
      have bw4 : Below w.heap.size w w4 := bl (by go_grown) hb
      have qw4 := hb.size
      try simp only [World.size_alloc] at qw4
      have kw40 := fun o => hb.cell (p := ⟨w.heap.size, o, none⟩) (by first | (show w.heap.size < _; omega) | (show w.heap.size < _; simp only [World.size_alloc]; omega))
      have pw40 : w.heap.size < w4.heap.size := by omega
      have kw41 := fun o => hb.cell (p := ⟨w.heap.size + 1, o, none⟩) (by first | (show w.heap.size + 1 < _; omega) | (show w.heap.size + 1 < _; simp only [World.size_alloc]; omega))
      have pw41 : w.heap.size + 1 < w4.heap.size := by omega
      have kw42 := fun o => hb.cell (p := ⟨w1.heap.size + 1, o, none⟩) (by first | (show w1.heap.size + 1 < _; omega) | (show w1.heap.size + 1 < _; simp only [World.size_alloc]; omega))
      have pw42 : w1.heap.size + 1 < w4.heap.size := by omega
      have kw43 := fun o => hb.cell (p := ⟨w2.heap.size, o, none⟩) (by first | (show w2.heap.size < _; omega) | (show w2.heap.size < _; simp only [World.size_alloc]; omega))
      have pw43 : w2.heap.size < w4.heap.size := by omega
      have kw44 := fun o => hb.cell (p := ⟨w3.heap.size, o, none⟩) (by first | (show w3.heap.size < _; omega) | (show w3.heap.size < _; simp only [World.size_alloc]; omega))
      have pw44 : w3.heap.size < w4.heap.size := by omega
      have HBw4 := Lib.hid hb
      clear hb
      go_wp2_with fail
      refine (ticks_now l m r n h hn hm hl _).mono ?_
      rintro e w5 ⟨rfl, hb⟩
      have bw5 : Below w.heap.size w w5 := bl (by go_grown) hb
      have qw5 := hb.size
      try simp only [World.size_alloc] at qw5
      have kw50 := fun o => hb.cell (p := ⟨w.heap.size, o, none⟩) (by first | (show w.heap.size < _; omega) | (show w.heap.size < _; simp only [World.size_alloc]; omega))
      have pw50 : w.heap.size < w5.heap.size := by omega
      have HBw5 := Lib.hid hb
      clear hb
      go_wp2_with fail
      refine (after_yes l m r 0 h (by omega) (by omega) _).mono ?_
      rintro e w6 ⟨rfl, hb⟩
      have bw6 : Below w.heap.size w w6 := bl (by go_grown) hb
      have qw6 := hb.size
      try simp only [World.size_alloc] at qw6
      have HBw6 := Lib.hid hb
      clear hb
      go_wp2_with fail
      refine (spend_yes (lat l m r 0) m r n hF hn hF2 _).mono ?_
      rintro e w7 ⟨rfl, hb⟩
      have bw7 : Below w.heap.size w w7 := bl (by go_grown) hb
      have qw7 := hb.size
      try simp only [World.size_alloc] at qw7
      have HBw7 := Lib.hid hb
      clear hb
      go_wp2_with fail
      refine (awake_any _).mono ?_
      rintro e w99 ⟨rfl, hb⟩
      have bw99 : Below w.heap.size w w99 := bl (by go_grown) hb
      go_wp2
      go_ret
      exact ⟨rfl, by go_grown⟩

set_option maxRecDepth 100000 in
set_option maxHeartbeats 2000000 in
theorem pSteps_yes (l m r : Int) (X : Nat) (y n : Int) (h : Rt l m r) (hX : X ≤ 300) (hy : 0 ≤ y) (hy2 : y ≤ 1000000) (hr : 0 < r) (hn : 0 ≤ n) (hm : n ≤ m) (hl : l < n) (w : World) :
    Calls Try.prog 7 #[P3 l m r, .agg #[.int .i64 (X : Int), .int .i64 y], .int .i64 n] w fun e w' => e = .returned (.bool true) ∧ Below w.heap.size w w' := by
  obtain ⟨h1, h2, h3, h4, h5, h6⟩ := id h
  obtain ⟨t0, t1, t2, t3⟩ := tk_spec hr hl
  have T2 := Lib.hid ((ticks_le (l := l) (r := r) (k := tk l r n) hm).2 t2)
  have T3 := Lib.hid (show lat l m r (tk l r n - 1) < n by
    have h8 : ¬ n ≤ lat l m r (tk l r n - 1) := fun h8 => by have := (ticks_le (l := l) (r := r) (k := tk l r n - 1) hm).1 h8; omega
    omega)
  clear t2 t3
  have hF : Rt (lat l m r (tk l r n)) m r := by obtain ⟨b1, b2⟩ := lat_bd (t := tk l r n) h4 h5 (by omega); exact ⟨h1, h2, by omega, b2, h5, h6⟩
  have hG : Rt (lat l m r (tk l r n - 1)) m r := by obtain ⟨b1, b2⟩ := lat_bd (t := tk l r n - 1) h4 h5 (by omega); exact ⟨h1, h2, by omega, b2, h5, h6⟩
  go_enter Try.func7, Try.ntmps7
  go_wp2_with fail
  refine (tick_yes l m r h _).mono ?_
  rintro e w1 ⟨rfl, hb⟩
  have bw1 : Below w.heap.size w w1 := bl (by go_grown) hb
  have qw1 := hb.size
  try simp only [World.size_alloc] at qw1
  have kw10 := fun o => hb.cell (p := ⟨w.heap.size, o, none⟩) (by first | (show w.heap.size < _; omega) | (show w.heap.size < _; simp only [World.size_alloc]; omega))
  have pw10 : w.heap.size < w1.heap.size := by omega
  have kw11 := fun o => hb.cell (p := ⟨w.heap.size + 1, o, none⟩) (by first | (show w.heap.size + 1 < _; omega) | (show w.heap.size + 1 < _; simp only [World.size_alloc]; omega))
  have pw11 : w.heap.size + 1 < w1.heap.size := by omega
  have HBw1 := Lib.hid hb
  clear hb
  have hbP : Blk w1 w.heap.size 23 #[.int .i64 l, .int .i64 m, .int .i64 r] := ((Blk.new w 23 _).alloc _).below HBw1.out (by simp only [World.size_alloc]; omega)
  have hbT : Blk w1 (w.heap.size + 1) 48 #[.int .i64 (X : Int), .int .i64 y] := (Blk.new1 w _ 48 _).below HBw1.out (by simp only [World.size_alloc]; omega)
  have HBP := Lib.hid hbP
  have HBT := Lib.hid hbT
  have lP := hbP.lt
  have lT := hbT.lt
  clear hbP hbT
  go_wp2
  go_loopw [10] (fun i wr => ∃ k : Nat, k ≤ X ∧ i = .int .i64 k ∧ Blk wr w.heap.size 23 #[.int .i64 l, .int .i64 m, .int .i64 r] ∧ Blk wr (w.heap.size + 1) 48 #[.int .i64 (X : Int), .int .i64 y] ∧ Blk wr (w1.heap.size + 1) 23 #[.int .i64 (lat l m r k), .int .i64 m, .int .i64 r] ∧ Below w.heap.size w wr)
    (fun i _ => X - (intOf i).toNat)
  case atStart =>
    refine ⟨0, by omega, rfl, (HBP.out.alloc _).alloc _, (HBT.out.alloc _).alloc _, ?_, by go_grown⟩
    rw [show ((0 : Nat) : Int) = 0 from rfl, lat_zero h4]
    exact Blk.new1 w1 _ _ _
  case round =>
    obtain ⟨k, hk, rfl, hb0, hb1, hb2, hbel⟩ := hrel
    have kP := hb0.cell
    have kT := hb1.cell
    have kX := hb2.cell
    have fX := hb2.frozen
    have lP' := hb0.lt
    have lT' := hb1.lt
    have lX' := hb2.lt
    have H0 := Lib.hid hb0
    have H1 := Lib.hid hb1
    have H2 := Lib.hid hb2
    obtain ⟨hL1, hL2⟩ := lat_bd (t := (k : Int)) h4 h5 (by omega)
    have HS := Lib.hid (lat_succ (l := l) (m := m) (t := (k : Int)) h5)
    clear hb0 hb1 hb2 kw10 kw11 HBw1 HBP HBT
    by_cases hlt : k < X
    · go_wp2_with fail
      refine (tick_yes (lat l m r k) m r ⟨h1, h2, by omega, hL2, h5, h6⟩ _).mono ?_
      rintro e w2 ⟨rfl, hb⟩
      have bw2 := bl hbel hb
      have q2 := hb.size
      have J0 := Lib.hid (H0.out.below hb lP')
      have J1 := Lib.hid (H1.out.below hb lT')
      have J2 := Lib.hid (H2.out.below hb lX')
      have jX := J2.out.cell
      have gX := J2.out.frozen
      have mX := J2.out.lt
      clear hb kX fX
      go_wp2
      go_roundw
      case rel =>
        refine ⟨k + 1, by omega, by go_num, ?_, ?_, ?_, by go_grown⟩
        · exact (((J0.out.far (by simp; omega) _).far (by simp; omega) _).far (by simp; omega) _).alloc _
        · exact (((J1.out.far (by simp; omega) _).far (by simp; omega) _).far (by simp; omega) _).alloc _
        · have := (((J2.out.set_ 0 (.int .i64 (lat (lat l m r k) m r 1))).set_ 1 (.int .i64 m)).set_ 2 (.int .i64 r)).alloc (.cells #[.int .i64 (lat (lat l m r k) m r 1), .int .i64 m, .int .i64 r] 23)
          rw [HS.out] at this
          rw [HS.out]
          simpa using this
      case measure => simp [intOf]; omega
    · obtain rfl : k = X := by omega
      clear hlt HS
      go_wp2_with fail
      refine (after_yes l m r (k : Int) h (by omega) (by omega) _).mono ?_
      rintro e w2 ⟨rfl, hb⟩
      have bw2 : Below w.heap.size w w2 := bl (by go_grown) hb
      have qw2 := hb.size
      try simp only [World.size_alloc] at qw2
      have kw20 := fun o => hb.cell (p := ⟨w.heap.size, o, none⟩) (by first | (show w.heap.size < _; omega) | (show w.heap.size < _; simp only [World.size_alloc]; omega))
      have pw20 : w.heap.size < w2.heap.size := by omega
      have kw21 := fun o => hb.cell (p := ⟨w.heap.size + 1, o, none⟩) (by first | (show w.heap.size + 1 < _; omega) | (show w.heap.size + 1 < _; simp only [World.size_alloc]; omega))
      have pw21 : w.heap.size + 1 < w2.heap.size := by omega
      have kw22 := fun o => hb.cell (p := ⟨w1.heap.size + 1, o, none⟩) (by first | (show w1.heap.size + 1 < _; omega) | (show w1.heap.size + 1 < _; simp only [World.size_alloc]; omega))
      have pw22 : w1.heap.size + 1 < w2.heap.size := by omega
      have HBw2 := Lib.hid hb
      clear hb
      go_wp2_with fail
      refine (after_two l m r (k : Int) y h (by omega) hy (by omega) _).mono ?_
      rintro e w3 ⟨rfl, hb⟩
      have bw3 : Below w.heap.size w w3 := bl (by go_grown) hb
      have qw3 := hb.size
      try simp only [World.size_alloc] at qw3
      have kw30 := fun o => hb.cell (p := ⟨w.heap.size, o, none⟩) (by first | (show w.heap.size < _; omega) | (show w.heap.size < _; simp only [World.size_alloc]; omega))
      have pw30 : w.heap.size < w3.heap.size := by omega
      have kw31 := fun o => hb.cell (p := ⟨w.heap.size + 1, o, none⟩) (by first | (show w.heap.size + 1 < _; omega) | (show w.heap.size + 1 < _; simp only [World.size_alloc]; omega))
      have pw31 : w.heap.size + 1 < w3.heap.size := by omega
      have kw32 := fun o => hb.cell (p := ⟨w1.heap.size + 1, o, none⟩) (by first | (show w1.heap.size + 1 < _; omega) | (show w1.heap.size + 1 < _; simp only [World.size_alloc]; omega))
      have pw32 : w1.heap.size + 1 < w3.heap.size := by omega
      have kw33 := fun o => hb.cell (p := ⟨w2.heap.size, o, none⟩) (by first | (show w2.heap.size < _; omega) | (show w2.heap.size < _; simp only [World.size_alloc]; omega))
      have pw33 : w2.heap.size < w3.heap.size := by omega
      have HBw3 := Lib.hid hb
      clear hb
      go_wp2_with fail
      refine (after_yes l m r ((k : Int) + y) h (by omega) (by omega) _).mono ?_
      rintro e w4 ⟨rfl, hb⟩
      have bw4 : Below w.heap.size w w4 := bl (by go_grown) hb
      have qw4 := hb.size
      try simp only [World.size_alloc] at qw4
      have kw40 := fun o => hb.cell (p := ⟨w.heap.size, o, none⟩) (by first | (show w.heap.size < _; omega) | (show w.heap.size < _; simp only [World.size_alloc]; omega))
      have pw40 : w.heap.size < w4.heap.size := by omega
      have kw41 := fun o => hb.cell (p := ⟨w.heap.size + 1, o, none⟩) (by first | (show w.heap.size + 1 < _; omega) | (show w.heap.size + 1 < _; simp only [World.size_alloc]; omega))
      have pw41 : w.heap.size + 1 < w4.heap.size := by omega
      have kw42 := fun o => hb.cell (p := ⟨w1.heap.size + 1, o, none⟩) (by first | (show w1.heap.size + 1 < _; omega) | (show w1.heap.size + 1 < _; simp only [World.size_alloc]; omega))
      have pw42 : w1.heap.size + 1 < w4.heap.size := by omega
      have kw43 := fun o => hb.cell (p := ⟨w2.heap.size, o, none⟩) (by first | (show w2.heap.size < _; omega) | (show w2.heap.size < _; simp only [World.size_alloc]; omega))
      have pw43 : w2.heap.size < w4.heap.size := by omega
      have kw44 := fun o => hb.cell (p := ⟨w3.heap.size, o, none⟩) (by first | (show w3.heap.size < _; omega) | (show w3.heap.size < _; simp only [World.size_alloc]; omega))
      have pw44 : w3.heap.size < w4.heap.size := by omega
      have HBw4 := Lib.hid hb
      clear hb
      go_wp2_with fail
      refine (ticks_yes l m r n h hr hn hm hl _).mono ?_
      rintro e w5 ⟨rfl, hb⟩
      have bw5 : Below w.heap.size w w5 := bl (by go_grown) hb
      have qw5 := hb.size
      try simp only [World.size_alloc] at qw5
      have kw50 := fun o => hb.cell (p := ⟨w.heap.size, o, none⟩) (by first | (show w.heap.size < _; omega) | (show w.heap.size < _; simp only [World.size_alloc]; omega))
      have pw50 : w.heap.size < w5.heap.size := by omega
      have HBw5 := Lib.hid hb
      clear hb
      go_wp2_with fail
      refine (after_yes l m r (tk l r n) h (by omega) (by omega) _).mono ?_
      rintro e w6 ⟨rfl, hb⟩
      have bw6 : Below w.heap.size w w6 := bl (by go_grown) hb
      have qw6 := hb.size
      try simp only [World.size_alloc] at qw6
      have kw60 := fun o => hb.cell (p := ⟨w.heap.size, o, none⟩) (by first | (show w.heap.size < _; omega) | (show w.heap.size < _; simp only [World.size_alloc]; omega))
      have pw60 : w.heap.size < w6.heap.size := by omega
      have HBw6 := Lib.hid hb
      clear hb
      go_wp2_with fail
      refine (spend_yes (lat l m r (tk l r n)) m r n hF hn T2.out _).mono ?_
      rintro e w7 ⟨rfl, hb⟩
      have bw7 : Below w.heap.size w w7 := bl (by go_grown) hb
      have qw7 := hb.size
      try simp only [World.size_alloc] at qw7
      have kw70 := fun o => hb.cell (p := ⟨w.heap.size, o, none⟩) (by first | (show w.heap.size < _; omega) | (show w.heap.size < _; simp only [World.size_alloc]; omega))
      have pw70 : w.heap.size < w7.heap.size := by omega
      have kw71 := fun o => hb.cell (p := ⟨w6.heap.size, o, none⟩) (by first | (show w6.heap.size < _; omega) | (show w6.heap.size < _; simp only [World.size_alloc]; omega))
      have pw71 : w6.heap.size < w7.heap.size := by omega
      have HBw7 := Lib.hid hb
      clear hb
      have fD := fun o => HBw7.out.frozen (p := ⟨w6.heap.size, o, none⟩) (by show w6.heap.size < _; simp only [World.size_alloc]; omega)
      go_wp2_with fail
      refine (after_yes l m r (tk l r n - 1) h (by omega) (by omega) _).mono ?_
      rintro e w8 ⟨rfl, hb⟩
      have bw8 : Below w.heap.size w w8 := bl (by go_grown) hb
      have qw8 := hb.size
      try simp only [World.size_alloc] at qw8
      have kw80 := fun o => hb.cell (p := ⟨w6.heap.size, o, none⟩) (by first | (show w6.heap.size < _; omega) | (show w6.heap.size < _; simp only [World.size_alloc]; omega))
      have pw80 : w6.heap.size < w8.heap.size := by omega
      have HBw8 := Lib.hid hb
      clear hb
      have fD8 := fun o => HBw8.out.frozen (p := ⟨w6.heap.size, o, none⟩) (by show w6.heap.size < _; simp only [World.size_alloc]; omega)
      go_wp2_with fail
      refine (spend_over (lat l m r (tk l r n - 1)) m r n hG T3.out _).mono ?_
      rintro e w9 ⟨rfl, hb⟩
      have bw9 : Below w.heap.size w w9 := bl (by go_grown) hb
      have qw9 := hb.size
      try simp only [World.size_alloc] at qw9
      have HBw9 := Lib.hid hb
      clear hb
      go_wp2_with fail
      refine (awake_any _).mono ?_
      rintro e w99 ⟨rfl, hb⟩
      have bw99 : Below w.heap.size w w99 := bl (by go_grown) hb
      go_wp2
      go_ret
      exact ⟨rfl, by go_grown⟩

theorem pSteps (l m r x y n : Int) (w : World) :
    Calls Try.prog 7 #[P3 l m r, .agg #[.int .i64 x, .int .i64 y], .int .i64 n] w fun e w' => e = .returned (.bool true) ∧ Below w.heap.size w w' := by
  by_cases h : Rt l m r
  · by_cases ho : x < 0 ∨ 300 < x ∨ y < 0 ∨ 1000000 < y
    · exact pSteps_out l m r x y n h ho w
    · obtain ⟨X, rfl⟩ := Int.eq_ofNat_of_zero_le (show 0 ≤ x by omega)
      by_cases hn : n < 0
      · exact pSteps_neg l m r X y n h (by omega) (by omega) (by omega) hn w
      · by_cases hm : n ≤ m
        · by_cases hl : n ≤ l
          · exact pSteps_now l m r X y n h (by omega) (by omega) (by omega) (by omega) hm hl w
          · by_cases hr : 0 < r
            · exact pSteps_yes l m r X y n h (by omega) (by omega) (by omega) hr (by omega) hm (by omega) w
            · obtain rfl : r = 0 := by have := h.2.2.2.2.1; omega
              exact pSteps_never l m X y n h (by omega) (by omega) (by omega) (by omega) hm (by omega) w
        · exact pSteps_over l m r X y n h (by omega) (by omega) (by omega) (by omega) (by omega) w
  · exact pSteps_no l m r x y n h w

end Go.Proofs.Ytefinnlnkilmpaa
