/- Layer 3: the walks of the laws SatLeast, SatAdds and SatOrders: for every input each returns true, and writes to new memory alone. -/
import Derived.Test.YtedijnokbemegaaJ
import Derived.Deep.RegionHeld3
namespace Go.Proofs.Ytedijnokbemegaa
open Go.RowKit

set_option maxHeartbeats 1000000 in
theorem wLeast (a : Option Addr) (c : Nat) (xs : List Int) (w : World) (ha : Row w a xs) (hl : xs.length ≤ 9223372036854775807) :
    Calls Try.prog 3 #[.slice a xs.length c] w fun e w' => e = .returned (.bool true) ∧ Below w.heap.size w w' := by
  have HA := Lib.hid ha
  clear ha
  by_cases h : 100 < xs.length
  · go_enter Try.func3, Try.ntmps3
    go_wp2_with fail
    refine (awake_any _).mono ?_
    rintro e w1 ⟨rfl, hb⟩
    go_wp2
    go_ret
    exact ⟨rfl, hb⟩
  · have HR := Lib.hid (show LeastRes xs = .tuple #[.int .i64 (max (best xs xs.length) 0), .bool (decide (0 ≤ best xs xs.length))] from rfl)
    generalize max (best xs xs.length) 0 = p at *
    generalize decide (0 ≤ best xs xs.length) = q at *
    go_enter Try.func3, Try.ntmps3
    go_wp2_with fail
    refine (least_any a c xs _ HA.out (by omega)).mono ?_
    rintro e w1 ⟨rfl, hb⟩
    have HB1 := Lib.hid hb
    clear hb
    rw [HR.out]
    go_wp2_with fail
    refine (rLeast_any a c xs _ (HA.out.below HB1.out (Nat.le_refl _)) (by omega)).mono ?_
    rintro e w2 ⟨rfl, hb⟩
    have HB2 := Lib.hid (bl HB1.out hb)
    clear hb
    rw [HR.out]
    go_wp2_with fail
    refine (awake_any _).mono ?_
    rintro e w3 ⟨rfl, hb⟩
    have HB3 := Lib.hid (bl HB2.out hb)
    clear hb
    go_wp2
    go_ret
    exact ⟨rfl, HB3.out⟩

theorem Blk.new1 (w : World) (x : Obj) (t : TypeId) (cs : Array Value) : Blk ((w.alloc x).alloc (.cells cs t)) (w.heap.size + 1) t cs := by
  have := Blk.new (w.alloc x) t cs
  rwa [World.size_alloc] at this
theorem Blk.new2 (w : World) (x y : Obj) (t : TypeId) (cs : Array Value) : Blk (((w.alloc x).alloc y).alloc (.cells cs t)) (w.heap.size + 1 + 1) t cs := by
  have := Blk.new1 (w.alloc x) y t cs
  rwa [World.size_alloc] at this
theorem Blk.new3 (w : World) (x y z : Obj) (t : TypeId) (cs : Array Value) : Blk ((((w.alloc x).alloc y).alloc z).alloc (.cells cs t)) (w.heap.size + 1 + 1 + 1) t cs := by
  have := Blk.new2 (w.alloc x) y z t cs
  rwa [World.size_alloc] at this
theorem Blk.new4 (w : World) (x y z u : Obj) (t : TypeId) (cs : Array Value) : Blk (((((w.alloc x).alloc y).alloc z).alloc u).alloc (.cells cs t)) (w.heap.size + 1 + 1 + 1 + 1) t cs := by
  have := Blk.new3 (w.alloc x) y z u t cs
  rwa [World.size_alloc] at this

theorem ub_list {l : List Int} (h : ∀ x ∈ l, Ub x) : ∀ x ∈ l, Ub x := h

theorem sadd_comm (a b : Int) : sadd b a = sadd a b := by unfold sadd; omega
theorem sadd_assoc {a b c : Int} (ha : Ub a) (hc : Ub c) : sadd (sadd a b) c = sadd a (sadd b c) := by unfold sadd Ub at *; omega
theorem sum3 {a b c : Int} (ha : Ub a) (hc : Ub c) : sumTo [a, b, c] 3 = sadd a (sadd b c) := by
  show sadd (sadd (sadd 0 a) b) c = _
  unfold sadd Ub at *; omega
theorem sum3' {a b c : Int} (ha : Ub a) (hc : Ub c) : sumTo [c, b, a] 3 = sadd a (sadd b c) := by
  show sadd (sadd (sadd 0 c) b) a = _
  unfold sadd Ub at *; omega
theorem sum1 {a : Int} (ha : Ub a) : sumTo [a] 1 = a := by
  show sadd 0 a = a
  unfold sadd Ub at *; omega
theorem times_one {a : Int} (ha : Ub a) : stimes a 1 = a := by unfold stimes Ub at *; rw [if_neg (by omega), Int.mul_one]; omega
theorem times_low {a n : Int} (h : n < 1) : stimes a n = 0 := by unfold stimes; rw [if_pos h]
theorem times_succ {a n : Int} (ha : Ub a) (hn : 0 ≤ n) : stimes a (n + 1) = sadd (stimes a n) a := by
  unfold stimes sadd Ub at *
  rw [if_neg (by omega), Int.mul_add, Int.mul_one]
  by_cases h : n < 1
  · rw [if_pos h, show n = 0 by omega, Int.mul_zero]
  · rw [if_neg h]
    have := Int.mul_nonneg ha.1 hn
    omega

set_option maxRecDepth 100000 in
set_option maxHeartbeats 2000000 in
theorem wOrders (a b c n : Int) (w : World) (ha : Ub a) (hb : Ub b) (hc : Ub c) (hn : n ≤ 9223372036854775807) :
    Calls Try.prog 8 #[.agg #[.int .u64 a, .int .u64 b, .int .u64 c], .int .i64 n] w fun e w' => e = .returned (.bool true) ∧ Below w.heap.size w w' := by
  have C1 := Lib.hid (sadd_comm a b)
  have C2 := Lib.hid (sadd_assoc (b := b) ha hc)
  have C3 := Lib.hid (sum3 (b := b) ha hc)
  have C4 := Lib.hid (sum3' (b := b) ha hc)
  have UA := Lib.hid ha
  have UB := Lib.hid hb
  have UC := Lib.hid hc
  have U1 := Lib.hid (sadd_ub ha hb)
  have U2 := Lib.hid (sadd_ub hb hc)
  have g1 : ¬ sadd a b < a := by unfold sadd Ub at *; omega
  have g2 : ¬ sadd a b < b := by unfold sadd Ub at *; omega
  have C5 := Lib.hid (show sadd a 0 = a by unfold sadd Ub at *; omega)
  have C6 := Lib.hid (show sadd a 18446744073709551615 = 18446744073709551615 by unfold sadd Ub at *; omega)
  have C7 := Lib.hid (sum1 ha)
  have C8 := Lib.hid (fun (h : a ≤ b) => show ¬ sadd b c < sadd a c by unfold sadd Ub at *; omega)
  have C9 := Lib.hid (times_one ha)
  have C10 := Lib.hid (fun (h : n < 1) => times_low (a := a) h)
  have C11 := Lib.hid (fun (h : 0 ≤ n) => times_succ ha h)
  have U3 := Lib.hid (stimes_ub (n := n) ha)
  clear ha hb hc
  go_enter Try.func8, Try.ntmps8
  go_wp2_with fail
  refine (add_any a b UA.out UB.out _).mono ?_
  rintro e w' ⟨rfl, rfl⟩
  go_wp2_with fail
  refine (add_any b a UB.out UA.out _).mono ?_
  rintro e w' ⟨rfl, rfl⟩
  rw [C1.out]
  go_wp2_with fail
  refine (add_any a b UA.out UB.out _).mono ?_
  rintro e w' ⟨rfl, rfl⟩
  go_wp2_with fail
  refine (add_any (sadd a b) c U1.out UC.out _).mono ?_
  rintro e w' ⟨rfl, rfl⟩
  rw [C2.out]
  go_wp2_with fail
  refine (add_any b c UB.out UC.out _).mono ?_
  rintro e w' ⟨rfl, rfl⟩
  go_wp2_with fail
  refine (add_any a (sadd b c) UA.out U2.out _).mono ?_
  rintro e w' ⟨rfl, rfl⟩
  go_wp2_with fail
  refine (sum_any (some ⟨w.heap.size + 1, 0, none⟩) 3 [a, b, c] _ ((Blk.new1 w _ 37 (vals [a, b, c]).toArray).row (by intro x hx; simp only [List.mem_cons, List.not_mem_nil, or_false] at hx; rcases hx with rfl | rfl | rfl; exact UA.out; exact UB.out; exact UC.out)) (by simp)).mono ?_
  rintro e w' ⟨rfl, rfl⟩
  rw [show sumTo [a, b, c] [a, b, c].length = _ from C3.out]
  go_wp2_with fail
  refine (sum_any (some ⟨w.heap.size + 1 + 1, 0, none⟩) 3 [c, b, a] _ ((Blk.new2 w _ _ 37 (vals [c, b, a]).toArray).row (by intro x hx; simp only [List.mem_cons, List.not_mem_nil, or_false] at hx; rcases hx with rfl | rfl | rfl; exact UC.out; exact UB.out; exact UA.out)) (by simp)).mono ?_
  rintro e w' ⟨rfl, rfl⟩
  rw [show sumTo [c, b, a] [c, b, a].length = _ from C4.out]
  go_wp2_with fail
  refine (sum_any (some ⟨w.heap.size + 1 + 1 + 1, 0, none⟩) 3 [a, b, c] _ ((Blk.new3 w _ _ _ 37 (vals [a, b, c]).toArray).row (by intro x hx; simp only [List.mem_cons, List.not_mem_nil, or_false] at hx; rcases hx with rfl | rfl | rfl; exact UA.out; exact UB.out; exact UC.out)) (by simp)).mono ?_
  rintro e w' ⟨rfl, rfl⟩
  rw [show sumTo [a, b, c] [a, b, c].length = _ from C3.out]
  go_wp2_with fail
  refine (add_any b c UB.out UC.out _).mono ?_
  rintro e w' ⟨rfl, rfl⟩
  go_wp2_with fail
  refine (add_any a (sadd b c) UA.out U2.out _).mono ?_
  rintro e w' ⟨rfl, rfl⟩
  go_wp2_with fail
  refine (add_any a b UA.out UB.out _).mono ?_
  rintro e w' ⟨rfl, rfl⟩
  go_wp2_with fail
  refine (add_any a b UA.out UB.out _).mono ?_
  rintro e w' ⟨rfl, rfl⟩
  go_wp2_with fail
  refine (add_any a 0 UA.out (by unfold Ub; omega) _).mono ?_
  rintro e w' ⟨rfl, rfl⟩
  rw [C5.out]
  go_wp2_with fail
  refine (add_any a 18446744073709551615 UA.out (by unfold Ub; omega) _).mono ?_
  rintro e w' ⟨rfl, rfl⟩
  rw [C6.out]
  go_wp2_with fail
  refine (sum_any none 0 [] _ ⟨by simp, .inl rfl⟩ (by decide)).mono ?_
  rintro e w' ⟨rfl, rfl⟩
  rw [show sumTo [] ([] : List Int).length = 0 from rfl]
  go_wp2_with fail
  refine (sum_any (some ⟨w.heap.size + 1 + 1 + 1 + 1, 0, none⟩) 1 [a] _ ((Blk.new4 w _ _ _ _ 37 (vals [a]).toArray).row (by intro x hx; simp only [List.mem_singleton] at hx; subst hx; exact UA.out)) (by simp)).mono ?_
  rintro e w' ⟨rfl, rfl⟩
  rw [show sumTo [a] [a].length = _ from C7.out]
  by_cases hab : a ≤ b
  · have g3 := C8.out hab
    go_wp2_with fail
    refine (add_any a c UA.out UC.out _).mono ?_
    rintro e w' ⟨rfl, rfl⟩
    go_wp2_with fail
    refine (add_any b c UB.out UC.out _).mono ?_
    rintro e w' ⟨rfl, rfl⟩
    by_cases n1 : n < 0
    · go_wp2_with fail
      refine (times_any a 1 UA.out (by omega) _).mono ?_
      rintro e w' ⟨rfl, rfl⟩
      rw [C9.out]
      go_wp2_with fail
      refine (times_any a n UA.out hn _).mono ?_
      rintro e w' ⟨rfl, rfl⟩
      rw [C10.out (by omega)]
      go_wp2_with fail
      refine (awake_any _).mono ?_
      rintro e w9 ⟨rfl, hb⟩
      have hb9 : Below w.heap.size w w9 := bl (by go_grown) hb
      clear hb
      go_wp2
      go_ret
      exact ⟨rfl, hb9⟩
    · by_cases n2 : 4611686018427387904 < n
      · go_wp2_with fail
        refine (times_any a 1 UA.out (by omega) _).mono ?_
        rintro e w' ⟨rfl, rfl⟩
        rw [C9.out]
        go_wp2_with fail
        refine (awake_any _).mono ?_
        rintro e w9 ⟨rfl, hb⟩
        have hb9 : Below w.heap.size w w9 := bl (by go_grown) hb
        clear hb
        go_wp2
        go_ret
        exact ⟨rfl, hb9⟩
      · go_wp2_with fail
        refine (times_any a (n + 1) UA.out (by omega) _).mono ?_
        rintro e w' ⟨rfl, rfl⟩
        rw [C11.out (by omega)]
        go_wp2_with fail
        refine (times_any a n UA.out hn _).mono ?_
        rintro e w' ⟨rfl, rfl⟩
        go_wp2_with fail
        refine (add_any (stimes a n) a U3.out UA.out _).mono ?_
        rintro e w' ⟨rfl, rfl⟩
        go_wp2_with fail
        refine (awake_any _).mono ?_
        rintro e w9 ⟨rfl, hb⟩
        have hb9 : Below w.heap.size w w9 := bl (by go_grown) hb
        clear hb
        go_wp2
        go_ret
        exact ⟨rfl, hb9⟩
  · by_cases n1 : n < 0
    · go_wp2_with fail
      refine (times_any a 1 UA.out (by omega) _).mono ?_
      rintro e w' ⟨rfl, rfl⟩
      rw [C9.out]
      go_wp2_with fail
      refine (times_any a n UA.out hn _).mono ?_
      rintro e w' ⟨rfl, rfl⟩
      rw [C10.out (by omega)]
      go_wp2_with fail
      refine (awake_any _).mono ?_
      rintro e w9 ⟨rfl, hb⟩
      have hb9 : Below w.heap.size w w9 := bl (by go_grown) hb
      clear hb
      go_wp2
      go_ret
      exact ⟨rfl, hb9⟩
    · by_cases n2 : 4611686018427387904 < n
      · go_wp2_with fail
        refine (times_any a 1 UA.out (by omega) _).mono ?_
        rintro e w' ⟨rfl, rfl⟩
        rw [C9.out]
        go_wp2_with fail
        refine (awake_any _).mono ?_
        rintro e w9 ⟨rfl, hb⟩
        have hb9 : Below w.heap.size w w9 := bl (by go_grown) hb
        clear hb
        go_wp2
        go_ret
        exact ⟨rfl, hb9⟩
      · go_wp2_with fail
        refine (times_any a (n + 1) UA.out (by omega) _).mono ?_
        rintro e w' ⟨rfl, rfl⟩
        rw [C11.out (by omega)]
        go_wp2_with fail
        refine (times_any a n UA.out hn _).mono ?_
        rintro e w' ⟨rfl, rfl⟩
        go_wp2_with fail
        refine (add_any (stimes a n) a U3.out UA.out _).mono ?_
        rintro e w' ⟨rfl, rfl⟩
        go_wp2_with fail
        refine (awake_any _).mono ?_
        rintro e w9 ⟨rfl, hb⟩
        have hb9 : Below w.heap.size w w9 := bl (by go_grown) hb
        clear hb
        go_wp2
        go_ret
        exact ⟨rfl, hb9⟩
end Go.Proofs.Ytedijnokbemegaa
