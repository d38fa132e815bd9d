/- Layer 3: the walk of the law SatAdds: for every input it returns true, and writes to new memory alone. -/
import Derived.Test.YtedijnokbemegaaJ
import Derived.Deep.RegionHeld3
namespace Go.Proofs.Ytedijnokbemegaa
open Go.RowKit

set_option maxHeartbeats 2000000 in
theorem wAdds (a : Option Addr) (c : Nat) (xs : List Int) (x y n : Int) (w : World) (ha : Row w a xs) (hl : xs.length ≤ 9223372036854775807) (hx : Ub x) (hy : Ub y) (hn : n ≤ 9223372036854775807) :
    Calls Try.prog 7 #[.slice a xs.length c, .agg #[.int .u64 x, .int .u64 y], .int .i64 n] w fun e w' => e = .returned (.bool true) ∧ Below w.heap.size w w' := by
  have HA := Lib.hid ha
  have HU := Lib.hid (sumTo_ub ha.1)
  have UX := Lib.hid hx
  have UY := Lib.hid hy
  clear ha hx hy
  by_cases h : 100 < xs.length
  · go_enter Try.func7, Try.ntmps7
    go_wp2_with fail
    refine (awake_any _).mono ?_
    rintro e w1 ⟨rfl, hb⟩
    have hb1 : Below w.heap.size w w1 := bl (by go_grown) hb
    clear hb
    go_wp2
    go_ret
    exact ⟨rfl, hb1⟩
  · have h0 : Below w.heap.size w (w.alloc (.cells #[.int .u64 x, .int .u64 y] 39)) := by go_grown
    have HR := Lib.hid (HA.out.below h0 (Nat.le_refl _))
    go_enter Try.func7, Try.ntmps7
    go_wp2
    go_loop [7, 8] (fun s i => ∃ k : Nat, k ≤ xs.length ∧ i = .int .i64 k ∧ s = .int .u64 (sumTo xs k))
      (fun _ i => xs.length - (intOf i).toNat)
    case atStart => exact ⟨0, by omega, rfl, rfl⟩
    case round =>
      obtain ⟨k, hk, rfl, rfl⟩ := hrel
      by_cases hlt : k < xs.length
      · obtain ⟨b1, o1, rfl, l1, c1, u1⟩ := HA.out.at_ hlt
        have HS := Lib.hid (sumTo_succ hlt)
        have u2 := HU.out k
        have l2 : ¬ w.heap.size = b1 := by omega
        generalize xs.getD k 0 = z at *
        go_wp2_with fail
        refine (rAdd_any (sumTo xs k) z u2 u1 _).mono ?_
        rintro e w' ⟨rfl, rfl⟩
        go_wp2_with fail
        go_round
        case rel => exact ⟨k + 1, by omega, by go_num, by rw [HS.out]⟩
        case measure => simp [intOf]; omega
      · obtain rfl : k = xs.length := by omega
        generalize hs : sumTo xs xs.length = s at *
        have HSUM := Lib.hid hs
        have UT := Lib.hid (stimes_ub (n := n) UX.out)
        clear hs
        go_wp2
        go_region_held3 (fun W => W.cell? ⟨w.heap.size, 0, none⟩ = some (.int .u64 x) ∧ W.cell? ⟨w.heap.size, 1, none⟩ = some (.int .u64 y)) (go_keep)
          (first
            | (go_at_call 19; refine (sum_any a c xs _ (by exact HR.out) (by omega)).mono ?_; rintro e w' ⟨rfl, rfl⟩; rw [HSUM.out])
            | (go_at_call 20; refine (add_any x y UX.out UY.out _).mono ?_; rintro e w' ⟨rfl, rfl⟩)
            | (go_at_call 18; refine (rAdd_any x y UX.out UY.out _).mono ?_; rintro e w' ⟨rfl, rfl⟩)
            | (go_at_call 21; refine (times_any x n UX.out hn _).mono ?_; rintro e w' ⟨rfl, rfl⟩)
            | (go_at_call 22; refine (rTimes_any x n UX.out hn _).mono ?_; rintro e w' ⟨rfl, rfl⟩)
            | (go_at_call 9; refine (awake_any _).mono ?_; rintro e w9 ⟨rfl, hb⟩; have hb9 : Below w.heap.size w w9 := bl (by go_grown) hb; have q0 := hb.cell (p := ⟨w.heap.size, 0, none⟩) (by show w.heap.size < _; simp only [World.size_drew, World.size_alloc]; omega); have q1 := hb.cell (p := ⟨w.heap.size, 1, none⟩) (by show w.heap.size < _; simp only [World.size_drew, World.size_alloc]; omega); clear hb))
        all_goals go_wp2
        all_goals go_ret
        all_goals exact ⟨rfl, hb9⟩
end Go.Proofs.Ytedijnokbemegaa
