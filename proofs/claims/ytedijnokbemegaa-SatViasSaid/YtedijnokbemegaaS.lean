/- The walk of the law SatMins, in parts: for every input it returns true, and writes to new memory alone. -/
import Derived.Test.YtedijnokbemegaaR
namespace Go.Proofs.Ytedijnokbemegaa
open Go.RowKit

/-- A row of n costs, and no error. -/
def RetN (w : World) (n : Nat) (xs : List Int) (e : Ending) (w' : World) : Prop :=
  ∃ a c, e = .returned (.tuple #[.slice a n c, .int .i64 0]) ∧ Row w' a xs ∧ Below w.heap.size w w'

theorem join_n (n : Nat) (a b : Option Addr) (c d : Nat) (xs ys : List Int) (w : World) (ha : Row w a xs) (hb : Row w b ys) (hx : xs.length = n) (hy : ys.length = n) (hl : n ≤ 1000000) :
    Calls Try.prog 13 #[.slice a n c, .slice b n d] w (RetN w n (minL xs ys)) := by
  subst hx
  have := join_yes a b c d xs ys w ha hb hy hl
  rw [hy] at this
  refine this.mono fun e w' ⟨a1, c1, h1, h2, h3⟩ => ⟨a1, c1, by rw [h1, minL_len], h2, h3⟩

theorem same_n (n : Nat) (a b : Option Addr) (c d : Nat) (xs : List Int) (w : World) (ha : Row w a xs) (hb : Row w b xs) (hx : xs.length = n) (hl : n ≤ 1000000) :
    Calls Try.prog 17 #[.slice a n c, .slice b n d] w fun e w' => e = .returned (.bool true) ∧ Below w.heap.size w w' := by
  subst hx
  exact same_any a b c d xs w ha hb hl

theorem least_n (n : Nat) (a : Option Addr) (c : Nat) (xs : List Int) (w : World) (ha : Row w a xs) (hx : xs.length = n) (hl : n ≤ 1000000) :
    Calls Try.prog 10 #[.slice a n c] w fun e w' => e = .returned (.tuple #[.int .i64 (max (best xs n) 0), .bool (decide (0 ≤ best xs n))]) ∧ Below w.heap.size w w' := by
  subst hx
  exact least_any a c xs w ha hl

set_option maxRecDepth 100000 in
set_option maxHeartbeats 2000000 in
theorem wMins_awake (v0 v1 v2 : Option Addr) (n0 n1 n2 c0 c1 c2 : Nat) (w : World) (b0 : n0 ≤ 9223372036854775807) (b1 : n1 ≤ 9223372036854775807) (b2 : n2 ≤ 9223372036854775807) (h : 60 < n0 ∨ 60 < n1 ∨ 60 < n2) :
    Calls Try.prog 6 #[.agg #[.slice v0 n0 c0, .slice v1 n1 c1, .slice v2 n2 c2]] w fun e w' => e = .returned (.bool true) ∧ Below w.heap.size w w' := by
  by_cases h0 : 60 < n0
  · clear h
    go_enter Try.func6, Try.ntmps6
    go_wp2_with fail
    refine (awake_any _).mono ?_
    rintro e w1 ⟨rfl, hb⟩
    have bw : Below w.heap.size w w1 := bl (by go_grown) hb
    clear hb
    go_wp2
    go_ret
    exact ⟨rfl, bw⟩
  · by_cases h1 : 60 < n1
    · clear h
      go_enter Try.func6, Try.ntmps6
      go_wp2_with fail
      refine (awake_any _).mono ?_
      rintro e w1 ⟨rfl, hb⟩
      have bw : Below w.heap.size w w1 := bl (by go_grown) hb
      clear hb
      go_wp2
      go_ret
      exact ⟨rfl, bw⟩
    · have h2 : 60 < n2 := by omega
      clear h
      go_enter Try.func6, Try.ntmps6
      go_wp2_with fail
      refine (awake_any _).mono ?_
      rintro e w1 ⟨rfl, hb⟩
      have bw : Below w.heap.size w w1 := bl (by go_grown) hb
      clear hb
      go_wp2
      go_ret
      exact ⟨rfl, bw⟩

set_option maxRecDepth 100000 in
set_option maxHeartbeats 2000000 in
theorem wMins_parts (v0 v1 v2 : Option Addr) (n0 n1 n2 c0 c1 c2 : Nat) (w : World) (b0 : n0 ≤ 60) (b1 : n1 ≤ 60) (b2 : n2 ≤ 60) (h : n0 ≠ n1) :
    Calls Try.prog 6 #[.agg #[.slice v0 n0 c0, .slice v1 n1 c1, .slice v2 n2 c2]] w fun e w' => e = .returned (.bool true) ∧ Below w.heap.size w w' := by
  have hne : ((n0 : Int) != (n1 : Int)) = true := by simp; omega
  have HN := Lib.hid h
  clear h
  go_enter Try.func6, Try.ntmps6
  go_wp2_with fail
  refine (join_no v0 v1 n0 n1 c0 c1 _ HN.out).mono ?_
  rintro e w1 ⟨rfl, hb⟩
  have bw1 : Below w.heap.size w w1 := bl (by go_grown) hb
  have k1 := fun o => hb.cell (p := ⟨w.heap.size, o, none⟩) (by show w.heap.size < _; simp only [World.size_alloc]; omega)
  have s1 := hb.size
  simp only [World.size_alloc] at s1
  have q1 : w.heap.size < w1.heap.size := by omega
  clear hb
  go_wp2_with fail
  refine (join_no v1 v0 n1 n0 c1 c0 _ (Ne.symm HN.out)).mono ?_
  rintro e w2 ⟨rfl, hb⟩
  have bw2 : Below w.heap.size w w2 := bl bw1 hb
  have k2 := fun o => hb.cell (p := ⟨w.heap.size, o, none⟩) q1
  clear hb
  go_wp2_with fail
  refine (awake_any _).mono ?_
  rintro e w3 ⟨rfl, hb⟩
  have bw : Below w.heap.size w w3 := bl bw2 hb
  clear hb
  go_wp2
  go_ret
  exact ⟨rfl, bw⟩
end Go.Proofs.Ytedijnokbemegaa
