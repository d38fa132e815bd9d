/- Plain laws on numbers for package purse. No program is in sight. -/
import Derived.IntWalk
namespace Go.Proofs.Ytefinnlnkilmpaa
open Go Go.RowKit

/-- What is left some ticks later. -/
def lat (l m r t : Int) : Int := min (l + r * t) m

theorem lat_bd {l m r t : Int} (h4 : l ≤ m) (h5 : 0 ≤ r) (h7 : 0 ≤ t) : l ≤ lat l m r t ∧ lat l m r t ≤ m := by
  have := Int.mul_nonneg h5 h7
  unfold lat; omega

theorem lat_zero {l m r : Int} (h4 : l ≤ m) : lat l m r 0 = l := by unfold lat; rw [Int.mul_zero]; omega
theorem lat_none {l m t : Int} (h4 : l ≤ m) : lat l m 0 t = l := by unfold lat; rw [Int.zero_mul]; omega

theorem lat_succ {l m r t : Int} (h5 : 0 ≤ r) : lat (lat l m r t) m r 1 = lat l m r (t + 1) := by
  unfold lat; rw [Int.mul_add, Int.mul_one]; omega

theorem lat_add {l m r s t : Int} (h5 : 0 ≤ r) (_hs : 0 ≤ s) (ht : 0 ≤ t) : lat (lat l m r s) m r t = lat l m r (s + t) := by
  unfold lat
  rw [Int.mul_add]
  have := Int.mul_nonneg h5 ht
  omega

theorem div_bd {m r : Int} (h1 : 0 ≤ m) (h5 : 0 < r) : 0 ≤ m / r ∧ m / r ≤ m ∧ r * (m / r) ≤ m ∧ m < r * (m / r) + r := by
  have a := Int.mul_ediv_add_emod m r
  have b := Int.emod_nonneg m (by omega : r ≠ 0)
  have c := Int.emod_lt_of_pos m h5
  have d : 0 ≤ m / r := Int.ediv_nonneg h1 (by omega)
  refine ⟨d, ?_, by omega, by omega⟩
  have : 1 * (m / r) ≤ r * (m / r) := Int.mul_le_mul_of_nonneg_right (by omega) d
  omega

/-- The code's cap on the ticks turns nothing. -/
theorem cap_same {l m r t : Int} (h1 : 0 ≤ m) (h3 : 0 ≤ l) (h5 : 0 < r) (_h7 : 0 ≤ t) (hc : m / r + 1 < t) : m < l + r * (m / r + 1) ∧ lat l m r t = m := by
  obtain ⟨d0, d1, d2, d3⟩ := div_bd h1 h5
  have e : r * (m / r + 1) = r * (m / r) + r := by rw [Int.mul_add, Int.mul_one]
  have f : r * (m / r + 1) ≤ r * t := Int.mul_le_mul_of_nonneg_left (by omega) (by omega)
  refine ⟨by omega, ?_⟩
  unfold lat; omega

theorem mul_bd {m r t : Int} (h1 : 0 ≤ m) (h2 : m ≤ 1048576) (h5 : 0 < r) (h6 : r ≤ 1048576) (h7 : 0 ≤ t) (hc : t ≤ m / r + 1) : 0 ≤ r * t ∧ r * t ≤ 2097152 := by
  obtain ⟨d0, d1, d2, d3⟩ := div_bd h1 h5
  have e : r * (m / r + 1) = r * (m / r) + r := by rw [Int.mul_add, Int.mul_one]
  have f : r * t ≤ r * (m / r + 1) := Int.mul_le_mul_of_nonneg_left (by omega) (by omega)
  exact ⟨Int.mul_nonneg (by omega) h7, by omega⟩

theorem w64 {n : Int} (h1 : -9223372036854775808 ≤ n) (h2 : n ≤ 9223372036854775807) : wrap64 n = n := IntWalk.wrap64_in n ⟨h1, h2⟩

/-- The ways through 'later': what the store holds is 'lat'. -/
theorem later_a {l m r t : Int} (h1 : 0 ≤ m) (h2 : m ≤ 1048576) (h3 : 0 ≤ l) (h4 : l ≤ m) (h5 : 0 < r) (h6 : r ≤ 1048576) (h7 : 0 ≤ t)
    (a : wrap64 (m / r + 1) < t) : m < wrap64 (l + wrap64 (r * wrap64 (m / r + 1))) ∧ lat l m r t = m := by
  obtain ⟨d0, d1, d2, d3⟩ := div_bd h1 h5
  have e : r * (m / r + 1) = r * (m / r) + r := by rw [Int.mul_add, Int.mul_one]
  rw [w64 (by omega) (by omega)] at a
  obtain ⟨c1, c2⟩ := cap_same (l := l) h1 h3 h5 h7 a
  rw [w64 (n := m / r + 1) (by omega) (by omega), w64 (n := r * (m / r + 1)) (by omega) (by omega), w64 (by omega) (by omega)]
  exact ⟨c1, c2⟩

theorem later_b {l m r t : Int} (h1 : 0 ≤ m) (h2 : m ≤ 1048576) (h3 : 0 ≤ l) (h4 : l ≤ m) (h5 : 0 < r) (h6 : r ≤ 1048576) (h7 : 0 ≤ t)
    (a : t ≤ wrap64 (m / r + 1)) : wrap64 (l + wrap64 (r * t)) = l + r * t := by
  obtain ⟨d0, d1, d2, d3⟩ := div_bd h1 h5
  rw [w64 (by omega) (by omega)] at a
  obtain ⟨e, f⟩ := mul_bd h1 h2 h5 h6 h7 a
  rw [w64 (n := r * t) (by omega) (by omega), w64 (by omega) (by omega)]

/-- The ticks till so many may be spent. -/
theorem ticks_le {l m r n k : Int} (hm : n ≤ m) : n ≤ lat l m r k ↔ n ≤ l + r * k := by unfold lat; omega

def tk (l r n : Int) : Int := (n - l + r - 1) / r

theorem tk_spec {l r n : Int} (h5 : 0 < r) (hn : l < n) : 0 < tk l r n ∧ tk l r n ≤ n - l ∧ n ≤ l + r * tk l r n ∧ l + r * (tk l r n - 1) < n := by
  unfold tk
  have a := Int.mul_ediv_add_emod (n - l + r - 1) r
  have b := Int.emod_nonneg (n - l + r - 1) (by omega : r ≠ 0)
  have c := Int.emod_lt_of_pos (n - l + r - 1) h5
  have d : 0 < (n - l + r - 1) / r := by
    have : 1 ≤ (n - l + r - 1) / r := (Int.le_ediv_iff_mul_le h5).2 (by omega)
    omega
  have e : r * ((n - l + r - 1) / r - 1) = r * ((n - l + r - 1) / r) - r := by rw [Int.mul_sub, Int.mul_one]
  refine ⟨d, ?_, by omega, by omega⟩
  have : 1 * ((n - l + r - 1) / r - 1) ≤ r * ((n - l + r - 1) / r - 1) := Int.mul_le_mul_of_nonneg_right (by omega) (by omega)
  omega

theorem tk_eq {l r n k : Int} (h5 : 0 < r) (hn : l < n) (hk : 0 ≤ k) (a : n ≤ l + r * k) (b : k = 0 ∨ l + r * (k - 1) < n) : k = tk l r n := by
  obtain ⟨t0, _, t2, t3⟩ := tk_spec h5 hn
  have hk0 : 0 < k := by
    rcases Int.lt_or_eq_of_le hk with h | h
    · exact h
    · subst h; rw [Int.mul_zero] at a; omega
  have b' : l + r * (k - 1) < n := by rcases b with b | b <;> omega
  by_cases h : k ≤ tk l r n
  · by_cases h' : tk l r n ≤ k
    · omega
    · exfalso
      have : r * k ≤ r * (tk l r n - 1) := Int.mul_le_mul_of_nonneg_left (by omega) (by omega)
      omega
  · exfalso
    have : r * tk l r n ≤ r * (k - 1) := Int.mul_le_mul_of_nonneg_left (by omega) (by omega)
    omega
end Go.Proofs.Ytefinnlnkilmpaa
