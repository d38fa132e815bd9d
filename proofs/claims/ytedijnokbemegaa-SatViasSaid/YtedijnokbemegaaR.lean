/- Layer 3, plain laws: rows joined, and rows by tables, in whichever order. No program is in sight but the words of the walks. -/
import Derived.Test.YtedijnokbemegaaJ
namespace Go.Proofs.Ytedijnokbemegaa
open Go.RowKit

theorem ext_getD {a b : List Int} (hl : a.length = b.length) (h : ∀ i, i < a.length → a.getD i 0 = b.getD i 0) : a = b := by
  apply List.ext_getElem hl
  intro i h1 h2
  have := h i h1
  simpa [List.getD_eq_getElem?_getD, h1, h2] using this

theorem minL_comm {xs ys : List Int} (h : ys.length = xs.length) : minL ys xs = minL xs ys := by
  refine ext_getD (by rw [minL_len, minL_len, h]) fun i hi => ?_
  rw [minL_len] at hi
  rw [minL_getD hi, minL_getD (by omega)]
  omega

theorem minL_self (xs : List Int) : minL xs xs = xs := by
  refine ext_getD (minL_len _ _) fun i hi => ?_
  rw [minL_len] at hi
  rw [minL_getD hi]
  omega

theorem minL_assoc {xs ys zs : List Int} (h : ys.length = xs.length) : minL (minL xs ys) zs = minL xs (minL ys zs) := by
  refine ext_getD (by simp only [minL_len]) fun i hi => ?_
  simp only [minL_len] at hi
  rw [minL_getD (by rw [minL_len]; exact hi), minL_getD hi, minL_getD hi, minL_getD (by omega)]
  omega

theorem minL_none {xs : List Int} (hu : ∀ x ∈ xs, Ub x) : minL (List.replicate xs.length 18446744073709551615) xs = xs := by
  refine ext_getD (by rw [minL_len, List.length_replicate]) fun i hi => ?_
  rw [minL_len, List.length_replicate] at hi
  rw [minL_getD (by rw [List.length_replicate]; exact hi)]
  have := (getD_ub hu i).2
  have e : (List.replicate xs.length (18446744073709551615 : Int)).getD i 0 = 18446744073709551615 := by simp [List.getD_eq_getElem?_getD, hi]
  rw [e]
  omega

/-- What is asked of the least one of two rows joined. -/
theorem best_min {xs ys : List Int} (hx : ∀ x ∈ xs, Ub x) (hy : ∀ x ∈ ys, Ub x) (h : ys.length = xs.length) :
    (0 ≤ best (minL xs ys) xs.length ↔ (0 ≤ best xs xs.length ∨ 0 ≤ best ys ys.length)) := by
  have um := minL_ub hx hy
  have a := best_spec (minL xs ys) (getD_ub um) xs.length
  have b := best_spec xs (getD_ub hx) xs.length
  have c := best_spec ys (getD_ub hy) ys.length
  constructor
  · intro h0
    rcases a with ⟨a1, _⟩ | ⟨i, a1, a2, a3, _⟩
    · omega
    · rcases b with ⟨b1, b2⟩ | ⟨j, b1, _⟩
      · rcases c with ⟨c1, c2⟩ | ⟨j, c1, _⟩
        · exfalso
          rw [minL_getD a2, b2 i a2, c2 i (by omega)] at a3
          omega
        · right; omega
      · left; omega
  · intro h0
    rcases a with ⟨a1, a2⟩ | ⟨i, a1, _⟩
    · exfalso
      rcases h0 with h0 | h0
      · rcases b with ⟨b1, _⟩ | ⟨j, b1, b2, b3, _⟩
        · omega
        · have := a2 j b2
          rw [minL_getD b2] at this
          have := (getD_ub hx j).2
          omega
      · rcases c with ⟨c1, _⟩ | ⟨j, c1, c2, c3, _⟩
        · omega
        · have := a2 j (by omega)
          rw [minL_getD (by omega)] at this
          have := (getD_ub hy j).2
          omega
    · omega

theorem best_bd {xs : List Int} (hx : ∀ x ∈ xs, Ub x) (h : 0 ≤ best xs xs.length) : ∃ i : Nat, best xs xs.length = i ∧ i < xs.length ∧ ∀ j, j < xs.length → xs.getD i 0 ≤ xs.getD j 0 := by
  rcases best_spec xs (getD_ub hx) xs.length with ⟨a1, _⟩ | ⟨i, a1, a2, _, a3⟩
  · omega
  · refine ⟨i, a1, a2, fun j hj => ?_⟩
    rcases a3 j hj with e | ⟨e, _⟩ <;> omega

/-! ### rows by tables -/

theorem sadd_min_left (p q y : Int) : sadd (min p q) y = min (sadd p y) (sadd q y) := by unfold sadd; omega
theorem sadd_min_right (p q y : Int) : sadd y (min p q) = min (sadd y p) (sadd y q) := by unfold sadd; omega
theorem sadd_assoc' {a b c : Int} (ha : Ub a) (hc : Ub c) : sadd (sadd a b) c = sadd a (sadd b c) := by unfold sadd Ub at *; omega
theorem sadd_inf_left {y : Int} (h : Ub y) : sadd 18446744073709551615 y = 18446744073709551615 := by unfold sadd Ub at *; omega
theorem sadd_inf_right {y : Int} (h : Ub y) : sadd y 18446744073709551615 = 18446744073709551615 := by unfold sadd Ub at *; omega

theorem le_viaB (c : Int) (xs : List Int) (xss : List (List Int)) (k : Nat) : ∀ n, c ≤ viaB xs xss k n ↔ c ≤ 18446744073709551615 ∧ ∀ i, i < n → c ≤ sadd (xs.getD i 0) ((xss.getD i []).getD k 0)
  | 0 => by simp [viaB]
  | n + 1 => by
    show c ≤ min (viaB xs xss k n) (sadd (xs.getD n 0) ((xss.getD n []).getD k 0)) ↔ _
    rw [Int.le_min, le_viaB c xs xss k n]
    constructor
    · rintro ⟨⟨h1, h2⟩, h3⟩
      refine ⟨h1, fun i hi => ?_⟩
      rcases Nat.lt_succ_iff_lt_or_eq.1 hi with e | rfl
      · exact h2 i e
      · exact h3
    · rintro ⟨h1, h2⟩
      exact ⟨⟨h1, fun i hi => h2 i (by omega)⟩, h2 n (by omega)⟩

theorem le_viaB_left {y : Int} (hy : Ub y) (c : Int) (xs : List Int) (xss : List (List Int)) (k : Nat) : ∀ n, c ≤ sadd (viaB xs xss k n) y ↔ c ≤ 18446744073709551615 ∧ ∀ i, i < n → c ≤ sadd (sadd (xs.getD i 0) ((xss.getD i []).getD k 0)) y
  | 0 => by rw [show viaB xs xss k 0 = 18446744073709551615 from rfl, sadd_inf_left hy]; simp
  | n + 1 => by
    show c ≤ sadd (min (viaB xs xss k n) (sadd (xs.getD n 0) ((xss.getD n []).getD k 0))) y ↔ _
    rw [sadd_min_left, Int.le_min, le_viaB_left hy c xs xss k n]
    constructor
    · rintro ⟨⟨h1, h2⟩, h3⟩
      refine ⟨h1, fun i hi => ?_⟩
      rcases Nat.lt_succ_iff_lt_or_eq.1 hi with e | rfl
      · exact h2 i e
      · exact h3
    · rintro ⟨h1, h2⟩
      exact ⟨⟨h1, fun i hi => h2 i (by omega)⟩, h2 n (by omega)⟩

theorem le_viaB_right {y : Int} (hy : Ub y) (c : Int) (xs : List Int) (xss : List (List Int)) (k : Nat) : ∀ n, c ≤ sadd y (viaB xs xss k n) ↔ c ≤ 18446744073709551615 ∧ ∀ i, i < n → c ≤ sadd y (sadd (xs.getD i 0) ((xss.getD i []).getD k 0))
  | 0 => by rw [show viaB xs xss k 0 = 18446744073709551615 from rfl, sadd_inf_right hy]; simp
  | n + 1 => by
    show c ≤ sadd y (min (viaB xs xss k n) (sadd (xs.getD n 0) ((xss.getD n []).getD k 0))) ↔ _
    rw [sadd_min_right, Int.le_min, le_viaB_right hy c xs xss k n]
    constructor
    · rintro ⟨⟨h1, h2⟩, h3⟩
      refine ⟨h1, fun i hi => ?_⟩
      rcases Nat.lt_succ_iff_lt_or_eq.1 hi with e | rfl
      · exact h2 i e
      · exact h3
    · rintro ⟨h1, h2⟩
      exact ⟨⟨h1, fun i hi => h2 i (by omega)⟩, h2 n (by omega)⟩

theorem viaL_getD {xs : List Int} {xss : List (List Int)} {k : Nat} (hk : k < (xss.getD 0 []).length) : (viaL xs xss).getD k 0 = viaB xs xss k xss.length := by
  simp [viaL, List.getD_eq_getElem?_getD] at hk ⊢
  simp [hk]

/-- By one table, and by another one, is by the table whose rows are those of the first one by the second. -/
theorem via_via {xs : List Int} {t u : List (List Int)} (hx : ∀ x ∈ xs, Ub x) (ht : TabUb t) (hu : TabUb u) (h0 : 0 < t.length) (_hm : ∀ i, i < t.length → (t.getD i []).length = (t.getD 0 []).length)
    (hlu : u.length = (t.getD 0 []).length) : viaL (viaL xs t) u = viaL xs (t.map fun row => viaL row u) := by
  have hg : ∀ i, i < t.length → (t.map fun row => viaL row u).getD i [] = viaL (t.getD i []) u := fun i hi => by simp [List.getD_eq_getElem?_getD, hi]
  refine ext_getD (by rw [viaL_len, viaL_len, hg 0 h0, viaL_len]) fun k hk => ?_
  rw [viaL_len] at hk
  rw [viaL_getD hk, viaL_getD (by rw [hg 0 h0, viaL_len]; exact hk), List.length_map]
  apply Int.le_antisymm
  · rw [le_viaB]
    refine ⟨(viaB_ub (viaL_ub hx ht) hu k u.length).2, fun i hi => ?_⟩
    rw [hg i hi, viaL_getD hk, le_viaB_right (getD_ub hx i)]
    refine ⟨(viaB_ub (viaL_ub hx ht) hu k u.length).2, fun j hj => ?_⟩
    have h1 := ((le_viaB (viaB (viaL xs t) u k u.length) (viaL xs t) u k u.length).1 (Int.le_refl _)).2 j hj
    rw [viaL_getD (by omega)] at h1
    have h2 := ((le_viaB_left (tabUb_at hu j k) _ xs t j t.length).1 h1).2 i hi
    rw [sadd_assoc' (getD_ub hx i) (tabUb_at hu j k)] at h2
    exact h2
  · rw [le_viaB]
    refine ⟨?_, fun j hj => ?_⟩
    · exact ((le_viaB _ _ _ _ _).1 (Int.le_refl _)).1
    · rw [viaL_getD (by omega), le_viaB_left (tabUb_at hu j k)]
      refine ⟨((le_viaB _ _ _ _ _).1 (Int.le_refl _)).1, fun i hi => ?_⟩
      have h1 := ((le_viaB _ xs (t.map fun row => viaL row u) k t.length).1 (Int.le_refl _)).2 i hi
      rw [hg i hi, viaL_getD hk] at h1
      have h2 := ((le_viaB_right (getD_ub hx i) _ (t.getD i []) u k u.length).1 h1).2 j hj
      rw [sadd_assoc' (getD_ub hx i) (tabUb_at hu j k)]
      exact h2

/-- Each row of the table once more turns nothing. -/
theorem via_twice {xs : List Int} {t : List (List Int)} (h0 : 0 < t.length) (hl : t.length = xs.length) : viaL (xs ++ xs) (t ++ t) = viaL xs t := by
  have hg : ∀ i, i < t.length → (t ++ t).getD i [] = t.getD i [] := fun i hi => by rw [List.getD_eq_getElem?_getD, List.getD_eq_getElem?_getD, List.getElem?_append_left hi]
  have hg2 : ∀ i, (t ++ t).getD (t.length + i) [] = t.getD i [] := fun i => by rw [List.getD_eq_getElem?_getD, List.getD_eq_getElem?_getD, List.getElem?_append_right (by omega), Nat.add_sub_cancel_left]
  have hx : ∀ i, i < t.length → (xs ++ xs).getD i 0 = xs.getD i 0 := fun i hi => by simp [List.getD_eq_getElem?_getD, List.getElem?_append_left (show i < xs.length by omega)]
  have hx2 : ∀ i, (xs ++ xs).getD (t.length + i) 0 = xs.getD i 0 := fun i => by rw [hl, List.getD_eq_getElem?_getD, List.getD_eq_getElem?_getD, List.getElem?_append_right (by omega), Nat.add_sub_cancel_left]
  refine ext_getD (by rw [viaL_len, viaL_len, hg 0 h0]) fun k hk => ?_
  rw [viaL_len] at hk
  rw [viaL_getD hk, viaL_getD (by rw [← hg 0 h0]; exact hk)]
  apply Int.le_antisymm
  · rw [le_viaB]
    refine ⟨((le_viaB _ _ _ _ _).1 (Int.le_refl _)).1, fun i hi => ?_⟩
    have h1 := ((le_viaB _ (xs ++ xs) (t ++ t) k (t ++ t).length).1 (Int.le_refl _)).2 i (by rw [List.length_append]; omega)
    rw [hg i hi, hx i hi] at h1
    exact h1
  · rw [le_viaB]
    refine ⟨((le_viaB _ _ _ _ _).1 (Int.le_refl _)).1, fun i hi => ?_⟩
    rw [List.length_append] at hi
    by_cases h2 : i < t.length
    · rw [hg i h2, hx i h2]
      exact ((le_viaB _ xs t k t.length).1 (Int.le_refl _)).2 i h2
    · obtain ⟨j, rfl⟩ : ∃ j, i = t.length + j := ⟨i - t.length, by omega⟩
      rw [hg2, hx2]
      exact ((le_viaB _ xs t k t.length).1 (Int.le_refl _)).2 j (by omega)
end Go.Proofs.Ytedijnokbemegaa
