/- Layer 3: the first of the least costs, in the code and in the reference: both return one and the same place. For rows up to 1000000 costs. -/
import Derived.Test.YtedijnokbemegaaC
namespace Go.Proofs.Ytedijnokbemegaa
open Go.RowKit

/-- The place of the first of the least ones among the first k; -1: there is none. -/
def best (xs : List Int) : Nat → Int
  | 0 => -1
  | k + 1 => if xs.getD k 0 ≠ 18446744073709551615 ∧ (best xs k < 0 ∨ xs.getD k 0 < xs.getD (best xs k).toNat 0) then k else best xs k

/-- Is the cost at i the first of the least ones among the first k? -/
def isB (xs : List Int) (i : Nat) : Nat → Bool
  | 0 => xs.getD i 0 != 18446744073709551615
  | k + 1 => isB xs i k && (decide (xs.getD i 0 < xs.getD k 0) || (xs.getD k 0 == xs.getD i 0 && decide ((i : Int) ≤ (k : Int))))

def IsL (xs : List Int) (k i : Nat) : Prop := xs.getD i 0 ≠ 18446744073709551615 ∧ ∀ j, j < k → xs.getD i 0 < xs.getD j 0 ∨ (xs.getD j 0 = xs.getD i 0 ∧ i ≤ j)

theorem isB_iff (xs : List Int) (i : Nat) : ∀ k, isB xs i k = true ↔ IsL xs k i
  | 0 => by simp [isB, IsL]
  | k + 1 => by
    unfold isB
    rw [Bool.and_eq_true, isB_iff xs i k]
    simp only [IsL, Bool.or_eq_true, Bool.and_eq_true, decide_eq_true_eq, beq_iff_eq]
    constructor
    · rintro ⟨⟨h1, h2⟩, h3⟩
      refine ⟨h1, fun j hj => ?_⟩
      rcases Nat.lt_succ_iff_lt_or_eq.1 hj with h | rfl
      · exact h2 j h
      · omega
    · rintro ⟨h1, h2⟩
      refine ⟨⟨h1, fun j hj => h2 j (by omega)⟩, ?_⟩
      have := h2 k (by omega)
      omega

theorem best_spec (xs : List Int) (h : ∀ j, Ub (xs.getD j 0)) : ∀ k, (best xs k = -1 ∧ ∀ j, j < k → xs.getD j 0 = 18446744073709551615) ∨ ∃ i : Nat, best xs k = i ∧ i < k ∧ IsL xs k i
  | 0 => .inl ⟨rfl, fun j hj => by omega⟩
  | k + 1 => by
    rcases best_spec xs h k with ⟨h1, h2⟩ | ⟨i, h1, h2, h3⟩
    · by_cases hk : xs.getD k 0 = 18446744073709551615
      · left
        refine ⟨by rw [best, if_neg (by rintro ⟨a, _⟩; exact a hk)]; exact h1, fun j hj => ?_⟩
        rcases Nat.lt_succ_iff_lt_or_eq.1 hj with e | rfl
        · exact h2 j e
        · exact hk
      · right
        refine ⟨k, by rw [best, if_pos ⟨hk, .inl (by omega)⟩], by omega, hk, fun j hj => ?_⟩
        rcases Nat.lt_succ_iff_lt_or_eq.1 hj with e | rfl
        · left; rw [h2 j e]; have := (h k).2; omega
        · right; exact ⟨rfl, Nat.le_refl _⟩
    · right
      by_cases hc : xs.getD k 0 ≠ 18446744073709551615 ∧ (best xs k < 0 ∨ xs.getD k 0 < xs.getD (best xs k).toNat 0)
      · have hlt : xs.getD k 0 < xs.getD i 0 := by
          rcases hc.2 with e | e
          · omega
          · rw [h1] at e; exact e
        refine ⟨k, by rw [best, if_pos hc], by omega, hc.1, fun j hj => ?_⟩
        rcases Nat.lt_succ_iff_lt_or_eq.1 hj with e | rfl
        · left; have := h3.2 j e; omega
        · right; exact ⟨rfl, Nat.le_refl _⟩
      · refine ⟨i, by rw [best, if_neg hc]; exact h1, by omega, h3.1, fun j hj => ?_⟩
        rcases Nat.lt_succ_iff_lt_or_eq.1 hj with e | rfl
        · exact h3.2 j e
        · have : ¬ xs.getD j 0 < xs.getD i 0 := fun e => hc ⟨by have := (h i).2; omega, .inr (by rw [h1]; exact e)⟩
          omega

theorem isB_best (xs : List Int) (h : ∀ j, Ub (xs.getD j 0)) {i k : Nat} (hi : i < k) : isB xs i k = true ↔ best xs k = i := by
  rw [isB_iff]
  rcases best_spec xs h k with ⟨h1, h2⟩ | ⟨i', h1, h2, h3⟩
  · constructor
    · intro hl; exact absurd (h2 i hi) hl.1
    · intro e; omega
  · constructor
    · intro hl
      have a := hl.2 i' h2
      have b := h3.2 i hi
      omega
    · intro e
      obtain rfl : i' = i := by omega
      exact h3

theorem getD_ub {xs : List Int} (h : ∀ x ∈ xs, Ub x) (j : Nat) : Ub (xs.getD j 0) := by
  rw [List.getD_eq_getElem?_getD]
  by_cases hj : j < xs.length
  · rw [List.getElem?_eq_getElem hj]; exact h _ (List.getElem_mem hj)
  · rw [List.getElem?_eq_none (by omega)]; exact ⟨by simp, by simp⟩

def LeastRes (xs : List Int) : Value := .tuple #[.int .i64 (max (best xs xs.length) 0), .bool (decide (0 ≤ best xs xs.length))]

theorem best_lt (xs : List Int) : ∀ k, -1 ≤ best xs k ∧ best xs k < k ∨ k = 0 ∧ best xs k = -1
  | 0 => .inr ⟨rfl, rfl⟩
  | k + 1 => by
    left
    rcases best_lt xs k with h | ⟨rfl, h⟩ <;> (unfold best; split <;> omega)

set_option maxHeartbeats 1000000 in
theorem least_any (a : Option Addr) (c : Nat) (xs : List Int) (w : World) (ha : Row w a xs) (hl : xs.length ≤ 1000000) :
    Calls Try.prog 10 #[.slice a xs.length c] w fun e w' => e = .returned (LeastRes xs) ∧ Below w.heap.size w w' := by
  have HA := Lib.hid ha
  clear ha
  go_enter Try.func10, Try.ntmps10
  go_wp2
  go_loopw [4, 9] (fun n i wr => ∃ k : Nat, k ≤ xs.length ∧ i = .int .i64 k ∧ n = .int .i64 (best xs k) ∧ Below w.heap.size w wr)
    (fun _ i _ => xs.length - (intOf i).toNat)
  case atStart => exact ⟨0, by omega, rfl, rfl, by go_grown⟩
  case round =>
    obtain ⟨k, hk, rfl, rfl, hbel⟩ := hrel
    have hbb := best_lt xs k
    by_cases hlt : k < xs.length
    · obtain ⟨b1, o1, rfl, l1, c1, u1⟩ := (HA.out.below hbel (Nat.le_refl _)).at_ hlt
      by_cases hx : xs.getD k 0 = 18446744073709551615
      · have HS := Lib.hid (show best xs (k + 1) = best xs k by rw [best, if_neg (by rintro ⟨e, _⟩; exact e hx)])
        rw [hx] at c1
        clear hx u1
        go_wp2
        go_roundw
        case rel => exact ⟨k + 1, by omega, by go_num, by rw [HS.out], hbel⟩
        case measure => simp [intOf]; omega
      · have hne : (xs.getD k 0 != 18446744073709551615) = true := by simpa using hx
        by_cases hn : best xs k < 0
        · have HS := Lib.hid (show best xs (k + 1) = k by rw [best, if_pos ⟨hx, .inl hn⟩])
          clear hx u1
          generalize xs.getD k 0 = x at *
          go_wp2
          go_roundw
          case rel => exact ⟨k + 1, by omega, by go_num, by rw [HS.out], hbel⟩
          case measure => simp [intOf]; omega
        · obtain ⟨B, hB⟩ := Int.eq_ofNat_of_zero_le (show 0 ≤ best xs k by omega)
          obtain ⟨b2, o2, e2, l2, c2, u2⟩ := (HA.out.below hbel (Nat.le_refl _)).at_ (show B < xs.length by omega)
          simp only [Option.some.injEq, Addr.mk.injEq, and_true] at e2
          obtain ⟨rfl, rfl⟩ := e2
          by_cases hc : xs.getD k 0 < xs.getD B 0
          · have HS := Lib.hid (show best xs (k + 1) = k by rw [best, if_pos ⟨hx, .inr (by rw [hB]; exact hc)⟩])
            clear hx u1 u2
            rw [hB] at hbb hn ⊢
            clear hB
            generalize xs.getD k 0 = x at *
            generalize xs.getD B 0 = y at *
            go_wp2
            go_roundw
            case rel => exact ⟨k + 1, by omega, by go_num, by rw [HS.out], hbel⟩
            case measure => simp [intOf]; omega
          · have HS := Lib.hid (show best xs (k + 1) = B by
              rw [best, if_neg (fun ⟨_, e⟩ => e.elim hn (fun e => hc (by rw [hB] at e; exact e)))]; exact hB)
            clear hx u1 u2
            rw [hB] at hbb hn ⊢
            clear hB
            generalize xs.getD k 0 = x at *
            generalize xs.getD B 0 = y at *
            go_wp2
            go_roundw
            case rel => exact ⟨k + 1, by omega, by go_num, by rw [HS.out], hbel⟩
            case measure => simp [intOf]; omega
    · obtain rfl : k = xs.length := by omega
      have HM := Lib.hid (show LeastRes xs = .tuple #[.int .i64 (max (best xs xs.length) 0), .bool (decide (0 ≤ best xs xs.length))] from rfl)
      by_cases hn : best xs xs.length < 0
      · have e1 : max (best xs xs.length) 0 = 0 := by omega
        rw [e1] at HM
        clear e1
        go_wp2
        go_ret2
        exact ⟨by rw [HM.out]; rfl, hbel⟩
      · have e1 : max (best xs xs.length) 0 = best xs xs.length := by omega
        have e2 : decide (0 ≤ best xs xs.length) = true := by simp; omega
        rw [e1, e2] at HM
        clear e1 e2
        go_wp2
        go_ret2
        exact ⟨by rw [HM.out]; rfl, hbel⟩

theorem isB_step (xs : List Int) (i k : Nat) : isB xs i (k + 1) = (isB xs i k && (decide (xs.getD i 0 < xs.getD k 0) || (xs.getD k 0 == xs.getD i 0 && decide ((i : Int) ≤ (k : Int))))) := rfl

set_option maxHeartbeats 2000000 in
theorem rLeast_any (a : Option Addr) (c : Nat) (xs : List Int) (w : World) (ha : Row w a xs) (hl : xs.length ≤ 1000000) :
    Calls Try.prog 11 #[.slice a xs.length c] w fun e w' => e = .returned (LeastRes xs) ∧ Below w.heap.size w w' := by
  have HA := Lib.hid ha
  have HI := Lib.hid (fun i (hi : i < xs.length) => isB_best xs (getD_ub ha.1) hi)
  have HP := Lib.hid (best_spec xs (getD_ub ha.1) xs.length)
  clear ha
  go_enter Try.func11, Try.ntmps11
  go_wp2
  go_loopw [4] (fun i wr => ∃ k : Nat, k ≤ xs.length ∧ i = .int .i64 k ∧ (∀ j, j < k → isB xs j xs.length = false) ∧ Below w.heap.size w wr)
    (fun i _ => xs.length - (intOf i).toNat)
  case atStart => exact ⟨0, by omega, rfl, fun j hj => by omega, by go_grown⟩
  case round =>
    obtain ⟨i, hi, rfl, hno, hbel⟩ := hrel
    have HNO := Lib.hid hno
    clear hno
    by_cases hlt : i < xs.length
    · obtain ⟨b1, o1, rfl, l1, c1, u1⟩ := (HA.out.below hbel (Nat.le_refl _)).at_ hlt
      have HZ := Lib.hid (show isB xs i 0 = (xs.getD i 0 != 18446744073709551615) from rfl)
      have HY := Lib.hid (fun k => isB_step xs i k)
      generalize hx : xs.getD i 0 = x at *
      have HX := Lib.hid hx
      clear hx
      go_wp2
      obtain ⟨wo, hwo⟩ : ∃ wo : World, wo = wr := ⟨_, rfl⟩
      subst hwo
      go_loopw [5, 6] (fun s j wq => ∃ k : Nat, k ≤ xs.length ∧ j = .int .i64 k ∧ s = .bool (isB xs i k) ∧ Below w.heap.size w wq)
        (fun _ j _ => xs.length - (intOf j).toNat)
      case atStart => exact ⟨0, by omega, rfl, by rw [HZ.out], hbel⟩
      case round =>
        obtain ⟨k, hk, rfl, rfl, hbel2⟩ := hrel
        by_cases hltk : k < xs.length
        · obtain ⟨b2, o2, e2, l2, c2, u2⟩ := (HA.out.below hbel2 (Nat.le_refl _)).at_ hltk
          obtain ⟨b3, o3, e3, l3, c3, u3⟩ := (HA.out.below hbel2 (Nat.le_refl _)).at_ hlt
          simp only [Option.some.injEq, Addr.mk.injEq, and_true] at e2 e3
          obtain ⟨rfl, rfl⟩ := e2
          obtain ⟨rfl, rfl⟩ := e3
          rw [HX.out] at c3
          have HS := Lib.hid (HY.out k)
          clear HY HZ u1 u2 u3
          generalize hy : xs.getD k 0 = y at *
          clear hy
          have i0 : (0 : Int) ≤ (i : Int) := by omega
          have i1 : (i : Int) < (xs.length : Int) := by omega
          have k0 : (0 : Int) ≤ (k : Int) := by omega
          have k1 : (k : Int) < (xs.length : Int) := by omega
          have HG := Lib.hid (show isB xs i k = true ∨ isB xs i k = false by cases isB xs i k <;> simp)
          rcases HG.out with hg | hg
          · rw [hg] at HS ⊢
            clear hg HG
            by_cases t1 : x < y
            · have d1 : decide (x < y) = true := by simpa using t1
              rw [d1] at HS
              clear d1
              go_wp2
              go_quiet (fail)
              go_wp2
              go_roundw
              case rel => exact ⟨k + 1, by omega, by go_num, by rw [HS.out]; simp, below_drewN hbel2 _⟩
              case measure => simp [intOf]; omega
            · have d1 : decide (x < y) = false := by simpa using t1
              rw [d1] at HS
              clear d1
              by_cases t2 : y = x
              · subst t2
                have d2 : (y == y) = true := by simp
                rw [d2] at HS
                clear d2 t1
                by_cases t3 : i ≤ k
                · have d3 : decide ((i : Int) ≤ (k : Int)) = true := by simpa using t3
                  rw [d3] at HS
                  clear d3
                  go_wp2
                  go_quiet (fail)
                  go_wp2
                  go_roundw
                  case rel => exact ⟨k + 1, by omega, by go_num, by rw [HS.out]; simp, below_drewN hbel2 _⟩
                  case measure => simp [intOf]; omega
                · have d3 : decide ((i : Int) ≤ (k : Int)) = false := by simpa using t3
                  rw [d3] at HS
                  clear d3
                  go_wp2
                  go_quiet (fail)
                  go_wp2
                  go_roundw
                  case rel => exact ⟨k + 1, by omega, by go_num, by rw [HS.out]; simp, below_drewN hbel2 _⟩
                  case measure => simp [intOf]; omega
              · have d2 : (y == x) = false := by simpa using t2
                rw [d2] at HS
                clear t2
                go_wp2
                go_quiet (fail)
                go_wp2
                go_roundw
                case rel => exact ⟨k + 1, by omega, by go_num, by rw [HS.out]; simp; omega, below_drewN hbel2 _⟩
                case measure => simp [intOf]; omega
          · rw [hg] at HS ⊢
            clear hg HG
            have HS2 := Lib.hid (show isB xs i (k + 1) = false by rw [HS.out]; simp)
            clear HS
            go_wp2
            go_quiet (fail)
            go_wp2
            go_roundw
            case rel => exact ⟨k + 1, by omega, by go_num, by rw [HS2.out], below_drewN hbel2 _⟩
            case measure => simp [intOf]; omega
        · obtain rfl : k = xs.length := by omega
          have HI' := Lib.hid (HI.out i hlt)
          have HG := Lib.hid (show isB xs i xs.length = true ∨ isB xs i xs.length = false by cases isB xs i xs.length <;> simp)
          rcases HG.out with hg | hg
          · have HB := Lib.hid (show LeastRes xs = .tuple #[.int .i64 i, .bool true] by
              unfold LeastRes
              rw [HI'.out.1 hg, show max (i : Int) 0 = i by omega, show decide (0 ≤ (i : Int)) = true by simp])
            rw [hg]
            clear hg HG
            go_wp2
            go_ret2
            exact ⟨by rw [HB.out]; rfl, hbel2⟩
          · have HN2 := Lib.hid hg
            rw [hg]
            clear hg HG
            go_wp2
            go_roundw
            case rel => exact ⟨i + 1, by omega, by go_num, fun j hj => (Nat.lt_succ_iff_lt_or_eq.1 hj).elim (fun e => HNO.out j e) (fun e => e ▸ HN2.out), hbel2⟩
            case measure => simp [intOf]; omega
    · obtain rfl : i = xs.length := by omega
      have HB := Lib.hid (show LeastRes xs = .tuple #[.int .i64 0, .bool false] by
        rcases HP.out with ⟨h1, _⟩ | ⟨j, h1, h2, _⟩
        · unfold LeastRes; rw [h1]; rfl
        · have := (HI.out j h2).2 h1
          rw [HNO.out j h2] at this
          cases this)
      go_wp2
      go_ret2
      exact ⟨by rw [HB.out]; rfl, hbel⟩
end Go.Proofs.Ytedijnokbemegaa
