/- Layer 3: two rows joined, in the reference: what it returns. For rows up to 1000000 costs. -/
import Derived.Test.YtedijnokbemegaaE
namespace Go.Proofs.Ytedijnokbemegaa
open Go.RowKit

def vals (l : List Int) : List Value := l.map (Value.int .u64)

theorem row_of_own {w : World} {base n : Nat} {v : Value} {l : List Int} (h : w.ownsRow base 37 1 v n (vals l)) (hu : ∀ x ∈ l, Ub x) :
    ∃ a c, v = .slice a l.length c ∧ Row w a l := by
  have hl : n = l.length := by have := h.1; simp [vals] at this; omega
  subst hl
  rcases h.2 with ⟨rfl, h0⟩ | ⟨g, cap, cur, rfl, _, hg, hn, hm, hs, ht⟩
  · have : l = [] := List.eq_nil_of_length_eq_zero h0
    subst this
    exact ⟨none, 0, rfl, by simp, .inl rfl⟩
  · refine ⟨_, _, rfl, hu, .inr ⟨g, 0, rfl, lt_of_block hg, fun i hi => ?_⟩⟩
    have e : (vals l)[i]? = some (.int .u64 (l.getD i 0)) := by simp [vals, List.getD_eq_getElem?_getD, hi]
    have e2 : cur[i]? = (vals l)[i]? := by
      rw [← ht, List.getElem?_take, if_pos (by omega), Array.getElem?_toList]
    rw [Nat.zero_add]
    simp [World.cell?, hg, e2, e]

theorem vals_snoc (l : List Int) (k : Nat) (hk : k < l.length) : vals (l.take k) ++ [.int .u64 (l.getD k 0)] = vals (l.take (k + 1)) := by
  rw [List.take_succ_eq_append_getElem hk]
  simp only [vals, List.map_append, List.map_cons, List.map_nil]
  rw [List.getD_eq_getElem?_getD, List.getElem?_eq_getElem hk]
  rfl

theorem minL_getD {xs ys : List Int} {k : Nat} (hk : k < xs.length) : (minL xs ys).getD k 0 = min (xs.getD k 0) (ys.getD k 0) := by
  simp [minL, List.getD_eq_getElem?_getD, hk]

theorem minL_ub {xs ys : List Int} (h1 : ∀ x ∈ xs, Ub x) (h2 : ∀ x ∈ ys, Ub x) : ∀ x ∈ minL xs ys, Ub x := by
  intro x hx
  obtain ⟨i, _, rfl⟩ := List.mem_map.1 hx
  have := getD_ub h1 i
  have := getD_ub h2 i
  unfold Ub at *
  omega

set_option maxHeartbeats 1000000 in
theorem rJoin_yes (a b : Option Addr) (c d : Nat) (xs ys : List Int) (w : World) (ha : Row w a xs) (hb : Row w b ys) (he : ys.length = xs.length) (hl : xs.length ≤ 1000000) :
    Calls Try.prog 14 #[.slice a xs.length c, .slice b ys.length d] w (RetRowE w (minL xs ys) 0) := by
  obtain ⟨i0, hi0, hz0, hz1, hz2⟩ := info_parts info37
  have hA := Lib.hid ha
  have hB := Lib.hid hb
  have hm := Lib.hid (minL_len xs ys)
  have hU := Lib.hid (minL_ub ha.1 hb.1)
  have HE := Lib.hid he
  rw [he]
  clear ha hb he
  go_enter Try.func14, Try.ntmps14
  go_wp2
  go_loopw [6, 7] (fun o i wr => ∃ k : Nat, k ≤ xs.length ∧ i = .int .i64 k ∧ wr.ownsRow w.heap.size 37 1 o k (vals ((minL xs ys).take k)) ∧ Below w.heap.size w wr)
    (fun _ i _ => xs.length - (intOf i).toNat)
  case atStart => exact ⟨0, by omega, rfl, World.ownsRow_made w _ 0 (Nat.le_refl _) (by simp [maxLen]) (by simp), by go_grown⟩
  case round =>
    obtain ⟨k, hk, rfl, hown, hbel⟩ := hrel
    by_cases hlt : k < xs.length
    · obtain ⟨b1, o1, rfl, l1, q1, u1⟩ := (hA.out.below hbel (Nat.le_refl _)).at_ hlt
      obtain ⟨b2, o2, rfl, l2, q2, u2⟩ := (hB.out.below hbel (Nat.le_refl _)).at_ (show k < ys.length by have := HE.out; omega)
      have HV := Lib.hid (vals_snoc (minL xs ys) k (by rw [hm.out]; exact hlt))
      have HG := Lib.hid (minL_getD (ys := ys) hlt)
      generalize xs.getD k 0 = x at *
      generalize ys.getD k 0 = y at *
      have k0 : (0 : Int) ≤ (k : Int) := by omega
      have k1 : (k : Int) < (xs.length : Int) := by omega
      have HO := Lib.hid hown
      clear hown u1 u2
      by_cases hc : x < y
      · have HM := Lib.hid (show (minL xs ys).getD k 0 = x by rw [HG.out]; omega)
        go_wp2
        go_quiet (fail)
        have hown2 : (wr.drewN nq).ownsRow w.heap.size 37 1 u6 k (vals ((minL xs ys).take k)) := HO.out
        have HO2 := Lib.hid hown2
        have hsz := below_drewN hbel nq
        have HSZ := Lib.hid hsz
        have HSS := Lib.hid hsz.size
        clear hown2 hsz
        go_wp2_with (at_builtin; refine wpList_append_own _ rfl _ _ 22 rfl w.heap.size 37 i0 (.int .u64 0) 1 8 Try.underlying22 hi0 hz0 hz1 hz2 rfl (by decide) _ _ _ rfl (HO2.out.alloc _) ⟨(wr.drewN nq).heap.size, 0, none⟩ 1 1 [.int .u64 x] rfl rfl (cell_one_new _ _ _) (by simp [Value.oneCell']) (by simp [maxLen]; omega) (by omega) (by have := HSS.out; simp only [World.size_alloc]; omega) ?_; intro v' w1 hown1 hg1 _)
        have hB1 : Below w.heap.size w w1 := (HSZ.out.alloc (HSS.out) _).grown hg1 (by have := HSS.out; simp only [World.size_alloc]; omega) (fun k hk => (HO2.out.lt k hk).1)
        have HW := Lib.hid hown1
        clear hg1
        go_roundw
        case rel =>
          refine ⟨k + 1, by omega, by go_num, ?_, hB1⟩
          rw [← HV.out, HM.out]
          exact HW.out
        case measure => simp [intOf]; omega
      · have HM := Lib.hid (show (minL xs ys).getD k 0 = y by rw [HG.out]; omega)
        go_wp2
        go_quiet (fail)
        have hown2 : (wr.drewN nq).ownsRow w.heap.size 37 1 u6 k (vals ((minL xs ys).take k)) := HO.out
        have HO2 := Lib.hid hown2
        have hsz := below_drewN hbel nq
        have HSZ := Lib.hid hsz
        have HSS := Lib.hid hsz.size
        clear hown2 hsz
        go_wp2_with (at_builtin; refine wpList_append_own _ rfl _ _ 22 rfl w.heap.size 37 i0 (.int .u64 0) 1 8 Try.underlying22 hi0 hz0 hz1 hz2 rfl (by decide) _ _ _ rfl (HO2.out.alloc _) ⟨(wr.drewN nq).heap.size, 0, none⟩ 1 1 [.int .u64 y] rfl rfl (cell_one_new _ _ _) (by simp [Value.oneCell']) (by simp [maxLen]; omega) (by omega) (by have := HSS.out; simp only [World.size_alloc]; omega) ?_; intro v' w1 hown1 hg1 _)
        have hB1 : Below w.heap.size w w1 := (HSZ.out.alloc (HSS.out) _).grown hg1 (by have := HSS.out; simp only [World.size_alloc]; omega) (fun k hk => (HO2.out.lt k hk).1)
        have HW := Lib.hid hown1
        clear hg1
        go_roundw
        case rel =>
          refine ⟨k + 1, by omega, by go_num, ?_, hB1⟩
          rw [← HV.out, HM.out]
          exact HW.out
        case measure => simp [intOf]; omega
    · obtain rfl : k = xs.length := by omega
      rw [show (minL xs ys).take xs.length = minL xs ys from List.take_of_length_le (by rw [hm.out]; exact Nat.le_refl _)] at hown
      obtain ⟨a1, c1, rfl, hr⟩ := row_of_own hown hU.out
      have HR := Lib.hid hr
      clear hown hr
      go_wp2
      go_ret2
      exact ⟨a1, c1, rfl, HR.out, hbel⟩

set_option maxHeartbeats 400000 in
theorem rJoin_no (a b : Option Addr) (n m c d : Nat) (w : World) (he : n ≠ m) :
    Calls Try.prog 14 #[.slice a n c, .slice b m d] w fun e w' => e = .returned (.tuple #[.slice none 0 0, .int .i64 12]) ∧ Below w.heap.size w w' := by
  have hne : ((n : Int) != (m : Int)) = true := by simp; omega
  clear he
  go_enter Try.func14, Try.ntmps14
  go_wp2
  go_ret2
  exact ⟨rfl, by go_grown⟩
end Go.Proofs.Ytedijnokbemegaa
