/- Layer 3: a cost so many times, in the code and in the reference: what each returns, for all costs and numbers. -/
import Derived.Test.YtedijnokbemegaaB
import Derived.Test.YtedijnokbemegaaShelf
namespace Go.Proofs.Ytedijnokbemegaa
open Go.RowKit

/-- A cost so many times. -/
def stimes (a n : Int) : Int := if n < 1 then 0 else min (a * n) 18446744073709551615

theorem stimes_ub {a n : Int} (ha : Ub a) : Ub (stimes a n) := by
  unfold stimes Ub at *
  split
  · omega
  · have := Int.mul_nonneg ha.1 (show 0 ≤ n by omega)
    omega

set_option maxHeartbeats 400000 in
theorem times_any (a n : Int) (ha : Ub a) (hn : n ≤ 9223372036854775807) (w : World) :
    Calls Try.prog 21 #[.int .u64 a, .int .i64 n] w fun e w' => e = .returned (.int .u64 (stimes a n)) ∧ w = w' := by
  by_cases h1 : n < 1
  · have H := Lib.hid (show stimes a n = 0 by unfold stimes; rw [if_pos h1])
    go_enter Try.func21, Try.ntmps21
    go_wp2_with fail
    go_ret
    exact ⟨by rw [H.out]; rfl, rfl⟩
  · obtain ⟨A, rfl⟩ := Int.eq_ofNat_of_zero_le ha.1
    obtain ⟨M, rfl⟩ := Int.eq_ofNat_of_zero_le (show 0 ≤ n by omega)
    have hA : A < 18446744073709551616 := by have := ha.2; omega
    have hM : M < 18446744073709551616 := by omega
    have e1 : ((A : Int) * (M : Int)) = ((A * M : Nat) : Int) := by simp
    have E := Lib.hid (show stimes (A : Int) (M : Int) = min ((A * M : Nat) : Int) 18446744073709551615 by unfold stimes; rw [if_neg h1, e1])
    have C := Lib.hid (Try.bits_Mul64 A M hA hM)
    clear e1 ha
    generalize A * M = Q at *
    by_cases hq : Q / 18446744073709551616 = 0
    · have H := Lib.hid (show stimes (A : Int) (M : Int) = ((Q % 18446744073709551616 : Nat) : Int) by rw [E.out]; omega)
      have hb : (((Q / 18446744073709551616 : Nat) : Int) == 0) = true := by rw [hq]; rfl
      clear hq E
      generalize Q % 18446744073709551616 = lo at *
      generalize Q / 18446744073709551616 = hi at *
      go_enter Try.func21, Try.ntmps21
      go_wp2_with fail
      refine (C.out _).mono ?_
      rintro e w' ⟨rfl, rfl⟩
      go_wp2_with fail
      go_ret
      exact ⟨by rw [H.out]; rfl, rfl⟩
    · have H := Lib.hid (show stimes (A : Int) (M : Int) = 18446744073709551615 by rw [E.out]; omega)
      have hb : (((Q / 18446744073709551616 : Nat) : Int) == 0) = false := by simp; omega
      clear hq E
      generalize Q % 18446744073709551616 = lo at *
      generalize Q / 18446744073709551616 = hi at *
      go_enter Try.func21, Try.ntmps21
      go_wp2_with fail
      refine (C.out _).mono ?_
      rintro e w' ⟨rfl, rfl⟩
      go_wp2_with fail
      go_ret
      exact ⟨by rw [H.out]; rfl, rfl⟩

/-- Doubling: out and a times n, together: one step of the reference. -/
theorem dbl (o a n : Int) (ho : 0 ≤ o) (ha : 0 ≤ a) (hn : 0 < n) :
    min ((if n % 2 = 1 then sadd o a else o) + sadd a a * (n / 2)) 18446744073709551615 = min (o + a * n) 18446744073709551615 := by
  have e : n = 2 * (n / 2) + n % 2 := by omega
  have hq : 0 ≤ n / 2 := by omega
  have e1 : a * n = (a + a) * (n / 2) + a * (n % 2) := by
    conv => lhs; rw [e]
    rw [Int.mul_add, Int.add_mul, ← Int.mul_assoc, Int.mul_comm a 2, Int.two_mul, Int.add_mul]
  generalize n / 2 = q at *
  have m0 : 0 ≤ (a + a) * q := Int.mul_nonneg (by omega) hq
  have key : min (sadd a a * q) 18446744073709551615 = min ((a + a) * q) 18446744073709551615 := by
    unfold sadd
    by_cases hs : a + a ≤ 18446744073709551615
    · rw [show min (a + a) 18446744073709551615 = a + a by omega]
    · rw [show min (a + a) 18446744073709551615 = 18446744073709551615 by omega]
      by_cases hq0 : q = 0
      · subst hq0; simp
      · have t1 : 18446744073709551615 * 1 ≤ 18446744073709551615 * q := Int.mul_le_mul_of_nonneg_left (by omega) (by omega)
        have t2 : (a + a) * 1 ≤ (a + a) * q := Int.mul_le_mul_of_nonneg_left (by omega) (by omega)
        omega
  have sn : 0 ≤ sadd a a * q := Int.mul_nonneg (by unfold sadd; omega) hq
  generalize sadd a a * q = S at *
  generalize (a + a) * q = T at *
  by_cases h2 : n % 2 = 1
  · rw [if_pos h2, e1, h2, Int.mul_one]; unfold sadd; omega
  · rw [if_neg h2, e1, show n % 2 = 0 by omega, Int.mul_zero]; omega

set_option maxHeartbeats 800000 in
theorem rTimes_any (a n : Int) (ha : Ub a) (hn : n ≤ 9223372036854775807) (w : World) :
    Calls Try.prog 22 #[.int .u64 a, .int .i64 n] w fun e w' => e = .returned (.int .u64 (stimes a n)) ∧ w = w' := by
  by_cases h1 : n < 1
  · have H := Lib.hid (show stimes a n = 0 by unfold stimes; rw [if_pos h1])
    go_enter Try.func22, Try.ntmps22
    go_wp2
    refine wp_loop_rounds 1 ?_
    rw [rounds_succ]
    go_wp2
    go_ret
    exact ⟨by rw [H.out]; rfl, rfl⟩
  · have H := Lib.hid (show stimes a n = min (0 + a * n) 18446744073709551615 by unfold stimes; rw [if_neg h1, Int.zero_add])
    generalize hv : stimes a n = v at *
    clear hv
    go_enter Try.func22, Try.ntmps22
    go_wp2
    go_loop [0, 1, 5] (fun x y z => ∃ a' n' o : Int, Ub a' ∧ Ub o ∧ 0 ≤ n' ∧ n' ≤ 9223372036854775807 ∧ x = .int .u64 a' ∧ y = .int .i64 n' ∧ z = .int .u64 o ∧ v = min (o + a' * n') 18446744073709551615)
      (fun _ y _ => (intOf y).toNat)
    case atStart => exact ⟨a, n, 0, ha, ⟨by omega, by omega⟩, by omega, by omega, rfl, rfl, rfl, H.out⟩
    case round =>
      obtain ⟨a', n', o, ha', ho, hn0, hn1, rfl, rfl, rfl, hv⟩ := hrel
      have HV := Lib.hid hv
      clear hv H
      by_cases hz : 0 < n'
      · have D := Lib.hid (dbl o a' n' ho.1 ha'.1 hz)
        by_cases h2 : n' % 2 = 1
        · have hb : (n' % 2 == 1) = true := by rw [h2]; rfl
          have U1 := sadd_ub ho ha'
          have U2 := sadd_ub ha' ha'
          have E2 := Lib.hid h2
          clear h2
          go_wp2_with fail
          refine (rAdd_any o a' ho ha' _).mono ?_
          rintro e w' ⟨rfl, rfl⟩
          go_wp2_with fail
          refine (rAdd_any a' a' ha' ha' _).mono ?_
          rintro e w' ⟨rfl, rfl⟩
          go_wp2_with fail
          go_round
          case rel =>
            refine ⟨sadd a' a', n' / 2, sadd o a', U2, U1, by omega, by omega, rfl, rfl, rfl, ?_⟩
            rw [HV.out, ← D.out, if_pos E2.out]
          case measure => simp [intOf]; omega
        · have hb : (n' % 2 == 1) = false := by simpa using h2
          have U2 := sadd_ub ha' ha'
          have E2 := Lib.hid h2
          clear h2
          go_wp2_with fail
          refine (rAdd_any a' a' ha' ha' _).mono ?_
          rintro e w' ⟨rfl, rfl⟩
          go_wp2_with fail
          go_round
          case rel =>
            refine ⟨sadd a' a', n' / 2, o, U2, ho, by omega, by omega, rfl, rfl, rfl, ?_⟩
            rw [HV.out, ← D.out, if_neg E2.out]
          case measure => simp [intOf]; omega
      · obtain rfl : n' = 0 := by omega
        have F := Lib.hid (show v = o by rw [HV.out, Int.mul_zero, Int.add_zero]; unfold Ub at ho; omega)
        go_wp2
        go_ret
        exact ⟨by rw [F.out]; rfl, rfl⟩
end Go.Proofs.Ytedijnokbemegaa
