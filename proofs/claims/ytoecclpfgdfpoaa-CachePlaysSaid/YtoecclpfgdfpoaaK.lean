/- The law's own helper: what was put under a key last: what it returns. -/
import Derived.Test.YtoecclpfgdfpoaaJ
namespace Go.Proofs.Ytoecclpfgdfpoaa
open Go.RowKit

theorem RowA.take {w : World} {a : Option Addr} {l : List Ac} (h : RowA w a l) (n : Nat) : RowA w a (l.take n) := by
  rcases h with e | ⟨b, off, h1, h2, h3⟩
  · exact .inl (by rw [e, List.take_nil])
  · refine .inr ⟨b, off, h1, h2, fun i hi => ?_⟩
    rw [List.length_take] at hi
    have e : (l.take n).getD i (0, 0, 0) = l.getD i (0, 0, 0) := by simp [List.getD_eq_getElem?_getD, show i < n by omega]
    rw [e]
    exact h3 i (by omega)

theorem RowA.fresh {w w' : World} {a : Option Addr} {l : List Ac} (h : RowA w a l) (hb : Below w.heap.size w w') : RowA w' a l := by
  rcases h with e | ⟨b, off, h1, h2, h3⟩
  · exact .inl e
  · refine .inr ⟨b, off, h1, Nat.lt_of_lt_of_le h2 hb.size, fun i hi => ?_⟩
    obtain ⟨q1, q2, q3⟩ := h3 i hi
    exact ⟨(hb.cell (p := ⟨b, _, none⟩) h2).trans q1, (hb.cell (p := ⟨b, _, none⟩) h2).trans q2, (hb.cell (p := ⟨b, _, none⟩) h2).trans q3⟩

theorem lp_cons (a : Ac) (r : List Ac) (k : Int) : lp (a :: r) k = if isPut a && a.2.1 == k then a.2.2 else lp r k := rfl

set_option maxHeartbeats 2000000 in
theorem lput_any (n : Nat) (a : Option Addr) (c : Nat) (l : List Ac) (k : Int) (w : World) (ha : RowA w a l) (hn : l.length = n) (hl : n ≤ 1000000) :
    Calls Try.prog 24 #[.slice a n c, .int .i64 k] w fun e w' => e = .returned (.int .i64 (lastPut l k)) ∧ w = w' := by
  have HA := Lib.hid ha
  have HN := Lib.hid hn
  have HT := Lib.hid (fun m hm => take_rev l m (0, 0, 0) hm)
  have HT2 := Lib.hid (show lp (l.take n).reverse k = lastPut l k by rw [← hn, List.take_length]; rfl)
  generalize lastPut l k = z at *
  clear ha hn
  go_enter Try.func24, Try.ntmps24
  go_wp2
  go_loop [5] (fun i => ∃ m : Nat, m ≤ n ∧ i = .int .i64 ((m : Int) - 1) ∧ lp (l.take m).reverse k = z)
    (fun i => (intOf i + 1).toNat)
  case atStart => exact ⟨n, by omega, by go_num, HT2.out⟩
  case round =>
    obtain ⟨m, hm, rfl, hg⟩ := hrel
    have HG := Lib.hid hg
    clear hg HT2
    by_cases h0 : m = 0
    · subst h0
      have HZ := Lib.hid (show z = 0 from HG.out.symm)
      have e1 : ((0 : Nat) : Int) - 1 = -1 := rfl
      rw [e1]
      clear e1
      go_wp2
      go_ret
      exact ⟨by rw [HZ.out]; rfl, rfl⟩
    · obtain ⟨m, rfl⟩ : ∃ q, m = q + 1 := ⟨m - 1, by omega⟩
      have e1 : ((m + 1 : Nat) : Int) - 1 = (m : Int) := by omega
      rw [e1]
      clear e1
      have hmx : m < n := by omega
      have m0 : (0 : Int) ≤ (m : Int) := by omega
      have m1 : (m : Int) < (n : Int) := by omega
      obtain ⟨b, off, rfl, hbw, q0, q1, q2⟩ := HA.out.at_ (Below.refl _ _) (show m < l.length by rw [HN.out]; exact hmx)
      have HG2 := Lib.hid (show lp (l.getD m (0, 0, 0) :: (l.take m).reverse) k = z by rw [← HT.out m (by rw [HN.out]; exact hmx)]; exact HG.out)
      generalize l.getD m (0, 0, 0) = x at *
      obtain ⟨x0, x1, x2⟩ := x
      simp only at q0 q1 q2
      by_cases c0 : x0 = 0
      · have HG3 := Lib.hid (show lp (l.take m).reverse k = z by rw [← HG2.out, lp_cons, show isPut (x0, x1, x2) = false by simp [isPut, c0]]; rfl)
        subst c0
        go_wp2
        go_round
        case rel => exact ⟨m, by omega, by go_num, HG3.out⟩
        case measure => simp [intOf]
      · by_cases c1 : x0 = 1
        · have HG3 := Lib.hid (show lp (l.take m).reverse k = z by rw [← HG2.out, lp_cons, show isPut (x0, x1, x2) = false by simp [isPut, c1]]; rfl)
          subst c1
          go_wp2
          go_round
          case rel => exact ⟨m, by omega, by go_num, HG3.out⟩
          case measure => simp [intOf]
        · by_cases c2 : x0 = 2
          · have HG3 := Lib.hid (show lp (l.take m).reverse k = z by rw [← HG2.out, lp_cons, show isPut (x0, x1, x2) = false by simp [isPut, c2]]; rfl)
            subst c2
            go_wp2
            go_round
            case rel => exact ⟨m, by omega, by go_num, HG3.out⟩
            case measure => simp [intOf]
          · have d0 : (x0 != 0) = true := by simpa using c0
            have d1 : (x0 != 1) = true := by simpa using c1
            have d2 : (x0 != 2) = true := by simpa using c2
            have HP := Lib.hid (show isPut (x0, x1, x2) = true by simp [isPut, c0, c1, c2])
            clear c0 c1 c2
            by_cases ck : x1 = k
            · have HG3 := Lib.hid (show z = x2 by rw [← HG2.out, lp_cons, HP.out]; simp [ck])
              have dk : (x1 == k) = true := by simpa using ck
              clear ck
              go_wp2
              go_ret
              exact ⟨by rw [HG3.out]; rfl, rfl⟩
            · have HG3 := Lib.hid (show lp (l.take m).reverse k = z by rw [← HG2.out, lp_cons, HP.out]; simp [ck])
              have dk : (x1 == k) = false := by simpa using ck
              clear ck
              go_wp2
              go_round
              case rel => exact ⟨m, by omega, by go_num, HG3.out⟩
              case measure => simp [intOf]
end Go.Proofs.Ytoecclpfgdfpoaa
