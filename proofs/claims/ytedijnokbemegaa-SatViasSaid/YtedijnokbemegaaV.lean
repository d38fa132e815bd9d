/- The walk of the law SatVias, in parts: for every input it returns true, and writes to new memory alone. -/
import Derived.Test.YtedijnokbemegaaU
namespace Go.Proofs.Ytedijnokbemegaa
open Go.RowKit

set_option maxRecDepth 100000 in
set_option maxHeartbeats 2000000 in
theorem wVias_awake (a t u : Option Addr) (n c d f : Nat) (tss uss : List (List Int)) (w : World) (ht : Tab w t tss) (hu : Tab w u uss) (hn : n ≤ 9223372036854775807)
    (l1 : tss.length ≤ 9223372036854775807) (l2 : uss.length ≤ 9223372036854775807) (m1 : ∀ i, i < tss.length → (tss.getD i []).length ≤ 9223372036854775807) (m2 : ∀ i, i < uss.length → (uss.getD i []).length ≤ 9223372036854775807)
    (h : 30 < n ∨ ¬ Small tss ∨ ¬ Small uss ∨ tss.length = 0 ∨ uss.length = 0) :
    Calls Try.prog 5 #[.slice a n c, .slice t tss.length d, .slice u uss.length f] w fun e w' => e = .returned (.bool true) ∧ Below w.heap.size w w' := by
  have HT := Lib.hid ht
  have HU := Lib.hid hu
  have M1 := Lib.hid m1
  have M2 := Lib.hid m2
  clear ht hu m1 m2
  by_cases h1 : 30 < n
  · clear h
    go_enter Try.func5, Try.ntmps5
    go_wp2_with fail
    refine (awake_any _).mono ?_
    rintro e w1 ⟨rfl, hb⟩
    go_wp2
    go_ret
    exact ⟨rfl, hb⟩
  · by_cases h2 : Small tss
    · have H2 := Lib.hid h2
      by_cases h3 : Small uss
      · have H3 := Lib.hid h3
        by_cases h4 : tss.length = 0
        · have hb4 : ((tss.length : Int) == 0) = true := by simp [h4]
          clear h h2 h3 h4
          go_enter Try.func5, Try.ntmps5
          go_wp2_with fail
          refine (small_yes t d tss _ HT.out H2.out).mono ?_
          rintro e w1 ⟨rfl, hb⟩
          have B1 := Lib.hid hb
          clear hb
          go_wp2_with fail
          refine (small_yes u f uss _ (HU.out.below B1.out (Nat.le_refl _)) H3.out).mono ?_
          rintro e w2 ⟨rfl, hb⟩
          have B2 := Lib.hid (bl B1.out hb)
          clear hb
          go_wp2_with fail
          refine (awake_any _).mono ?_
          rintro e w3 ⟨rfl, hb⟩
          have B3 := Lib.hid (bl B2.out hb)
          clear hb
          go_wp2
          go_ret
          exact ⟨rfl, B3.out⟩
        · have h5 : uss.length = 0 := by
            rcases h with h | h | h | h | h
            · omega
            · exact absurd h2 h
            · exact absurd h3 h
            · omega
            · exact h
          have hb4 : ((tss.length : Int) == 0) = false := by simp [h4]
          have hb5 : ((uss.length : Int) == 0) = true := by simp [h5]
          clear h h2 h3 h4 h5
          go_enter Try.func5, Try.ntmps5
          go_wp2_with fail
          refine (small_yes t d tss _ HT.out H2.out).mono ?_
          rintro e w1 ⟨rfl, hb⟩
          have B1 := Lib.hid hb
          clear hb
          go_wp2_with fail
          refine (small_yes u f uss _ (HU.out.below B1.out (Nat.le_refl _)) H3.out).mono ?_
          rintro e w2 ⟨rfl, hb⟩
          have B2 := Lib.hid (bl B1.out hb)
          clear hb
          go_wp2_with fail
          refine (awake_any _).mono ?_
          rintro e w3 ⟨rfl, hb⟩
          have B3 := Lib.hid (bl B2.out hb)
          clear hb
          go_wp2
          go_ret
          exact ⟨rfl, B3.out⟩
      · have H3 := Lib.hid h3
        clear h h2 h3
        go_enter Try.func5, Try.ntmps5
        go_wp2_with fail
        refine (small_yes t d tss _ HT.out H2.out).mono ?_
        rintro e w1 ⟨rfl, hb⟩
        have B1 := Lib.hid hb
        clear hb
        go_wp2_with fail
        refine (small_no u f uss _ (HU.out.below B1.out (Nat.le_refl _)) l2 M2.out H3.out).mono ?_
        rintro e w2 ⟨rfl, hb⟩
        have B2 := Lib.hid (bl B1.out hb)
        clear hb
        go_wp2_with fail
        refine (awake_any _).mono ?_
        rintro e w3 ⟨rfl, hb⟩
        have B3 := Lib.hid (bl B2.out hb)
        clear hb
        go_wp2
        go_ret
        exact ⟨rfl, B3.out⟩
    · have H2 := Lib.hid h2
      clear h h2
      go_enter Try.func5, Try.ntmps5
      go_wp2_with fail
      refine (small_no t d tss _ HT.out l1 M1.out H2.out).mono ?_
      rintro e w1 ⟨rfl, hb⟩
      have B1 := Lib.hid hb
      clear hb
      go_wp2_with fail
      refine (awake_any _).mono ?_
      rintro e w3 ⟨rfl, hb⟩
      have B3 := Lib.hid (bl B1.out hb)
      clear hb
      go_wp2
      go_ret
      exact ⟨rfl, B3.out⟩

set_option maxRecDepth 100000 in
set_option maxHeartbeats 2000000 in
theorem wVias_bad (a t u : Option Addr) (c d f : Nat) (xs : List Int) (tss uss : List (List Int)) (w : World) (ha : Row w a xs) (ht : Tab w t tss) (hu : Tab w u uss) (hn : xs.length ≤ 30)
    (h1 : Small tss) (h2 : Small uss) (h3 : 0 < tss.length) (h4 : 0 < uss.length) (h : (xs.length ≠ tss.length ∨ ¬ Even tss) ∨ ((tss.getD 0 []).length ≠ uss.length ∨ ¬ Even uss)) :
    Calls Try.prog 5 #[.slice a xs.length c, .slice t tss.length d, .slice u uss.length f] w fun e w' => e = .returned (.bool true) ∧ Below w.heap.size w w' := by
  have HA := Lib.hid ha
  have HT := Lib.hid ht
  have HU := Lib.hid hu
  have H1 := Lib.hid h1
  have H2 := Lib.hid h2
  have hb4 : ((tss.length : Int) == 0) = false := by rw [beq_eq_false_iff_ne]; omega
  have hb5 : ((uss.length : Int) == 0) = false := by rw [beq_eq_false_iff_ne]; omega
  have hu1 := h1.1
  have hu2 := h2.1
  by_cases hb : xs.length ≠ tss.length ∨ ¬ Even tss
  · have HB := Lib.hid hb
    have HB2 := Lib.hid (show 0 ≠ uss.length ∨ ¬ Even uss by left; omega)
    clear ha ht hu h1 h2 h hb
    go_enter Try.func5, Try.ntmps5
    go_wp2_with fail
    refine (small_yes t d tss _ HT.out H1.out).mono ?_
    rintro e w1 ⟨rfl, hb⟩
    have B1 := Lib.hid hb
    clear hb
    go_wp2_with fail
    refine (small_yes u f uss _ (HU.out.below B1.out (Nat.le_refl _)) H2.out).mono ?_
    rintro e w2 ⟨rfl, hb⟩
    have B2 := Lib.hid (bl B1.out hb)
    clear hb
    go_wp2_with fail
    refine (via_bad a t xs.length c d tss _ (HT.out.below B2.out (Nat.le_refl _)) H1.out HB.out).mono ?_
    rintro e w3 ⟨rfl, hb⟩
    have B3 := Lib.hid (bl B2.out hb)
    clear hb
    go_wp2_with fail
    refine (via_bad none u 0 0 f uss _ (HU.out.below B3.out (Nat.le_refl _)) H2.out HB2.out).mono ?_
    rintro e w4 ⟨rfl, hb⟩
    have B4 := Lib.hid (bl B3.out hb)
    clear hb
    go_wp2_with fail
    refine (awake_any _).mono ?_
    rintro e w5 ⟨rfl, hb⟩
    have B5 := Lib.hid (bl B4.out hb)
    clear hb
    go_wp2
    go_ret
    exact ⟨rfl, B5.out⟩
  · have hg : xs.length = tss.length ∧ Even tss := by
      constructor
      · exact Classical.byContradiction fun e => hb (.inl e)
      · exact Classical.byContradiction fun e => hb (.inr e)
    have HG := Lib.hid hg
    have HB2 := Lib.hid (h.resolve_left hb)
    have h30 := h1.2 0 h3
    have E1 := Lib.hid (show xs.length ≤ 1000000 by omega)
    have E2 := Lib.hid (show (tss.getD 0 []).length ≤ 1000000 by omega)
    generalize hm0 : (tss.getD 0 []).length = m at *
    have HM0 := Lib.hid hm0
    clear hm0 h30
    clear ha ht hu h1 h2 h hb hg
    go_enter Try.func5, Try.ntmps5
    go_wp2_with fail
    refine (small_yes t d tss _ HT.out H1.out).mono ?_
    rintro e w1 ⟨rfl, hb⟩
    have B1 := Lib.hid hb
    clear hb
    go_wp2_with fail
    refine (small_yes u f uss _ (HU.out.below B1.out (Nat.le_refl _)) H2.out).mono ?_
    rintro e w2 ⟨rfl, hb⟩
    have B2 := Lib.hid (bl B1.out hb)
    clear hb
    go_wp2_with fail
    refine (via_ok xs.length tss.length a t c d xs tss _ (HA.out.below B2.out (Nat.le_refl _)) (HT.out.below B2.out (Nat.le_refl _)) rfl rfl HG.out.1.symm h3 E1.out HG.out.2 (by rw [HM0.out]; exact E2.out)).mono ?_
    rintro e w3 ⟨a3, c3, rfl, hr, hb⟩
    have B3 := Lib.hid (bl B2.out hb)
    clear hb hr
    rw [HM0.out]
    go_wp2_with fail
    refine (via_bad a3 u m c3 f uss _ (HU.out.below B3.out (Nat.le_refl _)) H2.out HB2.out).mono ?_
    rintro e w4 ⟨rfl, hb⟩
    have B4 := Lib.hid (bl B3.out hb)
    clear hb
    go_wp2_with fail
    refine (awake_any _).mono ?_
    rintro e w5 ⟨rfl, hb⟩
    have B5 := Lib.hid (bl B4.out hb)
    clear hb
    go_wp2
    go_ret
    exact ⟨rfl, B5.out⟩
end Go.Proofs.Ytedijnokbemegaa
