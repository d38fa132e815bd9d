/- The walk of the law SatRows: for every input it returns true, and writes to new memory alone. -/
import Derived.Test.YtedijnokbemegaaJ
namespace Go.Proofs.Ytedijnokbemegaa
open Go.RowKit

theorem RetRowE.of_nil {w : World} {k : Int} {e : Ending} {w' : World} (h : e = .returned (.tuple #[.slice none 0 0, .int .i64 k]) ∧ Below w.heap.size w w') : RetRowE w [] k e w' :=
  ⟨none, 0, h.1, ⟨by simp, .inl rfl⟩, h.2⟩

/-- Two rows joined, in the code and in the reference: one answer. -/
theorem join_both (xs ys : List Int) (hx : xs.length ≤ 1000000) (_hy : ys.length ≤ 1000000) : ∃ (zs : List Int) (k : Int), zs.length ≤ 1000000 ∧ ∀ (W : World) (a b : Option Addr) (c d : Nat), Row W a xs → Row W b ys →
    Calls Try.prog 13 #[.slice a xs.length c, .slice b ys.length d] W (RetRowE W zs k) ∧ Calls Try.prog 14 #[.slice a xs.length c, .slice b ys.length d] W (RetRowE W zs k) := by
  by_cases he : ys.length = xs.length
  · exact ⟨minL xs ys, 0, by rw [minL_len]; exact hx, fun W a b c d ha hb => ⟨join_yes a b c d xs ys W ha hb he hx, rJoin_yes a b c d xs ys W ha hb he hx⟩⟩
  · exact ⟨[], 12, by simp, fun W a b c d _ _ => ⟨(join_no a b _ _ c d W (Ne.symm he)).mono fun _ _ h => RetRowE.of_nil h, (rJoin_no a b _ _ c d W (Ne.symm he)).mono fun _ _ h => RetRowE.of_nil h⟩⟩

/-- One row by a table, in the code and in the reference: one answer. -/
theorem via_both (xs : List Int) (xss : List (List Int)) (hs : Small xss) : ∃ (zs : List Int) (k : Int), zs.length ≤ 1000000 ∧ ∀ (W : World) (a t : Option Addr) (c d : Nat), Row W a xs → Tab W t xss →
    Calls Try.prog 15 #[.slice a xs.length c, .slice t xss.length d] W (RetRowE W zs k) ∧ Calls Try.prog 16 #[.slice a xs.length c, .slice t xss.length d] W (RetRowE W zs k) := by
  have h30 := hs.1
  by_cases he : xss.length = xs.length
  · by_cases hbad : ∃ i, i < xss.length ∧ (xss.getD i []).length ≠ (xss.getD 0 []).length
    · have hl2 : ∀ i, i < xss.length → (xss.getD i []).length ≤ 9223372036854775807 := fun i hi => by have := hs.2 i hi; omega
      exact ⟨[], 12, by simp, fun W a t c d _ ht => ⟨(via_ragged a t c d _ xss W ht he (by omega) hl2 hbad).mono fun _ _ h => RetRowE.of_nil h,
        (rVia_ragged a t c d _ xss W ht he (by omega) hl2 hbad).mono fun _ _ h => RetRowE.of_nil h⟩⟩
    · have hm : ∀ i, i < xss.length → (xss.getD i []).length = (xss.getD 0 []).length := fun i hi => by
        by_cases e : (xss.getD i []).length = (xss.getD 0 []).length
        · exact e
        · exact absurd ⟨i, hi, e⟩ hbad
      by_cases h0 : 0 < xss.length
      · have hm0 : (xss.getD 0 []).length ≤ 1000000 := by have := hs.2 0 h0; omega
        exact ⟨viaL xs xss, 0, by rw [viaL_len]; exact hm0, fun W a t c d ha ht => ⟨via_yes a t c d xs xss W ha ht he h0 (by omega) hm hm0, rVia_yes a t c d xs xss W ha ht he (by omega) hm hm0⟩⟩
      · have hn : xss = [] := List.eq_nil_of_length_eq_zero (by omega)
        subst hn
        have hx : xs = [] := List.eq_nil_of_length_eq_zero he.symm
        subst hx
        exact ⟨[], 0, by simp, fun W a t c d ha ht => ⟨(via_nil a t c d W).mono fun _ _ h => RetRowE.of_nil h, rVia_yes a t c d [] [] W ha ht rfl (by simp) (by simp) (by simp)⟩⟩
  · exact ⟨[], 12, by simp, fun W a t c d _ _ => ⟨(via_no a t _ _ c d W (Ne.symm he)).mono fun _ _ h => RetRowE.of_nil h, (rVia_no a t _ _ c d W (Ne.symm he)).mono fun _ _ h => RetRowE.of_nil h⟩⟩

set_option maxHeartbeats 2000000 in
theorem wRows (a b t : Option Addr) (c d f : Nat) (xs ys : List Int) (xss : List (List Int)) (w : World) (ha : Row w a xs) (hb : Row w b ys) (ht : Tab w t xss) (hl1 : xs.length ≤ 9223372036854775807) (hl2 : ys.length ≤ 9223372036854775807)
    (hl3 : xss.length ≤ 9223372036854775807) (hl4 : ∀ i, i < xss.length → (xss.getD i []).length ≤ 9223372036854775807) :
    Calls Try.prog 4 #[.slice a xs.length c, .slice b ys.length d, .slice t xss.length f] w fun e w' => e = .returned (.bool true) ∧ Below w.heap.size w w' := by
  have HA := Lib.hid ha
  have HB := Lib.hid hb
  have HT := Lib.hid ht
  have H4 := Lib.hid hl4
  clear ha hb ht hl4
  by_cases h1 : 60 < xs.length
  · go_enter Try.func4, Try.ntmps4
    go_wp2_with fail
    refine (awake_any _).mono ?_
    rintro e w1 ⟨rfl, hb⟩
    go_wp2
    go_ret
    exact ⟨rfl, hb⟩
  · by_cases h2 : 60 < ys.length
    · go_enter Try.func4, Try.ntmps4
      go_wp2_with fail
      refine (awake_any _).mono ?_
      rintro e w1 ⟨rfl, hb⟩
      go_wp2
      go_ret
      exact ⟨rfl, hb⟩
    · by_cases hs : Small xss
      · obtain ⟨zs, k, hz, hJ⟩ := join_both xs ys (by omega) (by omega)
        obtain ⟨vs, q, hv, hV⟩ := via_both xs xss hs
        have HJ := Lib.hid hJ
        have HV := Lib.hid hV
        have HS := Lib.hid hs
        have h30 := hs.1
        clear hJ hV hs
        go_enter Try.func4, Try.ntmps4
        go_wp2_with fail
        refine (small_yes t f xss _ HT.out HS.out).mono ?_
        rintro e w1 ⟨rfl, hb⟩
        have B1 := Lib.hid hb
        clear hb
        go_wp2_with fail
        refine (HJ.out w1 a b c d (HA.out.below B1.out (Nat.le_refl _)) (HB.out.below B1.out (Nat.le_refl _))).1.mono ?_
        rintro e w2 ⟨a2, c2, rfl, hr, hb⟩
        have B2 := Lib.hid (bl B1.out hb)
        have R2 := Lib.hid hr
        clear hb hr
        go_wp2_with fail
        refine (HJ.out w2 a b c d (HA.out.below B2.out (Nat.le_refl _)) (HB.out.below B2.out (Nat.le_refl _))).2.mono ?_
        rintro e w3 ⟨a3, c3, rfl, hr, hb⟩
        have B3 := Lib.hid (bl B2.out hb)
        have R3 := Lib.hid hr
        have R23 := Lib.hid (R2.out.below hb (Nat.le_refl _))
        clear hb hr
        go_wp2_with fail
        refine (HV.out w3 a t c f (HA.out.below B3.out (Nat.le_refl _)) (HT.out.below B3.out (Nat.le_refl _))).1.mono ?_
        rintro e w4 ⟨a4, c4, rfl, hr, hb⟩
        have B4 := Lib.hid (bl B3.out hb)
        have R4 := Lib.hid hr
        have R34 := Lib.hid (R3.out.below hb (Nat.le_refl _))
        have R24 := Lib.hid (R23.out.below hb (Nat.le_refl _))
        clear hb hr
        go_wp2_with fail
        refine (HV.out w4 a t c f (HA.out.below B4.out (Nat.le_refl _)) (HT.out.below B4.out (Nat.le_refl _))).2.mono ?_
        rintro e w5 ⟨a5, c5, rfl, hr, hb⟩
        have B5 := Lib.hid (bl B4.out hb)
        have R5 := Lib.hid hr
        have R45 := Lib.hid (R4.out.below hb (Nat.le_refl _))
        have R35 := Lib.hid (R34.out.below hb (Nat.le_refl _))
        have R25 := Lib.hid (R24.out.below hb (Nat.le_refl _))
        clear hb hr
        go_wp2_with fail
        refine (same_any a2 a3 c2 c3 zs _ R25.out R35.out hz).mono ?_
        rintro e w6 ⟨rfl, hb⟩
        have B6 := Lib.hid (bl B5.out hb)
        have R46 := Lib.hid (R45.out.below hb (Nat.le_refl _))
        have R56 := Lib.hid (R5.out.below hb (Nat.le_refl _))
        clear hb
        go_wp2_with fail
        refine (same_any a4 a5 c4 c5 vs _ R46.out R56.out hv).mono ?_
        rintro e w7 ⟨rfl, hb⟩
        have B7 := Lib.hid (bl B6.out hb)
        clear hb
        go_wp2_with fail
        refine (awake_any _).mono ?_
        rintro e w8 ⟨rfl, hb⟩
        have B8 := Lib.hid (bl B7.out hb)
        clear hb
        go_wp2
        go_ret
        exact ⟨rfl, B8.out⟩
      · have HS := Lib.hid hs
        clear hs
        go_enter Try.func4, Try.ntmps4
        go_wp2_with fail
        refine (small_no t f xss _ HT.out hl3 H4.out HS.out).mono ?_
        rintro e w1 ⟨rfl, hb⟩
        have B1 := Lib.hid hb
        clear hb
        go_wp2_with fail
        refine (awake_any _).mono ?_
        rintro e w2 ⟨rfl, hb⟩
        have B2 := Lib.hid (bl B1.out hb)
        clear hb
        go_wp2
        go_ret
        exact ⟨rfl, B2.out⟩
end Go.Proofs.Ytedijnokbemegaa
