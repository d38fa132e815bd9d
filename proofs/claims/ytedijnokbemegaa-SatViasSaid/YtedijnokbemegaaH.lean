/- Layer 3: one row by a table whose rows are of different lengths, in the code; which tables are small, in the law's helper. For rows and tables up to 1000000. -/
import Derived.Test.YtedijnokbemegaaG
namespace Go.Proofs.Ytedijnokbemegaa
open Go.RowKit

/-- The first row whose length is another one than that of row 0. -/
theorem first_bad (xss : List (List Int)) (h : ∃ i, i < xss.length ∧ (xss.getD i []).length ≠ (xss.getD 0 []).length) :
    ∃ i, 0 < i ∧ i < xss.length ∧ (xss.getD i []).length ≠ (xss.getD 0 []).length ∧ ∀ j, j < i → (xss.getD j []).length = (xss.getD 0 []).length := by
  obtain ⟨n, hn, hne⟩ := h
  induction n using Nat.strongRecOn with
  | _ n ih =>
    by_cases hex : ∃ j, j < n ∧ (xss.getD j []).length ≠ (xss.getD 0 []).length
    · obtain ⟨j, hj, hjn⟩ := hex
      exact ih j hj (by omega) hjn
    · refine ⟨n, ?_, hn, hne, fun j hj => ?_⟩
      · rcases Nat.eq_zero_or_pos n with rfl | h
        · exact absurd rfl hne
        · exact h
      · by_cases e : (xss.getD j []).length = (xss.getD 0 []).length
        · exact e
        · exact absurd ⟨j, hj, e⟩ hex

set_option maxHeartbeats 2000000 in
theorem via_ragged (a t : Option Addr) (c d n : Nat) (xss : List (List Int)) (w : World) (ht : Tab w t xss) (he : xss.length = n)
    (hl : n ≤ 1000000) (hl2 : ∀ i, i < xss.length → (xss.getD i []).length ≤ 9223372036854775807) (hbad : ∃ i, i < xss.length ∧ (xss.getD i []).length ≠ (xss.getD 0 []).length) :
    Calls Try.prog 15 #[.slice a n c, .slice t xss.length d] w fun e w' => e = .returned (.tuple #[.slice none 0 0, .int .i64 12]) ∧ Below w.heap.size w w' := by
  obtain ⟨B, hB0, hB1, hB2, hB3⟩ := first_bad xss hbad
  have hT := Lib.hid ht
  have HG := Lib.hid hB3
  have HE := Lib.hid he
  have HS := Lib.hid hl2
  have HB2 := Lib.hid hB2
  have hm0 := hl2 0 (by omega)
  have h0 : 0 < xss.length := by omega
  have HZ0 := Lib.hid h0
  generalize hmm : (xss.getD 0 []).length = m at *
  have HMM := Lib.hid hmm
  clear hmm hbad hB3 hB2 hl2 ht
  rw [he] at hB1 h0 ⊢
  clear he
  have h0z : (0 : Int) < (n : Int) := by omega
  have hne : ((n : Int) == 0) = false := by rw [beq_eq_false_iff_ne]; omega
  go_enter Try.func15, Try.ntmps15
  go_wp2
  have hW0 : ∃ W0, W0 = (w.alloc (.cells #[.slice a n c] 22)).alloc (.cells #[.slice t n d] 27) := ⟨_, rfl⟩
  obtain ⟨W0, hW0⟩ := hW0
  rw [← hW0]
  have d1 : W0.cell? ⟨w.heap.size + 1, 0, none⟩ = some (.slice t n d) := by rw [hW0]; simp [go_sem]
  have d2 : W0.heap.size = w.heap.size + 2 := by rw [hW0]; simp
  have d3 : Below w.heap.size w W0 := by rw [hW0]; go_grown
  have D1 := Lib.hid d1
  have D2 := Lib.hid d2
  clear hW0 d1 d2
  go_loopw [18] (fun i wr => ∃ j : Nat, j ≤ B ∧ i = .int .i64 j ∧ Below W0.heap.size W0 wr)
    (fun i _ => B - (intOf i).toNat)
  case atStart => exact ⟨0, by omega, rfl, Below.refl _ _⟩
  case round =>
    obtain ⟨j, hj, rfl, hbx⟩ := hrel
    have hbel : Below w.heap.size w wr := bl d3 hbx
    obtain ⟨b2, o2, a0, c0, rfl, l0, q0, hr0⟩ := (hT.out.below hbel (Nat.le_refl _)).at_ HZ0.out
    rw [Nat.add_zero, HMM.out] at q0
    have e1 : wr.cell? ⟨w.heap.size + 1, 0, none⟩ = some (.slice (some ⟨b2, o2, none⟩) n d) := (hbx.cell (p := ⟨w.heap.size + 1, 0, none⟩) (by show w.heap.size + 1 < _; have := D2.out; omega)).trans D1.out
    obtain ⟨b3, o3, a3, c3, e3, l3, q3, hr3⟩ := (hT.out.below hbel (Nat.le_refl _)).at_ (show j < xss.length by have := HE.out; omega)
    simp only [Option.some.injEq, Addr.mk.injEq, and_true] at e3
    obtain ⟨rfl, rfl⟩ := e3
    have hjn : j < n := by omega
    clear hr0 hr3
    by_cases hlt : j < B
    · rw [HG.out j hlt] at q3
      go_wp2
      go_roundw
      case rel => exact ⟨j + 1, by omega, by go_num, hbx⟩
      case measure => simp [intOf]; omega
    · obtain rfl : j = B := by omega
      have hx2 := HB2.out
      have hx3 := HS.out j (by have := HE.out; omega)
      generalize (xss.getD j []).length = q at *
      have hnq : ((q : Int) != (m : Int)) = true := by simp; omega
      clear hx2
      go_wp2
      go_ret2
      exact ⟨rfl, hbel⟩

/-- A table up to 30 rows of up to 30 costs. -/
def Small (xss : List (List Int)) : Prop := xss.length ≤ 30 ∧ ∀ i, i < xss.length → (xss.getD i []).length ≤ 30

set_option maxHeartbeats 1000000 in
theorem small_yes (t : Option Addr) (d : Nat) (xss : List (List Int)) (w : World) (ht : Tab w t xss) (hs : Small xss) :
    Calls Try.prog 12 #[.slice t xss.length d] w fun e w' => e = .returned (.bool true) ∧ Below w.heap.size w w' := by
  have hT := Lib.hid ht
  have HS := Lib.hid hs
  have hl := hs.1
  have hd : decide ((xss.length : Int) ≤ 30) = true := by simp; omega
  clear ht hs
  go_enter Try.func12, Try.ntmps12
  go_wp2
  go_loopw [3] (fun i wr => ∃ j : Nat, j ≤ xss.length ∧ i = .int .i64 j ∧ Below w.heap.size w wr)
    (fun i _ => xss.length - (intOf i).toNat)
  case atStart => exact ⟨0, by omega, rfl, by go_grown⟩
  case round =>
    obtain ⟨j, hj, rfl, hbel⟩ := hrel
    by_cases hlt : j < xss.length
    · obtain ⟨b2, o2, a0, c0, rfl, l0, q0, hr0⟩ := (hT.out.below hbel (Nat.le_refl _)).at_ hlt
      have hm := HS.out.2 j hlt
      generalize (xss.getD j []).length = m at *
      clear hr0
      go_wp2
      go_roundw
      case rel => exact ⟨j + 1, by omega, by go_num, hbel⟩
      case measure => simp [intOf]; omega
    · go_wp2
      go_ret
      exact ⟨rfl, hbel⟩

set_option maxHeartbeats 1000000 in
theorem small_no (t : Option Addr) (d : Nat) (xss : List (List Int)) (w : World) (ht : Tab w t xss) (hl : xss.length ≤ 9223372036854775807) (hl2 : ∀ i, i < xss.length → (xss.getD i []).length ≤ 9223372036854775807) (hs : ¬ Small xss) :
    Calls Try.prog 12 #[.slice t xss.length d] w fun e w' => e = .returned (.bool false) ∧ Below w.heap.size w w' := by
  have hT := Lib.hid ht
  have HS := Lib.hid hs
  have H2 := Lib.hid hl2
  clear ht hs hl2
  go_enter Try.func12, Try.ntmps12
  go_wp2
  go_loopw [3] (fun i wr => ∃ j : Nat, j ≤ xss.length ∧ j ≤ 31 ∧ i = .int .i64 j ∧ (∀ i, i < j → (xss.getD i []).length ≤ 30) ∧ Below w.heap.size w wr)
    (fun i _ => 31 - (intOf i).toNat)
  case atStart => exact ⟨0, by omega, by omega, rfl, fun i hi => by omega, by go_grown⟩
  case round =>
    obtain ⟨j, hj, hj2, rfl, hno, hbel⟩ := hrel
    have HN := Lib.hid hno
    clear hno
    by_cases hlt : j < xss.length
    · by_cases hlt2 : j < 31
      · obtain ⟨b2, o2, a0, c0, rfl, l0, q0, hr0⟩ := (hT.out.below hbel (Nat.le_refl _)).at_ hlt
        have hm2 := H2.out j hlt
        by_cases hm : (xss.getD j []).length ≤ 30
        · have HM := Lib.hid (fun i (e : i = j) => show (xss.getD i []).length ≤ 30 by rw [e]; exact hm)
          generalize (xss.getD j []).length = m at *
          clear hr0
          go_wp2
          go_roundw
          case rel => exact ⟨j + 1, by omega, by omega, by go_num, fun i hi => (Nat.lt_succ_iff_lt_or_eq.1 hi).elim (fun e => HN.out i e) (fun e => HM.out i e), hbel⟩
          case measure => simp [intOf]; omega
        · generalize (xss.getD j []).length = m at *
          clear hr0
          go_wp2
          go_ret
          exact ⟨rfl, hbel⟩
      · have hd : decide ((xss.length : Int) ≤ 30) = false := by simp; omega
        go_wp2
        go_ret
        exact ⟨rfl, hbel⟩
    · have hd : decide ((xss.length : Int) ≤ 30) = false := by
        simp only [decide_eq_false_iff_not]
        intro h
        exact HS.out ⟨by omega, fun i hi => HN.out i (by omega)⟩
      have hj3 : j = xss.length := by omega
      subst hj3
      by_cases h31 : xss.length < 31
      · go_wp2
        go_ret
        exact ⟨rfl, hbel⟩
      · go_wp2
        go_ret
        exact ⟨rfl, hbel⟩
end Go.Proofs.Ytedijnokbemegaa
