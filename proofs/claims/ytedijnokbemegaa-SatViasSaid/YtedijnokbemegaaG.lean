/- Layer 3: one row by a table, in the code: what it returns. For rows and tables up to 1000000. -/
import Derived.Test.YtedijnokbemegaaF
namespace Go.Proofs.Ytedijnokbemegaa
open Go.RowKit

/-- A table of costs that can be read. -/
def Tab (w : World) (t : Option Addr) (xss : List (List Int)) : Prop :=
  xss = [] ∨ ∃ b off, t = some ⟨b, off, none⟩ ∧ b < w.heap.size ∧ ∀ i, i < xss.length → ∃ a c, w.cell? ⟨b, off + i, none⟩ = some (.slice a (xss.getD i []).length c) ∧ Row w a (xss.getD i [])

theorem Tab.at_ {w : World} {t : Option Addr} {xss : List (List Int)} (h : Tab w t xss) {k : Nat} (hk : k < xss.length) :
    ∃ b off a c, t = some ⟨b, off, none⟩ ∧ b < w.heap.size ∧ w.cell? ⟨b, off + k, none⟩ = some (.slice a (xss.getD k []).length c) ∧ Row w a (xss.getD k []) := by
  rcases h with rfl | ⟨b, off, h1, h2, h3⟩
  · simp at hk
  · obtain ⟨a, c, h4, h5⟩ := h3 k hk
    exact ⟨b, off, a, c, h1, h2, h4, h5⟩

theorem Tab.below {w w' : World} {t : Option Addr} {xss : List (List Int)} {B : Nat} (h : Tab w t xss) (hb : Below B w w') (hB : w.heap.size ≤ B) : Tab w' t xss := by
  rcases h with e | ⟨b, off, h1, h2, h3⟩
  · exact .inl e
  · refine .inr ⟨b, off, h1, Nat.lt_of_lt_of_le h2 hb.size, fun i hi => ?_⟩
    obtain ⟨a, c, h4, h5⟩ := h3 i hi
    exact ⟨a, c, by rw [hb.cell (p := ⟨b, off + i, none⟩) (Nat.lt_of_lt_of_le h2 hB)]; exact h4, h5.below hb hB⟩

def TabUb (xss : List (List Int)) : Prop := ∀ l ∈ xss, ∀ x ∈ l, Ub x
theorem tabUb_at {xss : List (List Int)} (h : TabUb xss) (i j : Nat) : Ub ((xss.getD i []).getD j 0) := by
  rw [List.getD_eq_getElem?_getD (l := xss)]
  by_cases hi : i < xss.length
  · rw [List.getElem?_eq_getElem hi]
    exact getD_ub (h _ (List.getElem_mem hi)) j
  · rw [List.getElem?_eq_none (by omega)]; exact ⟨by simp, by simp⟩
theorem Tab.ub {w : World} {t : Option Addr} {xss : List (List Int)} (h : Tab w t xss) : TabUb xss := by
  intro l hl x hx
  obtain ⟨i, hi, rfl⟩ := List.mem_iff_getElem.1 hl
  obtain ⟨_, _, _, _, _, _, _, hr⟩ := h.at_ hi
  rw [List.getD_eq_getElem?_getD, List.getElem?_eq_getElem hi] at hr
  exact hr.1 x hx

/-- The least sum at place k over the first i rows. -/
def viaB (xs : List Int) (xss : List (List Int)) (k : Nat) : Nat → Int
  | 0 => 18446744073709551615
  | i + 1 => min (viaB xs xss k i) (sadd (xs.getD i 0) ((xss.getD i []).getD k 0))

def viaL (xs : List Int) (xss : List (List Int)) : List Int := (List.range (xss.getD 0 []).length).map fun k => viaB xs xss k xss.length
theorem viaL_len (xs : List Int) (xss : List (List Int)) : (viaL xs xss).length = (xss.getD 0 []).length := by simp [viaL]

theorem viaB_ub {xs : List Int} {xss : List (List Int)} (h1 : ∀ x ∈ xs, Ub x) (h2 : TabUb xss) (k : Nat) : ∀ i, Ub (viaB xs xss k i)
  | 0 => ⟨by simp [viaB], by simp [viaB]⟩
  | i + 1 => by
    have a := viaB_ub h1 h2 k i
    have b := sadd_ub (getD_ub h1 i) (tabUb_at h2 i k)
    show Ub (min (viaB xs xss k i) (sadd (xs.getD i 0) ((xss.getD i []).getD k 0)))
    unfold Ub at *
    omega

theorem viaL_ub {xs : List Int} {xss : List (List Int)} (h1 : ∀ x ∈ xs, Ub x) (h2 : TabUb xss) : ∀ x ∈ viaL xs xss, Ub x := by
  intro x hx
  obtain ⟨i, _, rfl⟩ := List.mem_map.1 hx
  exact viaB_ub h1 h2 _ _

set_option maxHeartbeats 2000000 in
theorem via1_any (pa pt : Nat) (a t : Option Addr) (c d k : Nat) (xs : List Int) (xss : List (List Int)) (w : World) (ha : Row w a xs) (ht : Tab w t xss)
    (h1 : w.cell? ⟨pa, 0, none⟩ = some (.slice a xs.length c)) (h2 : w.cell? ⟨pt, 0, none⟩ = some (.slice t xss.length d)) (he : xss.length = xs.length) (hl : xs.length ≤ 1000000) (hk : k ≤ 1000000)
    (hm : ∀ i, i < xss.length → k < (xss.getD i []).length) :
    Calls Try.prog 25 #[.int .i64 k, .pointer (some ⟨pa, 0, none⟩), .pointer (some ⟨pt, 0, none⟩)] w fun e w' => e = .returned (.int .u64 (viaB xs xss k xss.length)) ∧ Below w.heap.size w w' := by
  have hA := Lib.hid ha
  have hT := Lib.hid ht
  have HM := Lib.hid hm
  have HE := Lib.hid he
  have hP : pa < w.heap.size := World.block_lt_of_cell? w _ h1
  have hQ : pt < w.heap.size := World.block_lt_of_cell? w _ h2
  have H2 := Lib.hid h2
  have HU := Lib.hid (viaB_ub ha.1 ht.ub k)
  rw [he]
  clear ha ht hm he h2
  go_enter Try.func25, Try.ntmps25
  go_wp2
  go_loopw [5, 10] (fun o i wr => ∃ j : Nat, j ≤ xs.length ∧ i = .int .i64 j ∧ o = .int .u64 (viaB xs xss k j) ∧ Below w.heap.size w wr)
    (fun _ i _ => xs.length - (intOf i).toNat)
  case atStart => exact ⟨0, by omega, rfl, rfl, by go_grown⟩
  case round =>
    obtain ⟨j, hj, rfl, rfl, hbel⟩ := hrel
    by_cases hlt : j < xs.length
    · obtain ⟨b1, o1, rfl, l1, q1, u1⟩ := (hA.out.below hbel (Nat.le_refl _)).at_ hlt
      obtain ⟨b2, o2, a3, c3, rfl, l2, q2, hr3⟩ := (hT.out.below hbel (Nat.le_refl _)).at_ (show j < xss.length by have := HE.out; omega)
      have hk3 := HM.out j (by have := HE.out; omega)
      obtain ⟨b3, o3, rfl, l3, q3, u3⟩ := hr3.at_ hk3
      have h2' : wr.cell? ⟨pt, 0, none⟩ = some (.slice (some ⟨b2, o2, none⟩) xss.length d) := (hbel.cell (p := ⟨pt, 0, none⟩) hQ).trans H2.out
      rw [HE.out] at h2'
      have HS := Lib.hid (show viaB xs xss k (j + 1) = min (viaB xs xss k j) (sadd (xs.getD j 0) ((xss.getD j []).getD k 0)) from rfl)
      have uS := sadd_ub u1 u3
      generalize (xss.getD j []).getD k 0 = y at *
      generalize xs.getD j 0 = x at *
      generalize (xss.getD j []).length = m at *
      have k0 : (0 : Int) ≤ (k : Int) := by omega
      have k1 : (k : Int) < (m : Int) := by omega
      clear hr3 h1 HM
      have U1 := Lib.hid u1
      have U3 := Lib.hid u3
      clear u1 u3
      generalize hsv : sadd x y = s at *
      have HSV := Lib.hid hsv
      clear hsv
      by_cases hc : s < viaB xs xss k j
      · have HM := Lib.hid (show viaB xs xss k (j + 1) = s by rw [HS.out]; omega)
        clear uS
        go_wp2_with fail
        refine (add_any x y U1.out U3.out _).mono ?_
        rintro e w' ⟨rfl, rfl⟩
        rw [HSV.out]
        go_wp2
        go_roundw
        case rel => exact ⟨j + 1, by omega, by go_num, by rw [HM.out], hbel⟩
        case measure => simp [intOf]; omega
      · have HM := Lib.hid (show viaB xs xss k (j + 1) = viaB xs xss k j by rw [HS.out]; omega)
        clear uS
        go_wp2_with fail
        refine (add_any x y U1.out U3.out _).mono ?_
        rintro e w' ⟨rfl, rfl⟩
        rw [HSV.out]
        go_wp2
        go_roundw
        case rel => exact ⟨j + 1, by omega, by go_num, by rw [HM.out], hbel⟩
        case measure => simp [intOf]; omega
    · obtain rfl : j = xs.length := by omega
      go_wp2
      go_ret
      exact ⟨rfl, hbel⟩

set_option maxHeartbeats 400000 in
theorem via_no (a t : Option Addr) (n m c d : Nat) (w : World) (he : n ≠ m) :
    Calls Try.prog 15 #[.slice a n c, .slice t m d] w fun e w' => e = .returned (.tuple #[.slice none 0 0, .int .i64 12]) ∧ Below w.heap.size w w' := by
  have hne : ((n : Int) != (m : Int)) = true := by simp; omega
  clear he
  go_enter Try.func15, Try.ntmps15
  go_wp2
  go_ret2
  exact ⟨rfl, by go_grown⟩

set_option maxHeartbeats 400000 in
theorem via_nil (a t : Option Addr) (c d : Nat) (w : World) :
    Calls Try.prog 15 #[.slice a 0 c, .slice t 0 d] w fun e w' => e = .returned (.tuple #[.slice none 0 0, .int .i64 0]) ∧ Below w.heap.size w w' := by
  go_enter Try.func15, Try.ntmps15
  go_wp2
  go_ret2
  exact ⟨rfl, by go_grown⟩

set_option maxHeartbeats 2000000 in
theorem via_yes (a t : Option Addr) (c d : Nat) (xs : List Int) (xss : List (List Int)) (w : World) (ha : Row w a xs) (ht : Tab w t xss) (he : xss.length = xs.length) (h0 : 0 < xss.length)
    (hl : xs.length ≤ 1000000) (hm : ∀ i, i < xss.length → (xss.getD i []).length = (xss.getD 0 []).length) (hm0 : (xss.getD 0 []).length ≤ 1000000) :
    Calls Try.prog 15 #[.slice a xs.length c, .slice t xss.length d] w (RetRowE w (viaL xs xss) 0) := by
  have hA := Lib.hid ha
  have hT := Lib.hid ht
  have HM := Lib.hid hm
  have HE := Lib.hid he
  have HL := Lib.hid (viaL_len xs xss)
  have HU := Lib.hid (fun k (_ : k < (xss.getD 0 []).length) => viaB_ub ha.1 ht.ub k xss.length)
  generalize hmm : (xss.getD 0 []).length = m at *
  have HMM := Lib.hid hmm
  clear hmm
  have h0' : 0 < xs.length := by omega
  have h0z : (0 : Int) < (xs.length : Int) := by omega
  rw [he]
  clear ha ht hm he
  have hne : (((xs.length : Nat) : Int) == 0) = false := by rw [beq_eq_false_iff_ne]; omega
  go_enter Try.func15, Try.ntmps15
  go_wp2
  have hW0 : ∃ W0, W0 = (w.alloc (.cells #[.slice a xs.length c] 22)).alloc (.cells #[.slice t xs.length d] 27) := ⟨_, rfl⟩
  obtain ⟨W0, hW0⟩ := hW0
  rw [← hW0]
  have d0 : W0.cell? ⟨w.heap.size, 0, none⟩ = some (.slice a xs.length c) := by rw [hW0]; simp
  have d1 : W0.cell? ⟨w.heap.size + 1, 0, none⟩ = some (.slice t xs.length d) := by rw [hW0]; simp [go_sem]
  have d2 : W0.heap.size = w.heap.size + 2 := by rw [hW0]; simp
  have d3 : Below w.heap.size w W0 := by rw [hW0]; go_grown
  have D0 := Lib.hid d0
  have D1 := Lib.hid d1
  have D2 := Lib.hid d2
  clear hW0 d0 d1 d2
  go_loopw [18] (fun i wr => ∃ j : Nat, j ≤ xs.length ∧ i = .int .i64 j ∧ Below W0.heap.size W0 wr)
    (fun i _ => xs.length - (intOf i).toNat)
  case atStart => exact ⟨0, by omega, rfl, Below.refl _ _⟩
  case round =>
    obtain ⟨j, hj, rfl, hbx⟩ := hrel
    have hbel : Below w.heap.size w wr := bl d3 hbx
    obtain ⟨b2, o2, a0, c0, rfl, l0, q0, hr0⟩ := (hT.out.below hbel (Nat.le_refl _)).at_ h0
    rw [Nat.add_zero, HMM.out] at q0
    have e0 : wr.cell? ⟨w.heap.size, 0, none⟩ = some (.slice a xs.length c) := (hbx.cell (p := ⟨w.heap.size, 0, none⟩) (by show w.heap.size < _; have := D2.out; omega)).trans D0.out
    have e1 : wr.cell? ⟨w.heap.size + 1, 0, none⟩ = some (.slice (some ⟨b2, o2, none⟩) xs.length d) := (hbx.cell (p := ⟨w.heap.size + 1, 0, none⟩) (by show w.heap.size + 1 < _; have := D2.out; omega)).trans D1.out
    by_cases hlt : j < xs.length
    · obtain ⟨b3, o3, a3, c3, e3, l3, q3, hr3⟩ := (hT.out.below hbel (Nat.le_refl _)).at_ (show j < xss.length by have := HE.out; omega)
      simp only [Option.some.injEq, Addr.mk.injEq, and_true] at e3
      obtain ⟨rfl, rfl⟩ := e3
      rw [HM.out j (by have := HE.out; omega)] at q3
      clear hr0 hr3
      go_wp2
      go_roundw
      case rel => exact ⟨j + 1, by omega, by go_num, hbx⟩
      case measure => simp [intOf]; omega
    · have HX := Lib.hid hbx
      have E0 := Lib.hid e0
      have E1 := Lib.hid e1
      clear hr0 hbx
      go_wp2_with fail
      refine (each_any 25 _ _ m (fun k => viaB xs xss k xss.length) hm0 _ HU.out (fun k W => calls25 k _ _ W) ?_).mono ?_
      · intro k hk W hW
        have hbW : Below w.heap.size w W := bl hbel hW
        have hq := HE.out
        refine (via1_any w.heap.size (w.heap.size + 1) a (some ⟨b2, o2, none⟩) c d k xs xss W (hA.out.below hbW (Nat.le_refl _)) (hT.out.below hbW (Nat.le_refl _)) ?_ ?_ hq hl (by omega) (fun i hi => by rw [HM.out i hi]; exact hk)).mono fun e w' h => h
        · have hs := HX.out.size
          rw [hW.cell (p := ⟨w.heap.size, 0, none⟩) (by show w.heap.size < _; have := D2.out; omega)]; exact E0.out
        · have hs := HX.out.size
          rw [hW.cell (p := ⟨w.heap.size + 1, 0, none⟩) (by show w.heap.size + 1 < _; have := D2.out; omega), hq]; exact E1.out
      · rintro e w1 ⟨a1, c1, rfl, hrow, hb⟩
        have hb1 : Below w.heap.size w w1 := bl hbel hb
        rw [List.length_map, List.length_range]
        have HR := Lib.hid (show Row w1 a1 (viaL xs xss) by unfold viaL; rw [HMM.out]; exact hrow)
        clear hb hrow
        go_wp2
        go_ret2
        exact ⟨a1, c1, by rw [HL.out]; rfl, HR.out, hb1⟩
end Go.Proofs.Ytedijnokbemegaa
