/- Layer 3: one row by a table, in the reference: what it returns. For rows and tables up to 1000000. -/
import Derived.Test.YtedijnokbemegaaH
namespace Go.Proofs.Ytedijnokbemegaa
open Go.RowKit

theorem rAdd_q (a b : Int) (ha : Ub a) (hb : Ub b) (w : World) :
    Calls Try.prog 18 #[.int .u64 a, .int .u64 b] w fun e w' => e = .returned (.int .u64 (sadd a b)) ∧ w' = w :=
  (rAdd_any a b ha hb w).mono fun _ _ h => ⟨h.1, h.2.symm⟩

set_option maxHeartbeats 400000 in
theorem rVia_no (a t : Option Addr) (n m c d : Nat) (w : World) (he : n ≠ m) :
    Calls Try.prog 16 #[.slice a n c, .slice t m d] w fun e w' => e = .returned (.tuple #[.slice none 0 0, .int .i64 12]) ∧ Below w.heap.size w w' := by
  have hne : ((n : Int) != (m : Int)) = true := by simp; omega
  clear he
  go_enter Try.func16, Try.ntmps16
  go_wp2
  go_ret2
  exact ⟨rfl, by go_grown⟩

set_option maxRecDepth 100000 in
set_option maxHeartbeats 2000000 in
theorem rVia_ragged (a t : Option Addr) (c d n : Nat) (xss : List (List Int)) (w : World) (ht : Tab w t xss) (he : xss.length = n)
    (hl : n ≤ 1000000) (hl2 : ∀ i, i < xss.length → (xss.getD i []).length ≤ 9223372036854775807) (hbad : ∃ i, i < xss.length ∧ (xss.getD i []).length ≠ (xss.getD 0 []).length) :
    Calls Try.prog 16 #[.slice a n c, .slice t xss.length d] w fun e w' => e = .returned (.tuple #[.slice none 0 0, .int .i64 12]) ∧ Below w.heap.size w w' := by
  obtain ⟨B, hB0, hB1, hB2, hB3⟩ := first_bad xss hbad
  have hT := Lib.hid ht
  have HG := Lib.hid hB3
  have HE := Lib.hid he
  have HS := Lib.hid hl2
  have HB2 := Lib.hid hB2
  have hm0 := hl2 0 (by omega)
  have h0 : 0 < xss.length := by omega
  have HZ0 := Lib.hid h0
  generalize hmm : (xss.getD 0 []).length = m at *
  have HMM := Lib.hid hmm
  clear hmm hbad hB3 hB2 hl2 ht
  rw [he] at hB1 h0 ⊢
  clear he
  have h0z : (0 : Int) < (n : Int) := by omega
  go_enter Try.func16, Try.ntmps16
  go_wp2
  go_loopw [7] (fun i wr => ∃ j : Nat, j ≤ B ∧ i = .int .i64 j ∧ Below w.heap.size w wr)
    (fun i _ => B - (intOf i).toNat)
  case atStart => exact ⟨0, by omega, rfl, by go_grown⟩
  case round =>
    obtain ⟨j, hj, rfl, hbel⟩ := hrel
    obtain ⟨b2, o2, a0, c0, rfl, l0, q0, hr0⟩ := (hT.out.below hbel (Nat.le_refl _)).at_ HZ0.out
    rw [Nat.add_zero, HMM.out] at q0
    obtain ⟨b3, o3, a3, c3, e3, l3, q3, hr3⟩ := (hT.out.below hbel (Nat.le_refl _)).at_ (show j < xss.length by have := HE.out; omega)
    simp only [Option.some.injEq, Addr.mk.injEq, and_true] at e3
    obtain ⟨rfl, rfl⟩ := e3
    have hjn : j < n := by omega
    have j0 : (0 : Int) ≤ (j : Int) := by omega
    have j1 : (j : Int) < (n : Int) := by omega
    clear hr0 hr3
    by_cases hlt : j < B
    · rw [HG.out j hlt] at q3
      go_wp2
      go_quiet (fail)
      go_wp2
      go_roundw
      case rel => exact ⟨j + 1, by omega, by go_num, below_drewN hbel _⟩
      case measure => simp [intOf]; omega
    · obtain rfl : j = B := by omega
      have hx2 := HB2.out
      have hx3 := HS.out j (by have := HE.out; omega)
      generalize (xss.getD j []).length = q at *
      have hnq : ((q : Int) != (m : Int)) = true := by simp; omega
      clear hx2
      go_wp2
      go_quiet (fail)
      go_wp2
      go_ret2
      exact ⟨rfl, below_drewN hbel _⟩

def outL (xs : List Int) (xss : List (List Int)) (m i k : Nat) : List Int :=
  if i = 0 then (List.range k).map (fun j => viaB xs xss j 1) else (List.range m).map (fun j => viaB xs xss j (if j < k then i + 1 else i))

theorem outL_end (xs : List Int) (xss : List (List Int)) (m i : Nat) : outL xs xss m i m = outL xs xss m (i + 1) 0 := by
  unfold outL
  rw [if_neg (Nat.succ_ne_zero i)]
  by_cases hi : i = 0
  · rw [if_pos hi]; subst hi; simp
  · rw [if_neg hi]
    apply List.map_congr_left
    intro j hj
    rw [if_pos (List.mem_range.1 hj), if_neg (by omega)]

theorem outL_len (xs : List Int) (xss : List (List Int)) (m i k : Nat) : (outL xs xss m i k).length = if i = 0 then k else m := by
  unfold outL; split <;> simp

theorem outL_fin (xs : List Int) (xss : List (List Int)) (h : xss.length = 0 ∨ 0 < xss.length) : outL xs xss (xss.getD 0 []).length xss.length 0 = viaL xs xss := by
  rcases h with h | h
  · have : xss = [] := List.eq_nil_of_length_eq_zero h
    subst this; rfl
  · unfold outL viaL
    rw [if_neg (by omega)]
    apply List.map_congr_left
    intro j _
    rw [if_neg (by omega)]

theorem outL_snoc (xs : List Int) (xss : List (List Int)) (m i k : Nat) (hi : i = 0) (hu : Ub (sadd (xs.getD i 0) ((xss.getD i []).getD k 0))) :
    vals (outL xs xss m i k) ++ [.int .u64 (sadd (xs.getD i 0) ((xss.getD i []).getD k 0))] = vals (outL xs xss m i (k + 1)) := by
  subst hi
  unfold outL vals
  rw [if_pos rfl, if_pos rfl, List.range_succ, List.map_append, List.map_append]
  congr 1
  simp only [List.map_cons, List.map_nil, viaB]
  rw [show min 18446744073709551615 (sadd (xs.getD 0 0) ((xss.getD 0 []).getD k 0)) = sadd (xs.getD 0 0) ((xss.getD 0 []).getD k 0) by unfold Ub at hu; omega]

theorem outL_get (xs : List Int) (xss : List (List Int)) (m i k : Nat) (hi : 0 < i) (hk : k < m) : (vals (outL xs xss m i k))[k]? = some (.int .u64 (viaB xs xss k i)) := by
  unfold outL vals
  rw [if_neg (by omega)]
  simp [hk]

theorem outL_set (xs : List Int) (xss : List (List Int)) (m i k : Nat) (hi : 0 < i) :
    (vals (outL xs xss m i k)).set k (.int .u64 (viaB xs xss k (i + 1))) = vals (outL xs xss m i (k + 1)) := by
  unfold outL vals
  rw [if_neg (by omega), if_neg (by omega)]
  apply List.ext_getElem?
  intro j
  rw [List.getElem?_set]
  by_cases hj : j < m
  · by_cases e : k = j
    · subst e; simp [hj]
    · simp only [List.length_map, List.length_range, e, if_false, List.getElem?_map, List.getElem?_range hj, Option.map_some]
      by_cases h2 : j < k
      · rw [if_pos h2, if_pos (by omega)]
      · rw [if_neg h2, if_neg (by omega)]
  · by_cases e : k = j
    · subst e; simp [hj]
    · simp [e, hj]

theorem outL_same (xs : List Int) (xss : List (List Int)) (m i k : Nat) (hi : 0 < i) (h : viaB xs xss k (i + 1) = viaB xs xss k i) :
    vals (outL xs xss m i k) = vals (outL xs xss m i (k + 1)) := by
  unfold outL vals
  rw [if_neg (by omega), if_neg (by omega)]
  congr 1
  apply List.map_congr_left
  intro j _
  by_cases e : j = k
  · subst e; rw [if_neg (by omega), if_pos (by omega), h]
  · by_cases h2 : j < k
    · rw [if_pos h2, if_pos (by omega)]
    · rw [if_neg h2, if_neg (by omega)]

set_option maxRecDepth 100000 in
set_option maxHeartbeats 4000000 in
theorem rVia_yes (a t : Option Addr) (c d : Nat) (xs : List Int) (xss : List (List Int)) (w : World) (ha : Row w a xs) (ht : Tab w t xss) (he : xss.length = xs.length)
    (hl : xs.length ≤ 1000000) (hm : ∀ i, i < xss.length → (xss.getD i []).length = (xss.getD 0 []).length) (hm0 : (xss.getD 0 []).length ≤ 1000000) :
    Calls Try.prog 16 #[.slice a xs.length c, .slice t xss.length d] w (RetRowE w (viaL xs xss) 0) := by
  obtain ⟨i0, hi0, hz0, hz1, hz2⟩ := info_parts info37
  have hA := Lib.hid ha
  have hT := Lib.hid ht
  have HM := Lib.hid hm
  have HE := Lib.hid he
  have HL := Lib.hid (viaL_len xs xss)
  have HF := Lib.hid (outL_fin xs xss (by omega))
  have HU := Lib.hid (viaL_ub ha.1 ht.ub)
  have HSU := Lib.hid (fun i j => sadd_ub (getD_ub ha.1 i) (tabUb_at ht.ub i j))
  generalize hmm : (xss.getD 0 []).length = m at *
  have HMM := Lib.hid hmm
  clear hmm
  rw [he]
  clear ha ht hm he
  go_enter Try.func16, Try.ntmps16
  go_wp2
  go_loopw [7] (fun i wr => ∃ j : Nat, j ≤ xs.length ∧ i = .int .i64 j ∧ wr.ownsRow w.heap.size 37 1 (.slice (some ⟨w.heap.size, 0, none⟩) 0 0) 0 (vals (outL xs xss m 0 0)) ∧ Below w.heap.size w wr)
    (fun i _ => xs.length - (intOf i).toNat)
  case atStart => exact ⟨0, by omega, rfl, World.ownsRow_made w _ 0 (Nat.le_refl _) (by simp [maxLen]) (by simp), by go_grown⟩
  case round =>
    obtain ⟨j, hj, rfl, hown, hbel⟩ := hrel
    have HO := Lib.hid hown
    clear hown
    by_cases hlt : j < xs.length
    · obtain ⟨b2, o2, a0, c0, rfl, l0, q0, hr0⟩ := (hT.out.below hbel (Nat.le_refl _)).at_ (show 0 < xss.length by have := HE.out; omega)
      rw [Nat.add_zero, HMM.out] at q0
      obtain ⟨b3, o3, a3, c3, e3, l3, q3, hr3⟩ := (hT.out.below hbel (Nat.le_refl _)).at_ (show j < xss.length by have := HE.out; omega)
      simp only [Option.some.injEq, Addr.mk.injEq, and_true] at e3
      obtain ⟨rfl, rfl⟩ := e3
      rw [HM.out j (by have := HE.out; omega)] at q3
      have j0 : (0 : Int) ≤ (j : Int) := by omega
      have j1 : (j : Int) < (xs.length : Int) := by omega
      have j2 : (0 : Int) < (xs.length : Int) := by omega
      clear hr0 hr3
      go_wp2
      go_quiet (fail)
      go_wp2
      go_roundw
      case rel => exact ⟨j + 1, by omega, by go_num, HO.out, below_drewN hbel _⟩
      case measure => simp [intOf]; omega
    · go_wp2
      clear hlt
      go_loopw [6, 8] (fun o i wq => ∃ j n : Nat, j ≤ xs.length ∧ i = .int .i64 j ∧ wq.ownsRow w.heap.size 37 1 o n (vals (outL xs xss m j 0)) ∧ Below w.heap.size w wq)
        (fun _ i _ => xs.length - (intOf i).toNat)
      case atStart => exact ⟨0, 0, by omega, rfl, HO.out, hbel⟩
      case round =>
        obtain ⟨i, n, hi, rfl, hown, hbel2⟩ := hrel
        by_cases hlt : i < xs.length
        · have HO2 := Lib.hid hown
          have HZ := Lib.hid hlt
          clear hown
          go_wp2
          obtain ⟨wo, hwo⟩ : ∃ wo : World, wo = wr := ⟨_, rfl⟩
          subst hwo
          go_loopw [6, 9] (fun o k wq => ∃ k' n : Nat, k' ≤ m ∧ k = .int .i64 k' ∧ wq.ownsRow w.heap.size 37 1 o n (vals (outL xs xss m i k')) ∧ Below w.heap.size w wq)
            (fun _ k _ => m - (intOf k).toNat)
          case atStart => exact ⟨0, n, by omega, rfl, HO2.out, hbel2⟩
          case round =>
            obtain ⟨k, n', hk, rfl, hown3, hbel3⟩ := hrel
            have hn' : n' = if i = 0 then k else m := by have := hown3.1; rw [vals, List.length_map, outL_len] at this; omega
            have HO3 := Lib.hid hown3
            clear hown3
            have hin : i < xs.length := HZ.out
            by_cases hkm : k < m
            · obtain ⟨b1, o1, rfl, l1, q1, u1⟩ := (hA.out.below hbel3 (Nat.le_refl _)).at_ HZ.out
              obtain ⟨b2, o2, a3, c3, rfl, l2, q2, hr3⟩ := (hT.out.below hbel3 (Nat.le_refl _)).at_ (show i < xss.length by have := HE.out; have := HZ.out; omega)
              have hk3 : k < (xss.getD i []).length := by rw [HM.out i (by have := HE.out; have := HZ.out; omega)]; exact hkm
              obtain ⟨b3, o3, rfl, l3, q3, u3⟩ := hr3.at_ hk3
              rw [HM.out i (by have := HE.out; have := HZ.out; omega)] at q2
              have i0' : (0 : Int) ≤ (i : Int) := by omega
              have i1' : (i : Int) < (xs.length : Int) := by omega
              have k0' : (0 : Int) ≤ (k : Int) := by omega
              have k1' : (k : Int) < (m : Int) := by omega
              have HSU' := HSU.out i k
              by_cases hi0 : i = 0
              · have HSN := Lib.hid (outL_snoc xs xss m i k hi0 HSU')
                have hb : ((i : Int) == 0) = true := by rw [hi0]; rfl
                rw [if_pos hi0] at hn'
                subst hn'
                generalize (xss.getD i []).getD n' 0 = y at *
                generalize xs.getD i 0 = x at *
                have U1 := Lib.hid u1
                have U3 := Lib.hid u3
                generalize hsv : sadd x y = s at *
                have HSV := Lib.hid hsv
                clear hsv u1 u3 hr3 HSU' hi0
                go_wp2
                go_quiet ((go_at_call 18; exact Calls.quiet_of_same (by have := rAdd_q x y U1.out U3.out; rw [HSV.out] at this; exact this _)))
                have hown2 : (wr.drewN nq).ownsRow w.heap.size 37 1 u6 n' (vals (outL xs xss m i n')) := HO3.out
                have HO4 := Lib.hid hown2
                have hsz := below_drewN hbel3 nq
                have HSZ := Lib.hid hsz
                have HSS := Lib.hid hsz.size
                clear hown2 hsz
                go_wp2_with (at_builtin; refine wpList_append_own _ rfl _ _ 22 rfl w.heap.size 37 i0 (.int .u64 0) 1 8 Try.underlying22 hi0 hz0 hz1 hz2 rfl (by decide) _ _ _ rfl (HO4.out.alloc _) ⟨(wr.drewN nq).heap.size, 0, none⟩ 1 1 [.int .u64 s] rfl rfl (cell_one_new _ _ _) (by simp [Value.oneCell']) (by simp [maxLen]; omega) (by omega) (by have := HSS.out; simp only [World.size_alloc]; omega) ?_; intro v' w1 hown1 hg1 _)
                have hB1 : Below w.heap.size w w1 := (HSZ.out.alloc (HSS.out) _).grown hg1 (by have := HSS.out; simp only [World.size_alloc]; omega) (fun k hk => (HO4.out.lt k hk).1)
                have HW := Lib.hid hown1
                clear hg1
                go_roundw
                case rel =>
                  refine ⟨n' + 1, n' + 1, by omega, by go_num, ?_, hB1⟩
                  rw [← HSN.out]
                  exact HW.out
                case measure => simp [intOf]; omega
              · have hb : ((i : Int) == 0) = false := by rw [beq_eq_false_iff_ne]; omega
                have hip : 0 < i := by omega
                rw [if_neg hi0] at hn'
                subst hn'
                obtain ⟨g, cap, rfl⟩ : ∃ g cap, u6 = .slice (some ⟨g, 0, none⟩) n' cap := by
                  rcases HO3.out.2 with ⟨_, h0⟩ | ⟨g, cap, _, h, _⟩
                  · omega
                  · exact ⟨g, cap, h⟩
                have q4 : wr.cell? ⟨g, k, none⟩ = some (.int .u64 (viaB xs xss k i)) := by
                  rw [HO3.out.cellAt k (by omega), outL_get xs xss n' i k hip hkm]
                have f4 := HO3.out.frozenAt k
                have l4 := (HO3.out.lt g rfl).2
                have HS := Lib.hid (show viaB xs xss k (i + 1) = min (viaB xs xss k i) (sadd (xs.getD i 0) ((xss.getD i []).getD k 0)) from rfl)
                have HST := Lib.hid (outL_set xs xss n' i k hip)
                have HSM := Lib.hid (outL_same xs xss n' i k hip)
                have HGB := Lib.hid (HO3.out.lt g rfl).1
                generalize (xss.getD i []).getD k 0 = y at *
                generalize xs.getD i 0 = x at *
                have U1 := Lib.hid u1
                have U3 := Lib.hid u3
                generalize hsv : sadd x y = s at *
                have HSV := Lib.hid hsv
                clear hsv u1 u3 hr3 HSU' hi0
                by_cases hc : s < viaB xs xss k i
                · have HX := Lib.hid (show viaB xs xss k (i + 1) = s by rw [HS.out]; omega)
                  go_wp2
                  go_quiet ((go_at_call 18; exact Calls.quiet_of_same (by have := rAdd_q x y U1.out U3.out; rw [HSV.out] at this; exact this _)))
                  go_wp2
                  go_roundw
                  case rel =>
                    refine ⟨k + 1, n', by omega, by go_num, ?_, (below_drewN hbel3 nq).setCell (p := ⟨g, k, none⟩) HGB.out _⟩
                    have h5 : (wr.drewN nq).ownsRow w.heap.size 37 1 (.slice (some ⟨g, 0, none⟩) n' cap) n' (vals (outL xs xss n' i k)) := HO3.out
                    have h6 := (h5.stored k (.int .u64 s)).1
                    rw [← HX.out, HST.out, HX.out] at h6
                    exact h6
                  case measure => simp [intOf]; omega
                · have HX := Lib.hid (show viaB xs xss k (i + 1) = viaB xs xss k i by rw [HS.out]; omega)
                  go_wp2
                  go_quiet ((go_at_call 18; exact Calls.quiet_of_same (by have := rAdd_q x y U1.out U3.out; rw [HSV.out] at this; exact this _)))
                  go_wp2
                  go_roundw
                  case rel =>
                    refine ⟨k + 1, n', by omega, by go_num, ?_, below_drewN hbel3 nq⟩
                    rw [← HSM.out HX.out]
                    exact HO3.out
                  case measure => simp [intOf]; omega
            · obtain rfl : k = m := by omega
              have HEND := Lib.hid (outL_end xs xss k i)
              obtain ⟨b2, o2, a3, c3, rfl, l2, q2, hr3⟩ := (hT.out.below hbel3 (Nat.le_refl _)).at_ (show i < xss.length by have := HE.out; have := HZ.out; omega)
              rw [HM.out i (by have := HE.out; have := HZ.out; omega)] at q2
              clear hr3
              go_wp2
              go_roundw
              case rel =>
                refine ⟨i + 1, n', by omega, by go_num, ?_, hbel3⟩
                rw [← HEND.out]
                exact HO3.out
              case measure => simp [intOf]; omega
        · obtain rfl : i = xs.length := by omega
          rw [← HE.out, HF.out] at hown
          obtain ⟨a1, c1, rfl, hr⟩ := row_of_own hown HU.out
          have HR := Lib.hid hr
          clear hown hr
          go_wp2
          go_ret2
          exact ⟨a1, c1, rfl, HR.out, hbel2⟩
end Go.Proofs.Ytedijnokbemegaa
