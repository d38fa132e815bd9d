/- The walk of the law SatMins where the first two rows are of one length: it returns true, and writes to new memory alone. One row alone has a least cost.. -/
import Derived.Test.YtedijnokbemegaaT
namespace Go.Proofs.Ytedijnokbemegaa
open Go.RowKit

set_option maxRecDepth 100000 in
set_option maxHeartbeats 8000000 in
theorem wMins_nyl (n m : Nat) (a0 a1 a2 : Option Addr) (c0 c1 c2 : Nat) (xs ys zs : List Int) (w : World) (h0 : Row w a0 xs) (h1 : Row w a1 ys) (h2 : Row w a2 zs) (hx : xs.length = n) (hy : ys.length = n) (hz : zs.length = m) (hn : n ≤ 60) (hm : m ≤ 60) (bi bx bz : Nat) (hb : best (minL xs ys) n = bi) (lbi : bi < n) (hbx : best xs n < 0) (hbz : best ys n = bz) (lbz : bz < n) (hp1 : (minL xs ys).getD bi 0 ≤ ys.getD bz 0) (hq : xs.getD bi 0 = (minL xs ys).getD bi 0) :
    Calls Try.prog 6 #[.agg #[.slice a0 n c0, .slice a1 n c1, .slice a2 m c2]] w fun e w' => e = .returned (.bool true) ∧ Below w.heap.size w w' := by
  have R0 := Lib.hid h0
  have R1 := Lib.hid h1
  have R2 := Lib.hid h2
  have HX := Lib.hid hx
  have HY := Lib.hid hy
  have HZ := Lib.hid hz
  have HC := Lib.hid (minL_comm (xs := xs) (ys := ys) (by omega))
  have HSF := Lib.hid (minL_self xs)
  have HNN := Lib.hid (show minL (List.replicate n 18446744073709551615) xs = xs by rw [← hx]; exact minL_none h0.1)
  have HAS := Lib.hid (minL_assoc (xs := xs) (ys := ys) (zs := zs) (by omega))
  have UX := Lib.hid h0.1
  have UY := Lib.hid h1.1
  have HLA := Lib.hid (show (minL xs ys).length = n by rw [minL_len, hx])
  have HRP := Lib.hid (show ∀ k, k ≤ n → vals (List.replicate k 18446744073709551615) ++ [.int .u64 18446744073709551615] = vals (List.replicate (k + 1) 18446744073709551615) by
    intro k _
    rw [List.replicate_succ']
    simp [vals])
  obtain ⟨i0, hi0, hz0, hz1, hz2⟩ := info_parts info37
  clear h0 h1 h2 hx hy hz
  have HLD := Lib.hid (show (minL ys zs).length = n by rw [minL_len]; exact HY.out)
  have HLX := Lib.hid (show (minL xs (minL ys zs)).length = n by rw [minL_len]; exact HX.out)
  have Hbi := Lib.hid hb
  clear hb
  have HNa0 := Lib.hid hbx
  clear hbx
  have Hbz := Lib.hid hbz
  have HP1 := Lib.hid hp1
  clear hbz hp1
  have HQ := Lib.hid hq
  clear hq
  go_enter Try.func6, Try.ntmps6
  go_wp2_with fail
  refine (join_n n a0 a1 c0 c1 xs ys _ (by exact R0.out.below ((Below.refl _ _).alloc (Nat.le_refl _) _) (Nat.le_refl _)) (by exact R1.out.below ((Below.refl _ _).alloc (Nat.le_refl _) _) (Nat.le_refl _)) HX.out HY.out (by omega)).mono ?_
  rintro e w1 ⟨ra, cra, rfl, hr, hb⟩
  have bw : Below w.heap.size w w1 := bl (by go_grown) hb
  have kk := fun o => hb.cell (p := ⟨w.heap.size, o, none⟩) (by show w.heap.size < _; simp only [World.size_alloc]; omega)
  have qq : w.heap.size < w1.heap.size := by have := hb.size; simp only [World.size_alloc] at this; omega
  have Rra := Lib.hid hr
  clear hr
  clear hb
  replace R0 := Lib.hid (R0.out.below bw (Nat.le_refl _))
  replace R1 := Lib.hid (R1.out.below bw (Nat.le_refl _))
  replace R2 := Lib.hid (R2.out.below bw (Nat.le_refl _))
  go_wp2_with fail
  refine (join_n n a1 a0 c1 c0 ys xs _ R1.out R0.out HY.out HX.out (by omega)).mono ?_
  rintro e w2 ⟨rb, crb, rfl, hr, hb⟩
  replace bw : Below w.heap.size w w2 := bl bw hb
  replace kk := fun o => (hb.cell (p := ⟨w.heap.size, o, none⟩) qq).trans (kk o)
  replace qq : w.heap.size < w2.heap.size := Nat.lt_of_lt_of_le qq hb.size
  replace R0 := Lib.hid (R0.out.below hb (Nat.le_refl _))
  replace R1 := Lib.hid (R1.out.below hb (Nat.le_refl _))
  replace R2 := Lib.hid (R2.out.below hb (Nat.le_refl _))
  replace Rra := Lib.hid (Rra.out.below hb (Nat.le_refl _))
  have Rrb := Lib.hid hr
  clear hr
  clear hb
  rw [HC.out] at Rrb
  go_wp2_with fail
  refine (join_n n a0 a0 c0 c0 xs xs _ R0.out R0.out HX.out HX.out (by omega)).mono ?_
  rintro e w3 ⟨rs, crs, rfl, hr, hb⟩
  replace bw : Below w.heap.size w w3 := bl bw hb
  replace kk := fun o => (hb.cell (p := ⟨w.heap.size, o, none⟩) qq).trans (kk o)
  replace qq : w.heap.size < w3.heap.size := Nat.lt_of_lt_of_le qq hb.size
  replace R0 := Lib.hid (R0.out.below hb (Nat.le_refl _))
  replace R1 := Lib.hid (R1.out.below hb (Nat.le_refl _))
  replace R2 := Lib.hid (R2.out.below hb (Nat.le_refl _))
  replace Rra := Lib.hid (Rra.out.below hb (Nat.le_refl _))
  replace Rrb := Lib.hid (Rrb.out.below hb (Nat.le_refl _))
  have Rrs := Lib.hid hr
  clear hr
  clear hb
  rw [HSF.out] at Rrs
  go_wp2
  have hown0 := Lib.hid (World.ownsRow_made (base := w.heap.size) (e := 37) (size := 1) w3 #[] 0 bw.size (by simp [maxLen]) (by simp))
  have B3 := Lib.hid bw
  have K3 := Lib.hid kk
  have Q3 := Lib.hid qq
  clear bw kk qq
  go_loopw [9, 10] (fun o i wr => ∃ k : Nat, k ≤ n ∧ i = .int .i64 k ∧ wr.ownsRow w3.heap.size 37 1 o k (vals (List.replicate k 18446744073709551615)) ∧ Below w3.heap.size w3 wr)
    (fun _ i _ => n - (intOf i).toNat)
  case atStart => exact ⟨0, by omega, rfl, World.ownsRow_made w3 _ 0 (Nat.le_refl _) (by simp [maxLen]) (by simp), by go_grown⟩
  case round =>
    obtain ⟨k, hk, rfl, hown, hb3⟩ := hrel
    have kk := fun o => (hb3.cell (p := ⟨w.heap.size, o, none⟩) Q3.out).trans (K3.out o)
    have HO := Lib.hid hown
    have HB := Lib.hid hb3
    clear hown hb3
    by_cases hlt : k < n
    · have HV := Lib.hid (HRP.out k hk)
      go_wp2_with (at_builtin; refine wpList_append_own _ rfl _ _ 22 rfl w3.heap.size 37 i0 (.int .u64 0) 1 8 Try.underlying22 hi0 hz0 hz1 hz2 rfl (by decide) _ _ _ rfl (HO.out.alloc _) ⟨wr.heap.size, 0, none⟩ 1 1 [.int .u64 18446744073709551615] rfl rfl (cell_one_new _ _ _) (by simp [Value.oneCell']) (by simp [maxLen]; omega) (by omega) (by have := HB.out.size; simp only [World.size_alloc]; omega) ?_; intro v' w1' hown1 hg1 _)
      have hB1 : Below w3.heap.size w3 w1' := (HB.out.alloc (HB.out.size) _).grown hg1 (by have := HB.out.size; simp only [World.size_alloc]; omega) (fun k hk => (HO.out.lt k hk).1)
      have HW := Lib.hid hown1
      clear hg1
      go_roundw
      case rel =>
        refine ⟨k + 1, by omega, by go_num, ?_, hB1⟩
        rw [← HV.out]
        exact HW.out
      case measure => simp [intOf]; omega
    · obtain rfl : n = k := by omega
      obtain ⟨rn, crn, rfl, hrn⟩ : ∃ a c, u9 = .slice a n c ∧ Row wr a (List.replicate n 18446744073709551615) := by
        obtain ⟨a, c, h1, h2⟩ := row_of_own HO.out (fun x hx => by rw [(List.mem_replicate.1 hx).2]; exact ⟨by omega, by omega⟩)
        exact ⟨a, c, by rw [h1, List.length_replicate], h2⟩
      have Rrn := Lib.hid hrn
      have bw := bl B3.out HB.out
      have qq : w.heap.size < wr.heap.size := Nat.lt_of_lt_of_le Q3.out HB.out.size
      replace R0 := Lib.hid (R0.out.below HB.out (Nat.le_refl _))
      replace R1 := Lib.hid (R1.out.below HB.out (Nat.le_refl _))
      replace R2 := Lib.hid (R2.out.below HB.out (Nat.le_refl _))
      replace Rra := Lib.hid (Rra.out.below HB.out (Nat.le_refl _))
      replace Rrb := Lib.hid (Rrb.out.below HB.out (Nat.le_refl _))
      replace Rrs := Lib.hid (Rrs.out.below HB.out (Nat.le_refl _))
      clear hrn HO HB hlt
      go_wp2_with fail
      refine (join_n n rn a0 crn c0 (List.replicate n 18446744073709551615) xs _ Rrn.out R0.out (List.length_replicate ..) HX.out (by omega)).mono ?_
      rintro e w4 ⟨rw, crw, rfl, hr, hb⟩
      replace bw : Below w.heap.size w w4 := bl bw hb
      replace kk := fun o => (hb.cell (p := ⟨w.heap.size, o, none⟩) qq).trans (kk o)
      replace qq : w.heap.size < w4.heap.size := Nat.lt_of_lt_of_le qq hb.size
      replace R0 := Lib.hid (R0.out.below hb (Nat.le_refl _))
      replace R1 := Lib.hid (R1.out.below hb (Nat.le_refl _))
      replace R2 := Lib.hid (R2.out.below hb (Nat.le_refl _))
      replace Rra := Lib.hid (Rra.out.below hb (Nat.le_refl _))
      replace Rrb := Lib.hid (Rrb.out.below hb (Nat.le_refl _))
      replace Rrs := Lib.hid (Rrs.out.below hb (Nat.le_refl _))
      have Rrw := Lib.hid hr
      clear hr
      clear hb
      rw [HNN.out] at Rrw
      go_wp2_with fail
      refine (same_n n ra rb cra crb (minL xs ys) _ Rra.out Rrb.out HLA.out (by omega)).mono ?_
      rintro e w5 ⟨rfl, hb⟩
      replace bw : Below w.heap.size w w5 := bl bw hb
      replace kk := fun o => (hb.cell (p := ⟨w.heap.size, o, none⟩) qq).trans (kk o)
      replace qq : w.heap.size < w5.heap.size := Nat.lt_of_lt_of_le qq hb.size
      replace R0 := Lib.hid (R0.out.below hb (Nat.le_refl _))
      replace R1 := Lib.hid (R1.out.below hb (Nat.le_refl _))
      replace R2 := Lib.hid (R2.out.below hb (Nat.le_refl _))
      replace Rra := Lib.hid (Rra.out.below hb (Nat.le_refl _))
      replace Rrb := Lib.hid (Rrb.out.below hb (Nat.le_refl _))
      replace Rrs := Lib.hid (Rrs.out.below hb (Nat.le_refl _))
      replace Rrw := Lib.hid (Rrw.out.below hb (Nat.le_refl _))
      clear hb
      go_wp2_with fail
      refine (same_n n rs a0 crs c0 xs _ Rrs.out R0.out HX.out (by omega)).mono ?_
      rintro e w6 ⟨rfl, hb⟩
      replace bw : Below w.heap.size w w6 := bl bw hb
      replace kk := fun o => (hb.cell (p := ⟨w.heap.size, o, none⟩) qq).trans (kk o)
      replace qq : w.heap.size < w6.heap.size := Nat.lt_of_lt_of_le qq hb.size
      replace R0 := Lib.hid (R0.out.below hb (Nat.le_refl _))
      replace R1 := Lib.hid (R1.out.below hb (Nat.le_refl _))
      replace R2 := Lib.hid (R2.out.below hb (Nat.le_refl _))
      replace Rra := Lib.hid (Rra.out.below hb (Nat.le_refl _))
      replace Rrb := Lib.hid (Rrb.out.below hb (Nat.le_refl _))
      replace Rrs := Lib.hid (Rrs.out.below hb (Nat.le_refl _))
      replace Rrw := Lib.hid (Rrw.out.below hb (Nat.le_refl _))
      clear hb
      go_wp2_with fail
      refine (same_n n rw a0 crw c0 xs _ Rrw.out R0.out HX.out (by omega)).mono ?_
      rintro e w7 ⟨rfl, hb⟩
      replace bw : Below w.heap.size w w7 := bl bw hb
      replace kk := fun o => (hb.cell (p := ⟨w.heap.size, o, none⟩) qq).trans (kk o)
      replace qq : w.heap.size < w7.heap.size := Nat.lt_of_lt_of_le qq hb.size
      replace R0 := Lib.hid (R0.out.below hb (Nat.le_refl _))
      replace R1 := Lib.hid (R1.out.below hb (Nat.le_refl _))
      replace R2 := Lib.hid (R2.out.below hb (Nat.le_refl _))
      replace Rra := Lib.hid (Rra.out.below hb (Nat.le_refl _))
      replace Rrb := Lib.hid (Rrb.out.below hb (Nat.le_refl _))
      replace Rrs := Lib.hid (Rrs.out.below hb (Nat.le_refl _))
      replace Rrw := Lib.hid (Rrw.out.below hb (Nat.le_refl _))
      clear hb
      go_wp2_with fail
      refine (least_some n ra cra (minL xs ys) bi _ Rra.out HLA.out (by omega) Hbi.out).mono ?_
      rintro e w8 ⟨rfl, hb⟩
      replace bw : Below w.heap.size w w8 := bl bw hb
      replace kk := fun o => (hb.cell (p := ⟨w.heap.size, o, none⟩) qq).trans (kk o)
      replace qq : w.heap.size < w8.heap.size := Nat.lt_of_lt_of_le qq hb.size
      replace R0 := Lib.hid (R0.out.below hb (Nat.le_refl _))
      replace R1 := Lib.hid (R1.out.below hb (Nat.le_refl _))
      replace R2 := Lib.hid (R2.out.below hb (Nat.le_refl _))
      replace Rra := Lib.hid (Rra.out.below hb (Nat.le_refl _))
      clear hb
      go_wp2_with fail
      refine (least_none n a0 c0 xs _ R0.out HX.out (by omega) HNa0.out).mono ?_
      rintro e w9 ⟨rfl, hb⟩
      replace bw : Below w.heap.size w w9 := bl bw hb
      replace kk := fun o => (hb.cell (p := ⟨w.heap.size, o, none⟩) qq).trans (kk o)
      replace qq : w.heap.size < w9.heap.size := Nat.lt_of_lt_of_le qq hb.size
      replace R0 := Lib.hid (R0.out.below hb (Nat.le_refl _))
      replace R1 := Lib.hid (R1.out.below hb (Nat.le_refl _))
      replace R2 := Lib.hid (R2.out.below hb (Nat.le_refl _))
      replace Rra := Lib.hid (Rra.out.below hb (Nat.le_refl _))
      clear hb
      go_wp2_with fail
      refine (least_some n a1 c1 ys bz _ R1.out HY.out (by omega) Hbz.out).mono ?_
      rintro e w10 ⟨rfl, hb⟩
      replace bw : Below w.heap.size w w10 := bl bw hb
      replace kk := fun o => (hb.cell (p := ⟨w.heap.size, o, none⟩) qq).trans (kk o)
      replace qq : w.heap.size < w10.heap.size := Nat.lt_of_lt_of_le qq hb.size
      replace R0 := Lib.hid (R0.out.below hb (Nat.le_refl _))
      replace R1 := Lib.hid (R1.out.below hb (Nat.le_refl _))
      replace R2 := Lib.hid (R2.out.below hb (Nat.le_refl _))
      replace Rra := Lib.hid (Rra.out.below hb (Nat.le_refl _))
      clear hb
      obtain ⟨b1, o1, rfl, l1, q1, _⟩ := Rra.out.at_ (show bi < (minL xs ys).length by rw [HLA.out]; exact lbi)
      obtain ⟨b2, o2, rfl, l2, q2, _⟩ := R0.out.at_ (show bi < xs.length by rw [HX.out]; exact lbi)
      obtain ⟨b3, o3, rfl, l3, q3, _⟩ := R1.out.at_ (show bi < ys.length by rw [HY.out]; exact lbi)
      have i0 : (0 : Int) ≤ (bi : Int) := by omega
      have i1 : (bi : Int) < (n : Int) := by omega
      have i2 : 0 < n := by omega
      have dbi : decide (n ≤ bi) = false := by simp; omega
      obtain ⟨b5, o5, e5, l5, q5, _⟩ := R1.out.at_ (show bz < ys.length by rw [HY.out]; exact lbz)
      simp only [Option.some.injEq, Addr.mk.injEq, and_true] at e5
      obtain ⟨rfl, rfl⟩ := e5
      have hp1 := HP1.out
      have z0 : (0 : Int) ≤ (bz : Int) := by omega
      have z1 : (bz : Int) < (n : Int) := by omega
      have dbz : decide (n ≤ bz) = false := by simp; omega
      have hq2 : ((minL xs ys).getD bi 0 != xs.getD bi 0) = false := by have := HQ.out; simpa using this.symm
      generalize (minL xs ys).getD bi 0 = p at *
      generalize xs.getD bi 0 = y0 at *
      generalize ys.getD bi 0 = y1 at *
      generalize ys.getD bz 0 = sy at *
      have dz : decide (sy < p) = false := by simp; omega
      clear HQ HP1
      go_wp2_with fail
      simp only [List.append_eq, List.cons_append, List.nil_append]
      go_quiet (fail)
      have hd := drewN_below w10 nq
      replace bw := below_drewN bw nq
      replace kk := fun o => (hd.cell (p := ⟨w.heap.size, o, none⟩) qq).trans (kk o)
      replace qq : w.heap.size < (w10.drewN nq).heap.size := qq
      replace R0 := Lib.hid (R0.out.below hd (Nat.le_refl _))
      replace R1 := Lib.hid (R1.out.below hd (Nat.le_refl _))
      replace R2 := Lib.hid (R2.out.below hd (Nat.le_refl _))
      replace Rra := Lib.hid (Rra.out.below hd (Nat.le_refl _))
      clear hd
      by_cases hmn : n = m
      · subst hmn
        go_wp2_with fail
        refine (join_n n _ a2 _ c2 (minL xs ys) zs _ Rra.out R2.out HLA.out HZ.out (by omega)).mono ?_
        rintro e w11 ⟨rc, crc, rfl, hr, hb⟩
        replace bw : Below w.heap.size w w11 := bl bw hb
        replace kk := fun o => (hb.cell (p := ⟨w.heap.size, o, none⟩) qq).trans (kk o)
        replace qq : w.heap.size < w11.heap.size := Nat.lt_of_lt_of_le qq hb.size
        replace R0 := Lib.hid (R0.out.below hb (Nat.le_refl _))
        replace R1 := Lib.hid (R1.out.below hb (Nat.le_refl _))
        replace R2 := Lib.hid (R2.out.below hb (Nat.le_refl _))
        replace Rra := Lib.hid (Rra.out.below hb (Nat.le_refl _))
        have Rrc := Lib.hid hr
        clear hr
        clear hb
        go_wp2_with fail
        refine (join_n n _ a2 _ c2 ys zs _ R1.out R2.out HY.out HZ.out (by omega)).mono ?_
        rintro e w12 ⟨rd, crd, rfl, hr, hb⟩
        replace bw : Below w.heap.size w w12 := bl bw hb
        replace kk := fun o => (hb.cell (p := ⟨w.heap.size, o, none⟩) qq).trans (kk o)
        replace qq : w.heap.size < w12.heap.size := Nat.lt_of_lt_of_le qq hb.size
        replace R0 := Lib.hid (R0.out.below hb (Nat.le_refl _))
        replace R1 := Lib.hid (R1.out.below hb (Nat.le_refl _))
        replace R2 := Lib.hid (R2.out.below hb (Nat.le_refl _))
        replace Rra := Lib.hid (Rra.out.below hb (Nat.le_refl _))
        replace Rrc := Lib.hid (Rrc.out.below hb (Nat.le_refl _))
        have Rrd := Lib.hid hr
        clear hr
        clear hb
        go_wp2_with fail
        refine (join_n n _ rd _ crd xs (minL ys zs) _ R0.out Rrd.out HX.out HLD.out (by omega)).mono ?_
        rintro e w13 ⟨rk, crk, rfl, hr, hb⟩
        replace bw : Below w.heap.size w w13 := bl bw hb
        replace kk := fun o => (hb.cell (p := ⟨w.heap.size, o, none⟩) qq).trans (kk o)
        replace qq : w.heap.size < w13.heap.size := Nat.lt_of_lt_of_le qq hb.size
        replace R0 := Lib.hid (R0.out.below hb (Nat.le_refl _))
        replace R1 := Lib.hid (R1.out.below hb (Nat.le_refl _))
        replace R2 := Lib.hid (R2.out.below hb (Nat.le_refl _))
        replace Rra := Lib.hid (Rra.out.below hb (Nat.le_refl _))
        replace Rrc := Lib.hid (Rrc.out.below hb (Nat.le_refl _))
        replace Rrd := Lib.hid (Rrd.out.below hb (Nat.le_refl _))
        have Rrk := Lib.hid hr
        clear hr
        clear hb
        rw [HAS.out] at Rrc
        go_wp2_with fail
        refine (same_n n rc rk crc crk (minL xs (minL ys zs)) _ Rrc.out Rrk.out HLX.out (by omega)).mono ?_
        rintro e w14 ⟨rfl, hb⟩
        replace bw : Below w.heap.size w w14 := bl bw hb
        replace kk := fun o => (hb.cell (p := ⟨w.heap.size, o, none⟩) qq).trans (kk o)
        replace qq : w.heap.size < w14.heap.size := Nat.lt_of_lt_of_le qq hb.size
        replace R0 := Lib.hid (R0.out.below hb (Nat.le_refl _))
        replace R1 := Lib.hid (R1.out.below hb (Nat.le_refl _))
        replace R2 := Lib.hid (R2.out.below hb (Nat.le_refl _))
        replace Rra := Lib.hid (Rra.out.below hb (Nat.le_refl _))
        clear hb
        go_wp2_with fail
        refine (awake_any _).mono ?_
        rintro e w15 ⟨rfl, hb⟩
        replace bw : Below w.heap.size w w15 := bl bw hb
        replace kk := fun o => (hb.cell (p := ⟨w.heap.size, o, none⟩) qq).trans (kk o)
        replace qq : w.heap.size < w15.heap.size := Nat.lt_of_lt_of_le qq hb.size
        clear hb
        go_wp2
        go_ret
        exact ⟨rfl, bw⟩
      · have hne : ((m : Int) != (n : Int)) = true := by simp; omega
        clear hmn
        go_wp2_with fail
        refine (awake_any _).mono ?_
        rintro e w11 ⟨rfl, hb⟩
        replace bw : Below w.heap.size w w11 := bl bw hb
        replace kk := fun o => (hb.cell (p := ⟨w.heap.size, o, none⟩) qq).trans (kk o)
        replace qq : w.heap.size < w11.heap.size := Nat.lt_of_lt_of_le qq hb.size
        clear hb
        go_wp2
        go_ret
        exact ⟨rfl, bw⟩
end Go.Proofs.Ytedijnokbemegaa
