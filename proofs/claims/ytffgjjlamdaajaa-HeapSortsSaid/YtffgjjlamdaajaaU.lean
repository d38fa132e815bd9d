/- What is put in comes out once, in the order of keys: the law returns true. -/
import Derived.Test.YtffgjjlamdaajaaT
import Derived.StillTailTactics
namespace Go.Proofs.Ytffgjjlamdaajaa
open Go.RowKit

theorem info24z : (Try.prog.info? 24).map (fun i => (i.zero, i.size, i.bytes)) = some (some (.agg #[.int .u64 0, .int .u64 0, .int .i64 0, .int .i64 0]), 4, 32) := by kernel_rfl
theorem info4z : (Try.prog.info? 4).map (fun i => (i.zero, i.size, i.bytes)) = some (some (.bool false), 1, 1) := by kernel_rfl

theorem len_q {w0 w : World} {L : List HD} {p m : Nat} {s : Value} {S : List Th} (h : Sys w0 w ((p, s, m, S) :: L)) (n : Nat) {N : Int} (hN : (S.length : Int) = N) :
    Calls Try.prog 25 #[.pointer (some ⟨p, 0, none⟩)] (w.drewN n) fun e w' => e = .returned (.int .i64 N) ∧ w' = w.drewN n := by
  subst hN
  exact (sys_len (h.mono (below_drewN (Below.refl _ _) n))).mono fun _ _ h => ⟨h.1, h.2.symm⟩

set_option maxHeartbeats 8000000 in
set_option maxRecDepth 100000 in
theorem wSorts (a a' : Option Addr) (cap cap' : Nat) (l : List Ky) (lw : List Ac) (w : World) (hR : RowK w a l) (hL : l.length ≤ 9223372036854775807) (hA : RowA w a' lw) (hL' : lw.length ≤ 9223372036854775807) :
    Calls Try.prog 7 #[.slice a l.length cap, .slice a' lw.length cap'] w fun e w' => e = .returned (.bool true) ∧ Below w.heap.size w w' := by
  obtain ⟨i0, hi0, hz0, hz1, hz2⟩ := info_parts info24z
  obtain ⟨i1, ji0, jz0, jz1, jz2⟩ := info_parts info4z
  have HR := Lib.hid hR
  have HA := Lib.hid hA
  clear hR hA
  by_cases hg : 150 < l.length ∨ 150 < lw.length
  · by_cases h1 : 150 < l.length
    · have t1 : (150 : Int) < (l.length : Int) := by omega
      go_enter Try.func7, Try.ntmps7
      go_wp2_with fail
      refine (awake_true _).mono ?_
      rintro e w5 ⟨rfl, hb⟩
      have HB5 := Lib.hid hb
      clear hb
      go_wp2_with fail
      go_ret
      exact ⟨rfl, HB5.out⟩
    · have t1 : ¬ (150 : Int) < (l.length : Int) := by omega
      have t2 : (150 : Int) < (lw.length : Int) := by omega
      go_enter Try.func7, Try.ntmps7
      go_wp2_with fail
      refine (awake_true _).mono ?_
      rintro e w5 ⟨rfl, hb⟩
      have HB5 := Lib.hid hb
      clear hb
      go_wp2_with fail
      go_ret
      exact ⟨rfl, HB5.out⟩
  · have t1 : ¬ (150 : Int) < (l.length : Int) := by omega
    have t2 : ¬ (150 : Int) < (lw.length : Int) := by omega
    have hl : l.length ≤ 150 := by omega
    have hs : lw.length ≤ 150 := by omega
    clear hg
    go_enter Try.func7, Try.ntmps7
    go_wp2_with fail
    clear t1 t2
    refine (sys_new (Sys.nil w)).mono ?_
    rintro e w1 ⟨p, m, rfl, hs1, _⟩
    have S1 := Lib.hid (hs1.mono (w' := w1.alloc (.cells #[] 24)) (by go_grown))
    have R1 := Lib.hid (show Row w [(p, .slice none 0 0, m, [])] (.slice (some ⟨w1.heap.size, 0, none⟩) 0 0) from fun b hb => by
      simp only [Value.ownBlock, Option.some.injEq] at hb
      subst hb
      exact ⟨hs1.below.size, hs1.out (Nat.le_refl _)⟩)
    have O1 := Lib.hid (Own.mk (k := 4) (xs := []) (n := 0) (cap := 0) (Blk.new w1 24 #[]) (by omega) (by omega) rfl rfl)
    have HSrc := Lib.hid (HR.out.src S1.out.below)
    clear hs1
    go_wp2_with (at_builtin; refine wpList_append_fresh _ rfl _ _ 32 rfl 24 i0 (.agg #[.int .u64 0, .int .u64 0, .int .i64 0, .int .i64 0]) 4 32 Try.underlying32 hi0 hz0 hz1 hz2 rfl (by decide) _ _ _ rfl O1.out a l.length cap (kflat l) rfl (kflat_len l) HSrc.out (kflat_one l) (by simp [maxLen]; omega) (by omega) ?_; intro z w2 ho2 hg2 hf2)
    have hq := row_grown R1.out S1.out hg2 hf2
    have G2 := Lib.hid (show GS w w2 [(p, .slice none 0 0, m, srt (tag (l.take 0)))] z l.length l from ⟨hq.1, by simpa using ho2, hq.2.1⟩)
    clear ho2 hg2 hf2 hq O1 R1 S1 HSrc
    go_wp2_with fail
    go_loopw [7] (fun i wr => ∃ (y : Nat) (s : Value), i = .int .i64 y ∧ y ≤ l.length ∧ Hid (GS w wr [(p, s, m, srt (tag (l.take y)))] z l.length l))
      (fun i _ => l.length - (intOf i).toNat)
    case atStart => exact ⟨0, _, rfl, by omega, G2⟩
    case round =>
      obtain ⟨y, s, rfl, hy, HG⟩ := hrel
      by_cases hyl : y < l.length
      · obtain ⟨b, off, rfl, hb, c0, c1, c2, c3⟩ := HR.out.at_ HG.out.sys.below hyl
        have HE := Lib.hid (show (if hasS (srt (tag (l.take y))) y = true then (15 : Int) else 0) = 0 by rw [tag_new l hyl]; rfl)
        have HP := Lib.hid (tag_push l hyl)
        have HE2 := Lib.hid (show (if hasS (srt (tag (l.take (y + 1)))) y = true then (15 : Int) else 0) = 15 by rw [tag_there l hyl]; rfl)
        have HP2 := Lib.hid (tag_again l hyl)
        have HL := Lib.hid (show (srt (tag (l.take y))).length ≤ 999999 by rw [srt_tag_len, List.length_take]; omega)
        have HL2 := Lib.hid (show (srt (tag (l.take (y + 1)))).length = y + 1 by rw [srt_tag_len, List.length_take]; omega)
        have HD := Lib.hid (fun (w' : World) (h : Below w.heap.size w w') => HR.out.at_ h hyl)
        generalize l.getD y (0, 0, 0, 0) = x at *
        obtain ⟨x1, x2, x3, x4⟩ := x
        (try dsimp only at c0 c1 c2 c3)
        have t2 : (0 : Int) ≤ (y : Int) := by omega
        have t3 : (y : Int) < (l.length : Int) := by omega
        go_wp2_with fail
        refine (sys_push HG.out.sys HL.out y (x1, x2, x3, x4) HE.out HP.out).mono ?_
        rintro e w3 ⟨s3, rfl, hs3, hf3⟩
        have G3 := Lib.hid (HG.out.call hs3 hf3)
        clear hs3 hf3 c0 c1 c2 c3
        obtain ⟨b', off', e1, _, c0, c1, c2, c3⟩ := HD.out w3 G3.out.sys.below
        simp only [Option.some.injEq, Addr.mk.injEq, and_true] at e1
        obtain ⟨rfl, rfl⟩ := e1
        (try dsimp only at c0 c1 c2 c3)
        go_wp2_with fail
        refine (sys_push G3.out.sys (by rw [HL2.out]; omega) y (x1, x2, x3, x4) HE2.out (HP2.out _)).mono ?_
        rintro e w4 ⟨s4, rfl, hs4, hf4⟩
        have G4 := Lib.hid (G3.out.call hs4 hf4)
        clear hs4 hf4 c0 c1 c2 c3
        go_wp2_with fail
        refine (sys_len G4.out.sys).mono ?_
        rintro e w5 ⟨rfl, hww⟩
        subst hww
        rw [HL2.out]
        go_wp2_with fail
        go_roundw
        case rel => exact ⟨y + 1, s4, by go_num, by omega, G4⟩
        case measure => simp [intOf]; omega
      · obtain rfl : y = l.length := by omega
        have t3 : ¬ (l.length : Int) < (l.length : Int) := by omega
        rw [tag_all] at HG
        go_wp2_with fail
        clear t3 G2
        go_loopw [8] (fun i wr => ∃ (y : Nat) (s : Value) (ks : List Ky), i = .int .i64 y ∧ y ≤ lw.length ∧ ks.length = l.length ∧ Hid (GS w wr [(p, s, m, srt (tag ks))] z l.length ks))
          (fun i _ => lw.length - (intOf i).toNat)
        case atStart => exact ⟨0, s, l, rfl, by omega, rfl, HG⟩
        case round =>
          obtain ⟨y, s, ks, rfl, hy, hks, HG⟩ := hrel
          have HKs := Lib.hid hks
          clear hks
          obtain ⟨az, cz, rfl⟩ := HG.out.own.of_any
          by_cases hyl : y < lw.length
          · obtain ⟨b, off, rfl, hb, c0, c1, c2, c3, c4, c5⟩ := HA.out.at_ HG.out.sys.below hyl
            generalize lw.getD y ac0 = x at *
            obtain ⟨d, id, x1, x2, x3, x4⟩ := x
            (try dsimp only at c0 c1 c2 c3 c4 c5)
            have t2 : (0 : Int) ≤ (y : Int) := by omega
            have t3 : (y : Int) < (lw.length : Int) := by omega
            have HLs := Lib.hid (show (srt (tag ks)).length ≤ 1000000 by rw [srt_tag_len, HKs.out]; omega)
            have G3 := Lib.hid (HG.out.mono (w' := wr.alloc (.cells #[.int .i64 d, .int .i64 id, .int .u64 x1, .int .u64 x2, .int .i64 x3, .int .i64 x4] 49)) (by go_grown))
            have K3 := Lib.hid (Blk.new wr 49 #[.int .i64 d, .int .i64 id, .int .u64 x1, .int .u64 x2, .int .i64 x3, .int .i64 x4])
            have U3 := Lib.hid (HG.out.sys.out (Nat.le_refl _))
            by_cases hin : 0 ≤ id ∧ id < l.length
            · obtain ⟨K, rfl⟩ : ∃ K : Nat, id = K := ⟨id.toNat, by omega⟩
              have hK : K < l.length := by omega
              have hKk : K < ks.length := by rw [HKs.out]; exact hK
              have HE := Lib.hid (tag_e ks hKk (x1, x2, x3, x4))
              have HT := Lib.hid (fun h => tag_lower ks hKk (k := (x1, x2, x3, x4)) h)
              have HN := Lib.hid (fun h => tag_lower_no ks hKk (k := (x1, x2, x3, x4)) h)
              have u0 : ¬ (K : Int) < 0 := by omega
              have u0' : (0 : Int) ≤ (K : Int) := by omega
              have u1 : (K : Int) < (l.length : Int) := by omega
              obtain ⟨bz, _, _, ez, hbz, _⟩ := HG.out.own.of_pos (by omega)
              simp only [Value.slice.injEq, true_and] at ez
              obtain ⟨rfl, rfl⟩ := ez
              clear hbz
              have HZ := Lib.hid (fun (w' : World) (h : Own w' 24 4 (.slice (some ⟨bz, 0, none⟩) l.length cz) l.length (kflat ks)) => own_key h hKk)
              have HLa := Lib.hid (fun (w' : World) (h : Own w' 24 4 (.slice (some ⟨bz, 0, none⟩) l.length cz) l.length (kflat ks)) => own_layK h HKs.out.symm hKk (x1, x2, x3, x4))
              have HSl := Lib.hid (show (ks.set K (x1, x2, x3, x4)).length = l.length by rw [List.length_set]; exact HKs.out)
              clear hin
              generalize hky : ks.getD K (0, 0, 0, 0) = ky at *
              clear hky
              obtain ⟨k1, k2, k3, k4⟩ := ky
              cases hlt : ltK (x1, x2, x3, x4) (k1, k2, k3, k4)
              · have HE2 := Lib.hid (HE.out.trans (if_neg (by rw [hlt]; simp)))
                have HN2 := Lib.hid (HN.out hlt)
                go_wp2_with fail
                refine (sys_lower G3.out.sys HLs.out _ (x1, x2, x3, x4) HE2.out HN2.out).mono ?_
                rintro e w4 ⟨rfl, hs4, hf4⟩
                have G4 := Lib.hid (G3.out.call hs4 hf4)
                have K4 := Lib.hid (hf4.blk K3.out U3.out)
                clear hs4 hf4 c0 c1 c2 c3 c4 c5
                have r0 := K4.out.cell 0
                have r1 := K4.out.cell 1
                have r2 := K4.out.cell 2
                have r3 := K4.out.cell 3
                have r4 := K4.out.cell 4
                have r5 := K4.out.cell 5
                simp at r0 r1 r2 r3 r4 r5
                have c := HZ.out _ G4.out.own
                obtain ⟨z0, z1, z2, z3⟩ := c
                (try dsimp only at z0 z1 z2 z3)
                go_wp2_with fail
                go_still_tail 7, (by kernel_rfl)
                change wpList _ _ _ _ _ w4.drew
                go_wp2_with fail
                refine (less_any (x1, x2, x3, x4) (k1, k2, k3, k4) _).mono ?_
                rintro e w5 ⟨rfl, hb5⟩
                rw [hlt]
                have G5 := Lib.hid (G4.out.mono (show Below w4.heap.size w4 w5 from bl (by go_grown) hb5))
                clear hb5 z0 z1 z2 z3 r0 r1 r2 r3 r4 r5
                go_wp2_with fail
                go_roundw
                case rel => exact ⟨y + 1, s, ks, by go_num, by omega, HKs.out, G5⟩
                case measure => simp [intOf]; omega
              · have HE2 := Lib.hid (HE.out.trans (if_pos hlt))
                have HN2 := Lib.hid (HT.out hlt)
                go_wp2_with fail
                refine (sys_lower G3.out.sys HLs.out _ (x1, x2, x3, x4) HE2.out HN2.out).mono ?_
                rintro e w4 ⟨rfl, hs4, hf4⟩
                have G4 := Lib.hid (G3.out.call hs4 hf4)
                have K4 := Lib.hid (hf4.blk K3.out U3.out)
                clear hs4 hf4 c0 c1 c2 c3 c4 c5
                have r0 := K4.out.cell 0
                have r1 := K4.out.cell 1
                have r2 := K4.out.cell 2
                have r3 := K4.out.cell 3
                have r4 := K4.out.cell 4
                have r5 := K4.out.cell 5
                simp at r0 r1 r2 r3 r4 r5
                have c := HZ.out _ G4.out.own
                obtain ⟨z0, z1, z2, z3⟩ := c
                (try dsimp only at z0 z1 z2 z3)
                go_wp2_with fail
                go_still_tail 7, (by kernel_rfl)
                change wpList _ _ _ _ _ w4.drew
                go_wp2_with fail
                refine (less_any (x1, x2, x3, x4) (k1, k2, k3, k4) _).mono ?_
                rintro e w5 ⟨rfl, hb5⟩
                rw [hlt]
                have b45 : Below w4.heap.size w4 w5 := bl (by go_grown) hb5
                have G5 := Lib.hid (G4.out.mono b45)
                have K5 := K4.out.below b45 K4.out.lt
                clear hb5 b45 z0 z1 z2 z3 r0 r1 r2 r3 r4 r5
                have r1 := K5.cell 1
                have r2 := K5.cell 2
                have r3 := K5.cell 3
                have r4 := K5.cell 4
                have r5 := K5.cell 5
                simp at r1 r2 r3 r4 r5
                obtain ⟨z0, z1, z2, z3⟩ := HZ.out _ G5.out.own
                obtain ⟨_, _, _, ez, hbz, _⟩ := G5.out.own.of_pos (by omega)
                simp only [Value.slice.injEq, Option.some.injEq, Addr.mk.injEq, and_true, true_and] at ez
                obtain ⟨rfl, rfl⟩ := ez
                have fr : ∀ o, w5.frozen? ⟨bz, o, none⟩ = false := fun o => hbz.frozen o
                have HLb := Lib.hid (HLa.out _ G5.out.own)
                clear K5 hbz
                go_wp2_with fail
                go_roundw
                case rel =>
                  refine ⟨y + 1, s, ks.set K (x1, x2, x3, x4), by go_num, by omega, HSl.out, Lib.hid ⟨G5.out.sys.kept (kept_layK w5 bz (K * 4) (x1, x2, x3, x4)) (fun q e => by subst e; exact G5.out.row _ rfl), HLb.out, G5.out.row⟩⟩
                case measure => simp [intOf]; omega
            · have HE2 := Lib.hid (tag_e_out ks (id := id) (by rw [HKs.out]; exact hin) (x1, x2, x3, x4))
              have HN2 := Lib.hid (tag_lower_out ks (id := id) (by rw [HKs.out]; exact hin) (x1, x2, x3, x4))
              by_cases hneg : id < 0
              · clear hin
                go_wp2_with fail
                refine (sys_lower G3.out.sys HLs.out _ (x1, x2, x3, x4) HE2.out HN2.out).mono ?_
                rintro e w4 ⟨rfl, hs4, hf4⟩
                have G4 := Lib.hid (G3.out.call hs4 hf4)
                have K4 := Lib.hid (hf4.blk K3.out U3.out)
                clear hs4 hf4 c0 c1 c2 c3 c4 c5
                have r0 := K4.out.cell 0
                have r1 := K4.out.cell 1
                have r2 := K4.out.cell 2
                have r3 := K4.out.cell 3
                have r4 := K4.out.cell 4
                have r5 := K4.out.cell 5
                simp at r0 r1 r2 r3 r4 r5
                go_wp2_with fail
                go_roundw
                case rel => exact ⟨y + 1, s, ks, by go_num, by omega, HKs.out, G4⟩
                case measure => simp [intOf]; omega
              · have u1 : (l.length : Int) ≤ id := by omega
                clear hin
                go_wp2_with fail
                refine (sys_lower G3.out.sys HLs.out _ (x1, x2, x3, x4) HE2.out HN2.out).mono ?_
                rintro e w4 ⟨rfl, hs4, hf4⟩
                have G4 := Lib.hid (G3.out.call hs4 hf4)
                have K4 := Lib.hid (hf4.blk K3.out U3.out)
                clear hs4 hf4 c0 c1 c2 c3 c4 c5
                have r0 := K4.out.cell 0
                have r1 := K4.out.cell 1
                have r2 := K4.out.cell 2
                have r3 := K4.out.cell 3
                have r4 := K4.out.cell 4
                have r5 := K4.out.cell 5
                simp at r0 r1 r2 r3 r4 r5
                go_wp2_with fail
                go_roundw
                case rel => exact ⟨y + 1, s, ks, by go_num, by omega, HKs.out, G4⟩
                case measure => simp [intOf]; omega
          · obtain rfl : y = lw.length := by omega
            have t3 : ¬ (lw.length : Int) < (lw.length : Int) := by omega
            have HS0 := Lib.hid (show (srt (tag ks)).length = l.length by rw [srt_tag_len, HKs.out])
            have HO := Lib.hid (srt_once (tag_once ks))
            have HSo := Lib.hid (srt_sorted (tag_once ks))
            have HG3 := Lib.hid (fun i (hi : i < l.length) => srt_tag_get ks (i := i) (by rw [HKs.out]; exact hi))
            generalize hS : srt (tag ks) = S at *
            clear hS
            go_wp2_with (at_make; refine wpList_make_full _ rfl _ _ 59 rfl 0 4 i1 (.bool false) 1 Try.underlying59 ji0 jz0 jz1 _ _ _ _ l.length rfl rfl rfl rfl (by rw [jz2]; omega) (by simp [maxLen]; omega) (Nat.zero_le _) ?_; intro w5 ho5 hg5)
            have b5 : Below wr.heap.size wr w5 := ⟨hg5.os, hg5.tape, hg5.output, hg5.size, fun k hk => hg5.block k hk (by simp)⟩
            have ho5' : Own w5 4 1 (.slice (some ⟨wr.heap.size, 0, none⟩) l.length l.length) l.length (bools (came S l.length 0)) := by
              rw [came_zero]
              have e : bools (List.replicate l.length false) = (madeCells (Value.cells (.bool false)) (l.length * 1)).toList := by
                rw [Nat.mul_one, show Value.cells (.bool false) = #[Value.bool false] from rfl, toList_madeCells_one]
                simp [bools]
              rw [e]
              exact ho5
            have T5 := Lib.hid (show GT w (w5.alloc (.cells (kcells (0, 0, 0, 0)) 24)) [(p, s, m, S.drop 0)] (.slice az l.length cz) l.length ks (.slice (some ⟨wr.heap.size, 0, none⟩) l.length l.length) (came S l.length 0) w5.heap.size (bef S 0).2 from by
              have hsz := b5.size
              have g5 := (HG.out.mono b5)
              have lt1 : wr.heap.size < w5.heap.size := ho5'.lt (b := wr.heap.size) rfl
              refine ⟨g5.mono (by go_grown), ho5'.alloc _, fun b hb => ?_, Blk.new w5 24 _, g5.sys.out (Nat.le_refl _), Nat.le_trans HG.out.sys.below.size hsz, fun b hb hd => ?_, fun hb => ?_, fun hb => ?_⟩
              · simp only [Value.ownBlock, Option.some.injEq] at hb
                subst hb
                exact ⟨HG.out.sys.below.size, HG.out.sys.out (Nat.le_refl _)⟩
              · simp only [Value.ownBlock, Option.some.injEq] at hd
                have := HG.out.own.lt hb
                omega
              · have := HG.out.own.lt hb
                omega
              · simp only [Value.ownBlock, Option.some.injEq] at hb
                omega)
            have ltw5 : wr.heap.size < w5.heap.size := ho5'.lt (b := wr.heap.size) rfl
            clear ho5 ho5' hg5 b5
            go_wp2_with fail
            clear t3 HG
            generalize wr.heap.size = cb at *
            go_loopw [13, 14] (fun bf i wq => ∃ (y : Nat) (s : Value), i = .int .i64 y ∧ y ≤ l.length ∧ bf = .int .i64 (bef S y).1 ∧ Hid (GT w wq [(p, s, m, S.drop y)] (.slice az l.length cz) l.length ks (.slice (some ⟨cb, 0, none⟩) l.length l.length) (came S l.length y) w5.heap.size (bef S y).2))
              (fun _ i _ => l.length - (intOf i).toNat)
            case atStart => exact ⟨0, s, rfl, by omega, rfl, T5⟩
            case round =>
              obtain ⟨y, s, rfl, hy, rfl, HT⟩ := hrel
              by_cases hyl : y < l.length
              · have hys : y < S.length := by rw [HS0.out]; exact hyl
                obtain ⟨j, hj, hgj⟩ := HG3.out y hyl
                have hjn : j < l.length := by rw [← HKs.out]; exact hj
                have HV := Lib.hid (popV_drop hys)
                have HLs := Lib.hid (show (S.drop y).length ≤ 1000000 by rw [List.length_drop, HS0.out]; omega)
                have HLq := Lib.hid (show ((S.drop (y + 1)).length : Int) = (l.length : Int) - 1 - (y : Int) by rw [List.length_drop, HS0.out]; omega)
                have HLs2 := Lib.hid (show (S.drop (y + 1)).length ≤ 1000000 by rw [List.length_drop, HS0.out]; omega)
                have HCn := Lib.hid (came_new HO.out hys hjn (by rw [hgj]))
                have HCs := Lib.hid (came_succ (n := l.length) hys (j := j) (by rw [hgj]))
                have HGo := gone HO.out hys
                have HOr := Lib.hid (show 0 < y → ltK (g S y).2 (bef S y).2 = false ∧ ((g S y).2 = (bef S y).2 → (bef S y).1 < (g S y).1) from fun h0 => by
                  obtain ⟨q, rfl⟩ : ∃ q, y = q + 1 := ⟨y - 1, by omega⟩
                  exact in_order HSo.out hys)
                have HBf := Lib.hid (show bef S (y + 1) = g S y from rfl)
                rw [hgj] at HV HGo HOr HBf
                have HV2 := Lib.hid (show keyV (S.drop (y + 1)) (j : Int) = .tuple #[kyV (0, 0, 0, 0), .bool false] by unfold keyV; rw [HGo]; rfl)
                clear HGo
                have ltc := HT.out.blk.lt
                have ltm := HT.out.came.lt (b := cb) rfl
                obtain ⟨bz, _, _, ez, hbz, _⟩ := HT.out.gs.own.of_pos (by omega)
                simp only [Value.slice.injEq, true_and] at ez
                obtain ⟨rfl, rfl⟩ := ez
                have HKy := Lib.hid (fun (w' : World) (h : Own w' 24 4 (.slice (some ⟨bz, 0, none⟩) l.length cz) l.length (kflat ks)) => own_key h hj)
                clear hbz hgj hys
                generalize hky : ks.getD j (0, 0, 0, 0) = ky at *
                clear hky hj
                generalize hbf : bef S y = bfy at *
                clear hbf
                obtain ⟨k1, k2, k3, k4⟩ := ky
                obtain ⟨ob, o1, o2, o3, o4⟩ := bfy
                have t3 : (y : Int) < (l.length : Int) := by omega
                have u0 : ¬ (j : Int) < 0 := by omega
                have u0' : (0 : Int) ≤ (j : Int) := by omega
                have u1 : (j : Int) < (l.length : Int) := by omega
                have u2 : ¬ (l.length : Int) ≤ (j : Int) := by omega
                have hsub1 : IntKind.i64.wrap ((l.length : Int) - 1) = (l.length : Int) - 1 := IntWalk.i64_in _ (by omega)
                have hsub2 : IntKind.i64.wrap ((l.length : Int) - 1 - (y : Int)) = (l.length : Int) - 1 - (y : Int) := IntWalk.i64_in _ (by omega)
                go_wp2_with fail
                refine (sys_pop HT.out.gs.sys HLs.out HV.out (tail_drop S y)).mono ?_
                rintro e w7 ⟨s7, rfl, hs7, hf7⟩
                have T7 := Lib.hid ((HT.out.call hs7 hf7).mono (w' := w7.alloc (.cells (kcells (k1, k2, k3, k4)) 24)) (by go_grown))
                have K7 := Lib.hid (Blk.new w7 24 (kcells (k1, k2, k3, k4)))
                have U7 := Lib.hid (hs7.out (Nat.le_refl _))
                have T7lt := Nat.lt_of_lt_of_le ltc hf7.1
                have T7lm := Nat.lt_of_lt_of_le ltm hf7.1
                clear hs7 hf7
                have hc0 := own_bool T7.out.came (i := j) (by rw [came_len]; exact hjn)
                rw [HCn.out] at hc0
                obtain ⟨z0, z1, z2, z3⟩ := HKy.out _ T7.out.gs.own
                (try dsimp only at z0 z1 z2 z3)
                have hne := neKey (k1, k2, k3, k4) (k1, k2, k3, k4)
                rw [decide_eq_true rfl] at hne
                simp only [Bool.not_true] at hne
                go_wp2_with fail
                go_quiet ((go_at_call 25; exact Calls.quiet_of_same (len_q T7.out.gs.sys _ HLq.out)))
                have d0 := T7.out.blk.cell 0
                have d1 := T7.out.blk.cell 1
                have d2 := T7.out.blk.cell 2
                have d3 := T7.out.blk.cell 3
                simp at d0 d1 d2 d3
                have T8 := Lib.hid (T7.out.mono (below_drewN (Below.refl _ _) nq))
                have K8 := Lib.hid (K7.out.drewN nq)
                have n1 : ¬ w7.heap.size = cb := by omega
                have n2 : ¬ cb = w7.heap.size := by omega
                have n3 : ¬ w7.heap.size = w5.heap.size := by omega
                have n4 : ¬ w5.heap.size = w7.heap.size := by omega
                have n5 : ¬ w5.heap.size = cb := by omega
                have n6 : ¬ cb = w5.heap.size := by omega
                by_cases h0 : y = 0
                · have t4 : ¬ (0 : Int) < (y : Int) := by omega
                  go_wp2_with fail
                  refine (sys_key T8.out.gs.sys HLs2.out (j : Int) HV2.out).mono ?_
                  rintro e wa ⟨rfl, hsa, hba⟩
                  have TA := Lib.hid ((T8.out.mono hba).mono (w' := wa.alloc (.cells #[.int .u64 0, .int .u64 0, .int .i64 0, .int .i64 0] 24)) (by go_grown))
                  have ka := (K8.out.below hba K8.out.lt).alloc (.cells #[.int .u64 0, .int .u64 0, .int .i64 0, .int .i64 0] 24)
                  have q0 := ka.cell 0
                  have q1 := ka.cell 1
                  have q2 := ka.cell 2
                  have q3 := ka.cell 3
                  have v0 := TA.out.blk.cell 0
                  have v1 := TA.out.blk.cell 1
                  have v2 := TA.out.blk.cell 2
                  have v3 := TA.out.blk.cell 3
                  simp at q0 q1 q2 q3 v0 v1 v2 v3
                  have vf := TA.out.blk.frozen
                  have hca := own_bool TA.out.came (i := j) (by rw [came_len]; exact hjn)
                  obtain ⟨_, _, _, ec, hbc, _⟩ := TA.out.came.of_pos (by omega)
                  simp only [Value.slice.injEq, Option.some.injEq, Addr.mk.injEq, and_true, true_and] at ec
                  obtain ⟨rfl, rfl⟩ := ec
                  have cf := hbc.frozen
                  have TP := Lib.hid ((TA.out.put hjn true).lay (k1, k2, k3, k4))
                  rw [HCs.out] at TP
                  have lta := Nat.lt_of_lt_of_le K8.out.lt hba.size
                  clear hsa hba ka hbc
                  generalize (came S l.length y).getD j false = cv at *
                  go_wp2_with fail
                  go_roundw
                  case rel => exact ⟨y + 1, s7, by go_num, by omega, by rw [HBf.out], Lib.hid (by rw [HBf.out]; exact TP.out)⟩
                  case measure => simp [intOf]; omega
                · have t4 : (0 : Int) < (y : Int) := by omega
                  obtain ⟨hl1, hl2⟩ := HOr.out (by omega)
                  go_wp2_with fail
                  refine (less_any (k1, k2, k3, k4) (o1, o2, o3, o4) _).mono ?_
                  rintro e w8 ⟨rfl, hb8⟩
                  rw [hl1]
                  have T9 := Lib.hid (T8.out.mono hb8)
                  have k9 := K8.out.below hb8 K8.out.lt
                  have K9 := Lib.hid k9
                  have r0 := k9.cell 0
                  have r1 := k9.cell 1
                  have r2 := k9.cell 2
                  have r3 := k9.cell 3
                  have g0 := T9.out.blk.cell 0
                  have g1 := T9.out.blk.cell 1
                  have g2 := T9.out.blk.cell 2
                  have g3 := T9.out.blk.cell 3
                  simp at r0 r1 r2 r3 g0 g1 g2 g3
                  clear hb8 k9
                  have heq := eqKey (k1, k2, k3, k4) (o1, o2, o3, o4)
                  by_cases he : (k1, k2, k3, k4) = (o1, o2, o3, o4)
                  · have t5 : ¬ (j : Int) < ob := by have := hl2 he; omega
                    rw [decide_eq_true he] at heq
                    clear he hl1 hl2
                    go_wp2_with fail
                    refine (sys_key T9.out.gs.sys HLs2.out (j : Int) HV2.out).mono ?_
                    rintro e wa ⟨rfl, hsa, hba⟩
                    have TA := Lib.hid ((T9.out.mono hba).mono (w' := wa.alloc (.cells #[.int .u64 0, .int .u64 0, .int .i64 0, .int .i64 0] 24)) (by go_grown))
                    have ka := (K9.out.below hba K9.out.lt).alloc (.cells #[.int .u64 0, .int .u64 0, .int .i64 0, .int .i64 0] 24)
                    have q0 := ka.cell 0
                    have q1 := ka.cell 1
                    have q2 := ka.cell 2
                    have q3 := ka.cell 3
                    have v0 := TA.out.blk.cell 0
                    have v1 := TA.out.blk.cell 1
                    have v2 := TA.out.blk.cell 2
                    have v3 := TA.out.blk.cell 3
                    simp at q0 q1 q2 q3 v0 v1 v2 v3
                    have vf := TA.out.blk.frozen
                    have hca := own_bool TA.out.came (i := j) (by rw [came_len]; exact hjn)
                    obtain ⟨_, _, _, ec, hbc, _⟩ := TA.out.came.of_pos (by omega)
                    simp only [Value.slice.injEq, Option.some.injEq, Addr.mk.injEq, and_true, true_and] at ec
                    obtain ⟨rfl, rfl⟩ := ec
                    have cf := hbc.frozen
                    have TP := Lib.hid ((TA.out.put hjn true).lay (k1, k2, k3, k4))
                    rw [HCs.out] at TP
                    have lta := Nat.lt_of_lt_of_le K9.out.lt hba.size
                    clear hsa hba ka hbc
                    generalize (came S l.length y).getD j false = cv at *
                    go_wp2_with fail
                    go_roundw
                    case rel => exact ⟨y + 1, s7, by go_num, by omega, by rw [HBf.out], Lib.hid (by rw [HBf.out]; exact TP.out)⟩
                    case measure => simp [intOf]; omega
                  · rw [decide_eq_false he] at heq
                    clear he hl1 hl2
                    go_wp2_with fail
                    refine (sys_key T9.out.gs.sys HLs2.out (j : Int) HV2.out).mono ?_
                    rintro e wa ⟨rfl, hsa, hba⟩
                    have TA := Lib.hid ((T9.out.mono hba).mono (w' := wa.alloc (.cells #[.int .u64 0, .int .u64 0, .int .i64 0, .int .i64 0] 24)) (by go_grown))
                    have ka := (K9.out.below hba K9.out.lt).alloc (.cells #[.int .u64 0, .int .u64 0, .int .i64 0, .int .i64 0] 24)
                    have q0 := ka.cell 0
                    have q1 := ka.cell 1
                    have q2 := ka.cell 2
                    have q3 := ka.cell 3
                    have v0 := TA.out.blk.cell 0
                    have v1 := TA.out.blk.cell 1
                    have v2 := TA.out.blk.cell 2
                    have v3 := TA.out.blk.cell 3
                    simp at q0 q1 q2 q3 v0 v1 v2 v3
                    have vf := TA.out.blk.frozen
                    have hca := own_bool TA.out.came (i := j) (by rw [came_len]; exact hjn)
                    obtain ⟨_, _, _, ec, hbc, _⟩ := TA.out.came.of_pos (by omega)
                    simp only [Value.slice.injEq, Option.some.injEq, Addr.mk.injEq, and_true, true_and] at ec
                    obtain ⟨rfl, rfl⟩ := ec
                    have cf := hbc.frozen
                    have TP := Lib.hid ((TA.out.put hjn true).lay (k1, k2, k3, k4))
                    rw [HCs.out] at TP
                    have lta := Nat.lt_of_lt_of_le K9.out.lt hba.size
                    clear hsa hba ka hbc
                    generalize (came S l.length y).getD j false = cv at *
                    go_wp2_with fail
                    go_roundw
                    case rel => exact ⟨y + 1, s7, by go_num, by omega, by rw [HBf.out], Lib.hid (by rw [HBf.out]; exact TP.out)⟩
                    case measure => simp [intOf]; omega
              · obtain rfl : y = l.length := by omega
                have t3 : ¬ (l.length : Int) < (l.length : Int) := by omega
                have HV := Lib.hid (show popV (S.drop l.length) = .tuple #[.int .i64 0, kyV (0, 0, 0, 0), .bool false] by rw [List.drop_of_length_le (by rw [HS0.out]; omega)]; rfl)
                have hez := eqKey (0, 0, 0, 0) (0, 0, 0, 0)
                rw [decide_eq_true rfl] at hez
                go_wp2_with fail
                refine (sys_pop HT.out.gs.sys (by rw [List.length_drop, HS0.out]; omega) HV.out rfl).mono ?_
                rintro e w7 ⟨s7, rfl, hs7, _⟩
                have B7 := Lib.hid (bl hs7.below (show Below w7.heap.size w7 (w7.alloc (.cells #[.int .u64 0, .int .u64 0, .int .i64 0, .int .i64 0] 24)) by go_grown))
                clear hs7
                go_wp2_with fail
                refine (awake_true _).mono ?_
                rintro e w9 ⟨rfl, hb⟩
                have HB9 := Lib.hid (bl B7.out hb)
                clear hb
                go_wp2_with fail
                go_ret
                exact ⟨rfl, HB9.out⟩
end Go.Proofs.Ytffgjjlamdaajaa
