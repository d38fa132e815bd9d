/- The walk of the law CacheKinds: for every input it returns true, and writes to new memory alone. -/
import Derived.Test.YtoecclpfgdfpoaaKI
import Derived.Deep.DeepCutAuto
import Derived.Deep.CutBlock
import Derived.Deep.RegionHeld3
import Derived.Test.YtoecclpfgdfpoaaHl
namespace Go.Proofs.Ytoecclpfgdfpoaa.K
open Go.RowKit

set_option maxRecDepth 100000 in
set_option maxHeartbeats 8000000 in
theorem wKinds_run (R : Nat) (a : Option Addr) (cap : Nat) (l : List Ac) (w : World) (ha : RowA w a l) (hR1 : 1 ≤ R) (hR : R ≤ 16) (hl : l.length ≤ 100) :
    Calls Try.prog 3 #[.int .i64 (R : Int), .slice a l.length cap] w fun e w' => e = .returned (.bool true) ∧ Below w.heap.size w w' := by
  have HA := Lib.hid ha
  have hr1 : (1 : Int) ≤ (R : Int) := by omega
  have hr2 : (R : Int) ≤ 16 := by omega
  have HTw := fun v w => neTw v w
  have HNm := fun x s w => neName x s w
  clear ha
  go_enter Try.func3, Try.ntmps3
  go_wp2_with fail
  refine (Go.Proofs.Ytoecclpfgdfpoaa.new_yes R hr1 hr2 _).mono ?_
  rintro e w1 ⟨p, rfl, hc1, hp1, hb1⟩
  have C1 := Lib.hid hc1
  have B1 := Lib.hid hb1
  have P1 := Lib.hid hp1
  clear hc1 hp1 hb1
  go_wp2_with fail
  refine (new_yes R hr1 hr2 _).mono ?_
  rintro e w2 ⟨q, rfl, hc2, hp2, hb2⟩
  have ST := Lib.hid (show KindSt w.heap.size w w2 p (.slice none 0 0) q (.slice none 0 0) R [] from
    ⟨C1.out.fresh hb2, hc2, ⟨P1.out, Nat.le_trans B1.out.size hp2, fun b h => by simp [Value.ownBlock] at h, fun b h => by simp [Value.ownBlock] at h, fun b h h' => by
      have := C1.out.blk.lt
      simp [O, Value.ownBlock] at h h'; omega⟩, by simp, bl B1.out hb2⟩)
  clear hc2 hp2 hb2 C1 B1 P1
  go_wp2_with fail
  go_loopw [9] (fun i wr => ∃ (k : Nat) (s t : Value) (L : List Th), k ≤ l.length ∧ i = .int .i64 k ∧ KindSt w.heap.size w wr p s q t R L)
    (fun i _ => l.length - (intOf i).toNat)
  case atStart => exact ⟨0, _, _, _, by omega, rfl, ST.out⟩
  case round =>
    obtain ⟨k, s, t, L, hk, rfl, hst⟩ := hrel
    have HS := Lib.hid hst
    have hll := hst.ln
    clear hst ST
    by_cases hlt : k < l.length
    · obtain ⟨b, off, rfl, hbw, q0, q1, q2⟩ := HA.out.at_ HS.out.bb hlt
      have k0 : (0 : Int) ≤ (k : Int) := by omega
      have k1 : (k : Int) < (l.length : Int) := by omega
      generalize l.getD k (0, 0, 0) = x at *
      obtain ⟨x0, x1, x2⟩ := x
      simp only at q0 q1 q2
      have H0 := Lib.hid (HS.out.fresh ((Below.refl wr.heap.size wr).alloc (Nat.le_refl _) (.cells #[.int .i64 x0, .int .i64 x1, .int .i64 x2] 35)))
      have X0 := Lib.hid (show Cells3 (wr.alloc (.cells #[.int .i64 x0, .int .i64 x1, .int .i64 x2] 35)) wr.heap.size x0 x1 x2 from ⟨by simp, by simp, by simp, by simp⟩)
      have NO := Lib.hid (show ¬ O p s wr.heap.size ∧ ¬ O q t wr.heap.size from ⟨fun h => by have := HS.out.c1.lt h; omega, fun h => by have := HS.out.c2.lt h; omega⟩)
      go_upto_block 2 with fail
      go_cut [11, 12, 13, 14, 15, 16, 17, 18, 19, 20, 21, 22] (fun _ _ _ _ _ _ _ _ _ _ _ _ wx => ∃ sz uz Lz, KindSt w.heap.size w wx p sz q uz R Lz)
      case first =>
        by_cases c0 : x0 = 0
        · subst c0
          obtain ⟨vv, hvv⟩ : ∃ vv, vv = (if has L x1 = true then val L x1 else 0) := ⟨_, rfl⟩
          obtain ⟨hh, hhh⟩ : ∃ hh, hh = has L x1 := ⟨_, rfl⟩
          have HV := Lib.hid hvv
          have HHH := Lib.hid hhh
          clear hvv hhh
          go_wp2_with fail
          refine (Go.Proofs.Ytoecclpfgdfpoaa.get_any p s R L x1 _ H0.out.c1 (by omega)).mono ?_
          rintro e w3 ⟨rfl, hc, hkk⟩
          rw [← HV.out, ← HHH.out]
          have H3 := Lib.hid (H0.out.one hc hkk (fun b hb => .inl hb))
          have X3 := Lib.hid (X0.out.kept hkk NO.out.1)
          clear hc hkk
          obtain ⟨bx, y0, y1, y2⟩ := X3.out
          go_wp2_with fail
          refine (name_any x1 _).mono ?_
          rintro e w4 ⟨rfl, hb⟩
          have H4 := Lib.hid (H3.out.fresh hb)
          clear hb y0 y1 y2 bx
          go_wp2_with fail
          refine (get_any q t R L x1 _ H4.out.c2 (by omega)).mono ?_
          rintro e wz ⟨rfl, hc, hkk⟩
          have ST := Lib.hid (H4.out.two_ hc hkk (fun b hb => .inl hb) (by rw [getL_len]; exact hll))
          clear hc hkk H3 X3 H4
          rw [← HV.out, ← HHH.out]
          go_wp2_with fail
          go_meet
          exact ⟨_, _, _, ST.out.fresh (by go_grown)⟩
        · by_cases c1 : x0 = 1 ∨ x0 = 2
          · have HP : Hid (∃ vv hh, (∀ W, Go.Proofs.Ytoecclpfgdfpoaa.Cch W p s R L → Calls Try.prog 15 #[.pointer (some ⟨p, 0, none⟩), .int .i64 x1] W fun e w' => e = .returned (.tuple #[.int .i64 vv, .bool hh]) ∧ Below W.heap.size W w') ∧
                ∀ W, Cch W q t R L → Calls Try.prog 16 #[.pointer (some ⟨q, 0, none⟩), nm x1] W fun e w' => e = .returned (.tuple #[tw vv, .bool hh]) ∧ Below W.heap.size W w') := Lib.hid (by
              cases hh : has L x1
              · exact ⟨0, false, fun W hW => Go.Proofs.Ytoecclpfgdfpoaa.peek_no p s R L x1 W hW (by omega) hh, fun W hW => peek_no q t R L x1 W hW (by omega) hh⟩
              · exact ⟨val L x1, true, fun W hW => Go.Proofs.Ytoecclpfgdfpoaa.peek_yes p s R L x1 W hW (by omega) hh, fun W hW => peek_yes q t R L x1 W hW (by omega) hh⟩)
            obtain ⟨vv, hh, h1, h2⟩ := HP.out
            have HP1 := Lib.hid h1
            have HP2 := Lib.hid h2
            clear h1 h2 HP c0
            rcases c1 with rfl | rfl
            · go_wp2_with fail
              refine (HP1.out _ H0.out.c1).mono ?_
              rintro e w3 ⟨rfl, hb⟩
              have H3 := Lib.hid (H0.out.fresh hb)
              have X3 := Lib.hid (X0.out.fresh hb)
              clear hb
              obtain ⟨bx, y0, y1, y2⟩ := X3.out
              go_wp2_with fail
              refine (name_any x1 _).mono ?_
              rintro e w4 ⟨rfl, hb⟩
              have H4 := Lib.hid (H3.out.fresh hb)
              clear hb y0 y1 y2 bx
              go_wp2_with fail
              refine (HP2.out _ H4.out.c2).mono ?_
              rintro e wz ⟨rfl, hb⟩
              have ST := Lib.hid (H4.out.fresh hb)
              clear hb H3 X3 H4
              go_wp2_with fail
              go_meet
              exact ⟨_, _, _, ST.out.fresh (by go_grown)⟩
            · go_wp2_with fail
              refine (HP1.out _ H0.out.c1).mono ?_
              rintro e w3 ⟨rfl, hb⟩
              have H3 := Lib.hid (H0.out.fresh hb)
              have X3 := Lib.hid (X0.out.fresh hb)
              clear hb
              obtain ⟨bx, y0, y1, y2⟩ := X3.out
              go_wp2_with fail
              refine (name_any x1 _).mono ?_
              rintro e w4 ⟨rfl, hb⟩
              have H4 := Lib.hid (H3.out.fresh hb)
              clear hb y0 y1 y2 bx
              go_wp2_with fail
              refine (HP2.out _ H4.out.c2).mono ?_
              rintro e wz ⟨rfl, hb⟩
              have ST := Lib.hid (H4.out.fresh hb)
              clear hb H3 X3 H4
              go_wp2_with fail
              go_meet
              exact ⟨_, _, _, ST.out.fresh (by go_grown)⟩
          · have d0 : (x0 == 0) = false := by simpa using c0
            have d1 : (x0 == 1) = false := by simpa using fun h => c1 (.inl h)
            have d2 : (x0 == 2) = false := by simpa using fun h => c1 (.inr h)
            clear c0 c1
            cases hg : goneB (R : Int) L x1
            · have HP := Lib.hid (fun W (hW : Cch W q t R L) => put_stay q t R L x1 x2 W hW hll hr1 hr2 hg)
              have HG := Lib.hid hg
              clear hg
              go_wp2_with fail
              refine (Go.Proofs.Ytoecclpfgdfpoaa.put_any p s R L x1 x2 _ H0.out.c1 hll hr1 hr2).mono ?_
              rintro e w3 ⟨s', rfl, hc, hkk, hf⟩
              rw [HG.out]
              have H3 := Lib.hid (H0.out.one hc hkk hf)
              have X3 := Lib.hid (X0.out.kept hkk NO.out.1)
              generalize goneK (R : Int) L x1 = kk at *
              clear hc hkk hf
              obtain ⟨bx, y0, y1, y2⟩ := X3.out
              go_upto_region 13 with fail
              go_cut [21, 22] (fun a b wx => ∃ t' g, a = .pointer (some ⟨g, 0, none⟩) ∧ b = .bool false ∧ Hid (Blk wx g 31 #[.int .i64 0, .string { data := #[] }]) ∧ Hid (KindSt w.heap.size w wx p s' q t' R (putL R L x1 x2)))
              case first =>
                have X3d := Lib.hid (X3.out.fresh (w' := w3.drew) (by go_grown))
                have H3d := Lib.hid (H3.out.fresh (w' := w3.drew) (by go_grown))
                have HN := Lib.hid (show ∀ b, w3.heap.size ≤ b → ¬ O q t b from fun b h1 h2 => by have := H3.out.c2.lt h2; omega)
                have HN2 := Lib.hid (show wr.heap.size < w3.heap.size from X3.out.1)
                have HN5 := Lib.hid (show w.heap.size ≤ w3.heap.size from H3.out.bb.size)
                have NO4 := Lib.hid NO.out.2
                go_region_held3 (fun W => W.cell? ⟨wr.heap.size, 1, none⟩ = some (.int .i64 x1) ∧ W.cell? ⟨wr.heap.size, 2, none⟩ = some (.int .i64 x2)) (first | exact cells_S X3d.out | exact cells_S (X3d.out.fresh ((Below.refl _ _).alloc (Nat.le_refl _) (.cells #[.int .i64 0, .string { data := #[] }] 31))) | exact cells_S X4.out | exact cells_S (X4.out.fresh ((Below.refl _ _).alloc (Nat.le_refl _) (.cells #[.int .i64 0, .string { data := #[] }] 31))) | exact cells_S X5.out | exact cells_S (X5.out.kept (((Kept.refl (fun b => b = w4.heap.size) wz).setCell (p := ⟨w4.heap.size, 0, none⟩) (.inl rfl) _).setCell (p := ⟨w4.heap.size, 1, none⟩) (.inl rfl) _) (by have := HN3.out; omega)) | exact cells_S (X5.out.kept (((Kept.refl (fun b => b = w3.heap.size) wz).setCell (p := ⟨w3.heap.size, 0, none⟩) (.inl rfl) _).setCell (p := ⟨w3.heap.size, 1, none⟩) (.inl rfl) _) (by have := HN3.out; omega)) | exact cells_S (X5.out.fresh (by go_grown))) (first
                  | (go_at_call 14; refine (name_any x1 w3.drew).mono ?_; rintro e w4 ⟨rfl, hb⟩; have H4 := Lib.hid (H3d.out.fresh hb); have HS4 := Lib.hid (show w3.heap.size ≤ w4.heap.size from hb.size); have X4 := Lib.hid (X3d.out.fresh hb); have HN3 := Lib.hid (show wr.heap.size < w3.heap.size ∧ wr.heap.size < w4.heap.size from ⟨HN2.out, Nat.lt_of_lt_of_le HN2.out HS4.out⟩); clear hb)
                  | (go_at_call 14; refine (name_any x1 (w3.drew.alloc (.cells #[.int .i64 0, .string { data := #[] }] 31))).mono ?_; rintro e w4 ⟨rfl, hb⟩; have H4 := Lib.hid ((H3d.out.fresh ((Below.refl _ _).alloc (Nat.le_refl _) (.cells #[.int .i64 0, .string { data := #[] }] 31))).fresh hb); have K4 := Lib.hid (show Blk w4 w3.heap.size 31 #[.int .i64 0, .string { data := #[] }] from (Blk.new w3.drew 31 #[.int .i64 0, .string { data := #[] }]).below hb (by simp)); have HS4 := Lib.hid (show w3.heap.size ≤ w4.heap.size from Nat.le_trans (Nat.le_succ _) (by simpa using hb.size)); have X4 := Lib.hid ((X3d.out.fresh ((Below.refl _ _).alloc (Nat.le_refl _) (.cells #[.int .i64 0, .string { data := #[] }] 31))).fresh hb); have HN3 := Lib.hid (show wr.heap.size < w3.heap.size ∧ wr.heap.size < w4.heap.size from ⟨HN2.out, Nat.lt_of_lt_of_le HN2.out HS4.out⟩); clear hb)
                  | (go_at_call 18; refine (HP.out w4 (by exact H4.out.c2)).mono ?_; rintro e wz ⟨t', rfl, hc, hkk, hf⟩; have ST := Lib.hid (H4.out.two_ hc hkk hf (putL_len hll _ _ hr1)); have X5 := Lib.hid (X4.out.kept hkk NO4.out); (try (have kb := hkk.blk K4.out (HN.out _ (by first | exact Nat.le_refl _ | exact HS4.out)); have kc0 := kb.cell 0; have kc1 := kb.cell 1; have kf0 := kb.frozen 0; have kf1 := kb.frozen 1; simp at kc0 kc1; have KB := Lib.hid kb; clear kb; have NB := Lib.hid (show ¬ O p s' w3.heap.size ∧ ¬ O q t' w3.heap.size from ⟨fun e => by have := H3.out.c1.lt e; have := HS4.out; omega, not_O (HN.out _ (by first | exact Nat.le_refl _ | exact HS4.out)) hf (by first | exact K4.out.lt | simp)⟩))); clear hc hkk hf)
                  | (go_at_call 18; refine (HP.out (w4.alloc (.cells #[.int .i64 0, .string { data := #[] }] 31)) (by exact (H4.out.fresh ((Below.refl _ _).alloc (Nat.le_refl _) (.cells #[.int .i64 0, .string { data := #[] }] 31))).c2)).mono ?_; rintro e wz ⟨t', rfl, hc, hkk, hf⟩; have ST := Lib.hid ((H4.out.fresh ((Below.refl _ _).alloc (Nat.le_refl _) (.cells #[.int .i64 0, .string { data := #[] }] 31))).two_ hc hkk hf (putL_len hll _ _ hr1)); have X5 := Lib.hid ((X4.out.fresh ((Below.refl _ _).alloc (Nat.le_refl _) (.cells #[.int .i64 0, .string { data := #[] }] 31))).kept hkk NO4.out); have kb := hkk.blk (Blk.new w4 31 #[.int .i64 0, .string { data := #[] }]) (HN.out _ (by first | exact Nat.le_refl _ | exact HS4.out)); have kc0 := kb.cell 0; have kc1 := kb.cell 1; have kf0 := kb.frozen 0; have kf1 := kb.frozen 1; simp at kc0 kc1; have KB := Lib.hid kb; clear kb; have NB := Lib.hid (show ¬ O p s' w4.heap.size ∧ ¬ O q t' w4.heap.size from ⟨fun e => by have := H3.out.c1.lt e; have := HS4.out; omega, not_O (HN.out _ (by first | exact Nat.le_refl _ | exact HS4.out)) hf (by first | exact K4.out.lt | simp)⟩); clear hc hkk hf))
                all_goals
                  go_wp2_with fail
                  go_meet
                  first
                    | exact ⟨_, _, rfl, rfl, Lib.hid (blk2 KB.out _ _), Lib.hid (ST.out.lay (by have := HN5.out; have := HS4.out; omega) NB.out.1 NB.out.2 _ _)⟩
                    | exact ⟨_, _, rfl, rfl, Lib.hid (Blk.new _ _ _), Lib.hid (ST.out.fresh ((Below.refl _ _).alloc (Nat.le_refl _) _))⟩
              case rest =>
                obtain ⟨t', g, rfl, rfl, KB, ST⟩ := hcut
                have kc0 := KB.out.cell 0
                have kc1 := KB.out.cell 1
                simp at kc0 kc1
                go_wp2_with fail
                go_quiet (fail)
                go_wp2_with fail
                go_meet
                exact ⟨_, _, _, ST.out.fresh (below_drewN (Below.refl _ _) _)⟩
            · have HP := Lib.hid (fun W (hW : Cch W q t R L) => put_gone q t R L x1 x2 W hW hll hr1 hr2 hg)
              have HG := Lib.hid hg
              clear hg
              go_wp2_with fail
              refine (Go.Proofs.Ytoecclpfgdfpoaa.put_any p s R L x1 x2 _ H0.out.c1 hll hr1 hr2).mono ?_
              rintro e w3 ⟨s', rfl, hc, hkk, hf⟩
              rw [HG.out]
              have H3 := Lib.hid (H0.out.one hc hkk hf)
              have X3 := Lib.hid (X0.out.kept hkk NO.out.1)
              generalize goneK (R : Int) L x1 = kk at *
              clear hc hkk hf
              obtain ⟨bx, y0, y1, y2⟩ := X3.out
              go_upto_region 13 with fail
              go_cut [21, 22] (fun a b wx => ∃ t' g, a = .pointer (some ⟨g, 0, none⟩) ∧ b = .bool true ∧ Hid (Blk wx g 31 #[.int .i64 kk, kstr]) ∧ Hid (KindSt w.heap.size w wx p s' q t' R (putL R L x1 x2)))
              case first =>
                have X3d := Lib.hid (X3.out.fresh (w' := w3.drew) (by go_grown))
                have H3d := Lib.hid (H3.out.fresh (w' := w3.drew) (by go_grown))
                have HN := Lib.hid (show ∀ b, w3.heap.size ≤ b → ¬ O q t b from fun b h1 h2 => by have := H3.out.c2.lt h2; omega)
                have HN2 := Lib.hid (show wr.heap.size < w3.heap.size from X3.out.1)
                have HN5 := Lib.hid (show w.heap.size ≤ w3.heap.size from H3.out.bb.size)
                have NO4 := Lib.hid NO.out.2
                go_region_held3 (fun W => W.cell? ⟨wr.heap.size, 1, none⟩ = some (.int .i64 x1) ∧ W.cell? ⟨wr.heap.size, 2, none⟩ = some (.int .i64 x2)) (first | exact cells_S X3d.out | exact cells_S (X3d.out.fresh ((Below.refl _ _).alloc (Nat.le_refl _) (.cells #[.int .i64 0, .string { data := #[] }] 31))) | exact cells_S X4.out | exact cells_S (X4.out.fresh ((Below.refl _ _).alloc (Nat.le_refl _) (.cells #[.int .i64 0, .string { data := #[] }] 31))) | exact cells_S X5.out | exact cells_S (X5.out.kept (((Kept.refl (fun b => b = w4.heap.size) wz).setCell (p := ⟨w4.heap.size, 0, none⟩) (.inl rfl) _).setCell (p := ⟨w4.heap.size, 1, none⟩) (.inl rfl) _) (by have := HN3.out; omega)) | exact cells_S (X5.out.kept (((Kept.refl (fun b => b = w3.heap.size) wz).setCell (p := ⟨w3.heap.size, 0, none⟩) (.inl rfl) _).setCell (p := ⟨w3.heap.size, 1, none⟩) (.inl rfl) _) (by have := HN3.out; omega)) | exact cells_S (X5.out.fresh (by go_grown))) (first
                  | (go_at_call 14; refine (name_any x1 w3.drew).mono ?_; rintro e w4 ⟨rfl, hb⟩; have H4 := Lib.hid (H3d.out.fresh hb); have HS4 := Lib.hid (show w3.heap.size ≤ w4.heap.size from hb.size); have X4 := Lib.hid (X3d.out.fresh hb); have HN3 := Lib.hid (show wr.heap.size < w3.heap.size ∧ wr.heap.size < w4.heap.size from ⟨HN2.out, Nat.lt_of_lt_of_le HN2.out HS4.out⟩); clear hb)
                  | (go_at_call 14; refine (name_any x1 (w3.drew.alloc (.cells #[.int .i64 0, .string { data := #[] }] 31))).mono ?_; rintro e w4 ⟨rfl, hb⟩; have H4 := Lib.hid ((H3d.out.fresh ((Below.refl _ _).alloc (Nat.le_refl _) (.cells #[.int .i64 0, .string { data := #[] }] 31))).fresh hb); have K4 := Lib.hid (show Blk w4 w3.heap.size 31 #[.int .i64 0, .string { data := #[] }] from (Blk.new w3.drew 31 #[.int .i64 0, .string { data := #[] }]).below hb (by simp)); have HS4 := Lib.hid (show w3.heap.size ≤ w4.heap.size from Nat.le_trans (Nat.le_succ _) (by simpa using hb.size)); have X4 := Lib.hid ((X3d.out.fresh ((Below.refl _ _).alloc (Nat.le_refl _) (.cells #[.int .i64 0, .string { data := #[] }] 31))).fresh hb); have HN3 := Lib.hid (show wr.heap.size < w3.heap.size ∧ wr.heap.size < w4.heap.size from ⟨HN2.out, Nat.lt_of_lt_of_le HN2.out HS4.out⟩); clear hb)
                  | (go_at_call 18; refine (HP.out w4 (by exact H4.out.c2)).mono ?_; rintro e wz ⟨t', rfl, hc, hkk, hf⟩; have ST := Lib.hid (H4.out.two_ hc hkk hf (putL_len hll _ _ hr1)); have X5 := Lib.hid (X4.out.kept hkk NO4.out); (try (have kb := hkk.blk K4.out (HN.out _ (by first | exact Nat.le_refl _ | exact HS4.out)); have kc0 := kb.cell 0; have kc1 := kb.cell 1; have kf0 := kb.frozen 0; have kf1 := kb.frozen 1; simp at kc0 kc1; have KB := Lib.hid kb; clear kb; have NB := Lib.hid (show ¬ O p s' w3.heap.size ∧ ¬ O q t' w3.heap.size from ⟨fun e => by have := H3.out.c1.lt e; have := HS4.out; omega, not_O (HN.out _ (by first | exact Nat.le_refl _ | exact HS4.out)) hf (by first | exact K4.out.lt | simp)⟩))); clear hc hkk hf)
                  | (go_at_call 18; refine (HP.out (w4.alloc (.cells #[.int .i64 0, .string { data := #[] }] 31)) (by exact (H4.out.fresh ((Below.refl _ _).alloc (Nat.le_refl _) (.cells #[.int .i64 0, .string { data := #[] }] 31))).c2)).mono ?_; rintro e wz ⟨t', rfl, hc, hkk, hf⟩; have ST := Lib.hid ((H4.out.fresh ((Below.refl _ _).alloc (Nat.le_refl _) (.cells #[.int .i64 0, .string { data := #[] }] 31))).two_ hc hkk hf (putL_len hll _ _ hr1)); have X5 := Lib.hid ((X4.out.fresh ((Below.refl _ _).alloc (Nat.le_refl _) (.cells #[.int .i64 0, .string { data := #[] }] 31))).kept hkk NO4.out); have kb := hkk.blk (Blk.new w4 31 #[.int .i64 0, .string { data := #[] }]) (HN.out _ (by first | exact Nat.le_refl _ | exact HS4.out)); have kc0 := kb.cell 0; have kc1 := kb.cell 1; have kf0 := kb.frozen 0; have kf1 := kb.frozen 1; simp at kc0 kc1; have KB := Lib.hid kb; clear kb; have NB := Lib.hid (show ¬ O p s' w4.heap.size ∧ ¬ O q t' w4.heap.size from ⟨fun e => by have := H3.out.c1.lt e; have := HS4.out; omega, not_O (HN.out _ (by first | exact Nat.le_refl _ | exact HS4.out)) hf (by first | exact K4.out.lt | simp)⟩); clear hc hkk hf))
                all_goals
                  go_wp2_with fail
                  go_meet
                  first
                    | exact ⟨_, _, rfl, rfl, Lib.hid (blk2 KB.out _ _), Lib.hid (ST.out.lay (by have := HN5.out; have := HS4.out; omega) NB.out.1 NB.out.2 _ _)⟩
                    | exact ⟨_, _, rfl, rfl, Lib.hid (Blk.new _ _ _), Lib.hid (ST.out.fresh ((Below.refl _ _).alloc (Nat.le_refl _) _))⟩
              case rest =>
                obtain ⟨t', g, rfl, rfl, KB, ST⟩ := hcut
                have kc0 := KB.out.cell 0
                have kc1 := KB.out.cell 1
                simp at kc0 kc1
                have KBd := Lib.hid (KB.out.drew)
                have STd := Lib.hid (ST.out.fresh (w' := wc.drew) (by go_grown))
                have gl := KB.out.lt
                go_wp2_with fail
                refine wp_region_noPanic ?_
                refine wp_region_held_lex (fun W => W.cell? ⟨g, 0, none⟩ = some (.int .i64 kk) ∧ W.cell? ⟨g, 1, none⟩ = some kstr) [false, false, false, false, false, false, false, false, true, false, false, false, false, false, false, false, false, false, false, false, false] (by kernel_rfl) (by kernel_rfl) (fun _ _ _ _ _ h => h) ⟨KBd.out.cell 0, KBd.out.cell 1⟩ ?_
                refine held_take (v := ?_) (by rfl) ?_ ?_
                rotate_left
                focus (intro W hSw; (try dsimp only at hSw); go_simp; (try with_reducible rfl))
                (try simp only [Act.put, List.setIfInBounds_toArray, List.set_cons_zero, List.set_cons_succ])
                refine held_take (v := ?_) (by rfl) ?_ ?_
                rotate_left
                focus (intro W hSw; (try dsimp only at hSw); go_simp; (try with_reducible rfl))
                (try simp only [Act.put, List.setIfInBounds_toArray, List.set_cons_zero, List.set_cons_succ])
                refine held_take (v := ?_) (by rfl) ?_ ?_
                rotate_left
                focus (intro W hSw; (try dsimp only at hSw); go_simp; (try with_reducible rfl))
                (try simp only [Act.put, List.setIfInBounds_toArray, List.set_cons_zero, List.set_cons_succ])
                refine held_take (v := ?_) (by rfl) ?_ ?_
                rotate_left
                focus (intro W hSw; (try dsimp only at hSw); go_simp; (try with_reducible rfl))
                (try simp only [Act.put, List.setIfInBounds_toArray, List.set_cons_zero, List.set_cons_succ])
                refine held_take (v := ?_) (by rfl) ?_ ?_
                rotate_left
                focus (intro W hSw; (try dsimp only at hSw); go_simp; (try with_reducible rfl))
                (try simp only [Act.put, List.setIfInBounds_toArray, List.set_cons_zero, List.set_cons_succ])
                refine held_take (v := ?_) (by rfl) ?_ ?_
                rotate_left
                focus (intro W hSw; (try dsimp only at hSw); go_simp; (try with_reducible rfl))
                (try simp only [Act.put, List.setIfInBounds_toArray, List.set_cons_zero, List.set_cons_succ])
                refine held_take (v := ?_) (by rfl) ?_ ?_
                rotate_left
                focus (intro W hSw; (try dsimp only at hSw); go_simp; (try with_reducible rfl))
                (try simp only [Act.put, List.setIfInBounds_toArray, List.set_cons_zero, List.set_cons_succ])
                refine held_take (v := ?_) (by rfl) ?_ ?_
                rotate_left
                focus (intro W hSw; (try dsimp only at hSw); go_simp; (try with_reducible rfl))
                (try simp only [Act.put, List.setIfInBounds_toArray, List.set_cons_zero, List.set_cons_succ])
                refine held_call (by rfl) (fun K' hK => ?_)
                go_simp
                go_at_call 14
                refine (name_any kk _).mono ?_
                rintro e w6 ⟨rfl, hb⟩
                have S6 := Lib.hid (STd.out.fresh hb)
                have K6 := Lib.hid (KBd.out.below hb KBd.out.lt)
                refine hK.out _ _ ⟨K6.out.cell 0, K6.out.cell 1⟩ ?_
                clear hK K' hb
                (try simp only [Act.put, List.setIfInBounds_toArray, List.set_cons_zero, List.set_cons_succ])
                refine held_take (v := ?_) (by rfl) ?_ ?_
                rotate_left
                focus (intro W hSw; (try dsimp only at hSw); go_simp; (try with_reducible rfl))
                (try simp only [Act.put, List.setIfInBounds_toArray, List.set_cons_zero, List.set_cons_succ])
                refine held_take (v := ?_) (by rfl) ?_ ?_
                rotate_left
                focus (intro W hSw; (try dsimp only at hSw); go_simp; (try with_reducible rfl))
                (try simp only [Act.put, List.setIfInBounds_toArray, List.set_cons_zero, List.set_cons_succ])
                refine held_take (v := ?_) (by rfl) ?_ ?_
                rotate_left
                focus (intro W hSw; (try dsimp only at hSw); go_simp; (try with_reducible rfl))
                (try simp only [Act.put, List.setIfInBounds_toArray, List.set_cons_zero, List.set_cons_succ])
                refine held_take (v := ?_) (by rfl) ?_ ?_
                rotate_left
                focus (intro W hSw; (try dsimp only at hSw); go_simp; (try with_reducible rfl))
                (try simp only [Act.put, List.setIfInBounds_toArray, List.set_cons_zero, List.set_cons_succ])
                refine held_take (v := ?_) (by rfl) ?_ ?_
                rotate_left
                focus (intro W hSw; (try dsimp only at hSw); go_simp; (try with_reducible rfl))
                (try simp only [Act.put, List.setIfInBounds_toArray, List.set_cons_zero, List.set_cons_succ])
                refine held_take (v := ?_) (by rfl) ?_ ?_
                rotate_left
                focus (intro W hSw; (try dsimp only at hSw); go_simp; (try with_reducible rfl))
                (try simp only [Act.put, List.setIfInBounds_toArray, List.set_cons_zero, List.set_cons_succ])
                refine held_take (v := ?_) (by rfl) ?_ ?_
                rotate_left
                focus (intro W hSw; (try dsimp only at hSw); go_simp; (try with_reducible rfl))
                (try simp only [Act.put, List.setIfInBounds_toArray, List.set_cons_zero, List.set_cons_succ])
                refine held_skip (by kernel_rfl) ?_
                (try simp only [Act.put, List.setIfInBounds_toArray, List.set_cons_zero, List.set_cons_succ])
                refine held_skip (by kernel_rfl) ?_
                (try simp only [Act.put, List.setIfInBounds_toArray, List.set_cons_zero, List.set_cons_succ])
                refine held_skip (by kernel_rfl) ?_
                (try simp only [Act.put, List.setIfInBounds_toArray, List.set_cons_zero, List.set_cons_succ])
                refine held_take (v := ?_) (by rfl) ?_ ?_
                rotate_left
                focus (intro W hSw; (try dsimp only at hSw); go_simp; (try with_reducible rfl))
                (try simp only [Act.put, List.setIfInBounds_toArray, List.set_cons_zero, List.set_cons_succ])
                refine held_take (v := ?_) (by rfl) ?_ ?_
                rotate_left
                focus (intro W hSw; (try dsimp only at hSw); go_simp; (try with_reducible rfl))
                (try simp only [Act.put, List.setIfInBounds_toArray, List.set_cons_zero, List.set_cons_succ])
                refine held_end ?_
                refine NoPanic.normal ?_
                go_wp2_with fail
                go_meet
                exact ⟨_, _, _, S6.out.fresh (by go_grown)⟩
      case rest =>
        obtain ⟨sz, uz, Lz, hST⟩ := hcut
        have SZ := Lib.hid hST
        have hlz := hST.ln
        clear hST
        go_wp2_with fail
        refine (Go.Proofs.Ytoecclpfgdfpoaa.keys_any p sz R Lz _ SZ.out.c1 (by omega)).mono ?_
        rintro e w5 ⟨ks, rfl, ho, _, hb⟩
        obtain ⟨a5, c5, rfl, _, r5⟩ := row_of_own ho
        have R5 := Lib.hid r5
        have S5 := Lib.hid (SZ.out.fresh hb)
        clear ho hb r5
        rw [keys_len]
        go_wp2_with fail
        refine (keys_any q uz R Lz _ S5.out.c2 (by omega)).mono ?_
        rintro e w6 ⟨b6, rfl, _, r6, hb⟩
        rw [keys_len] at r6 ⊢
        have R6 := Lib.hid r6
        have R56 := Lib.hid (R5.out.fresh hb)
        have S6 := Lib.hid (S5.out.fresh hb)
        clear hb r6
        generalize hn : Lz.length = n at *
        have HNl := Lib.hid (show (keys Lz).length = n by rw [keys_len, hn])
        clear hn
        go_wp2_with fail
        obtain ⟨wo, hwo⟩ : ∃ wo : World, wo = w6 := ⟨_, rfl⟩
        subst hwo
        go_loopw [25] (fun j wq => ∃ m : Nat, m ≤ n ∧ j = .int .i64 m ∧ Hid (Below wo.heap.size wo wq))
          (fun j _ => n - (intOf j).toNat)
        case atStart => exact ⟨0, by omega, rfl, Lib.hid (Below.refl _ _)⟩
        case round =>
          obtain ⟨m, hm, rfl, BQ⟩ := hrel
          by_cases hmt : m < n
          · obtain ⟨b8, o8, rfl, hb8, q8⟩ := R56.out.at_ (show m < (keys Lz).length by rw [HNl.out]; exact hmt)
            have m0 : (0 : Int) ≤ (m : Int) := by omega
            have m1 : (m : Int) < (n : Int) := by omega
            have q9 := R6.out.cell (i := m * 2) (by omega)
            have q10 := R6.out.cell (i := m * 2 + 1) (by omega)
            rw [(nm_at hmt).1] at q9
            rw [(nm_at hmt).2] at q10
            generalize (keys Lz).getD m 0 = key at *
            have hb6 := R6.out.lt
            have F := Lib.hid (fun (W : World) (hW : Below wo.heap.size wo W) => show W.cell? ⟨b8, o8 + m, none⟩ = some (.int .i64 key) ∧ W.cell? ⟨b6, m * 2, none⟩ = some (.int .i64 key) ∧ W.cell? ⟨b6, m * 2 + 1, none⟩ = some kstr from
              ⟨(hW.cell (p := ⟨b8, o8 + m, none⟩) hb8).trans q8, (hW.cell (p := ⟨b6, m * 2, none⟩) hb6).trans q9, (hW.cell (p := ⟨b6, m * 2 + 1, none⟩) hb6).trans q10⟩)
            have BD := Lib.hid BQ.out.drew
            clear q8 q9 q10
            go_wp2_with fail
            go_region_held3 (fun W => W.cell? ⟨b8, o8 + m, none⟩ = some (.int .i64 key) ∧ W.cell? ⟨b6, m * 2, none⟩ = some (.int .i64 key) ∧ W.cell? ⟨b6, m * 2 + 1, none⟩ = some kstr) (first | exact F.out _ BD.out | exact F.out _ B9.out) (first
              | (go_at_call 14; refine (name_any key _).mono ?_; rintro e w9 ⟨rfl, hb⟩; have B9 := Lib.hid (BD.out.trans (hb.mono BD.out.size)); clear hb))
            all_goals
              go_wp2_with fail
              go_roundw
              case rel => exact ⟨m + 1, by omega, by go_num, B9⟩
              case measure => simp [intOf]; omega
          · have S9 := Lib.hid (S6.out.fresh BQ.out)
            go_wp2_with fail
            go_roundw
            case rel => exact ⟨k + 1, sz, uz, Lz, by omega, by go_num, S9.out⟩
            case measure => simp [intOf]; omega
    · have BB := Lib.hid HS.out.bb
      go_wp2_with fail
      refine (awake_any _).mono ?_
      rintro e w3 ⟨rfl, hb⟩
      have B9 := Lib.hid (bl BB.out hb)
      clear hb
      go_wp2
      go_ret
      exact ⟨rfl, B9.out⟩
end Go.Proofs.Ytoecclpfgdfpoaa.K
