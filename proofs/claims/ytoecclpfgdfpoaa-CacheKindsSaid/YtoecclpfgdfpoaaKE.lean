/- Putting a thing into a full cache of other keys. -/
import Derived.Test.YtoecclpfgdfpoaaKD
import Derived.Deep.RegionWith
namespace Go.Proofs.Ytoecclpfgdfpoaa.K
open Go.RowKit

set_option maxHeartbeats 1000000 in
theorem put_full (p : Nat) (s : Value) (room : Int) (l : List Th) (k v : Int) (w : World) (h : Cch w p s room l) (hl : l.length ≤ 1000000) (hk : has l k = false) (hr : (l.length : Int) = room) (h0 : 0 < l.length) :
    Calls Try.prog 18 #[.pointer (some ⟨p, 0, none⟩), nm k, tw v] w (PutPost p s room l k v w) := by
  subst hr
  obtain ⟨g, cap, rfl, hg⟩ := of_pos h.own h0
  have HC := Lib.hid (fun W hW => find_none p _ _ l k W (h.fresh hW) hl (not_has hk))
  have HH := Lib.hid h
  have q0 := h.blk.cell 0
  have q1 := h.blk.cell 1
  obtain ⟨m, hm⟩ : ∃ m, m = l.length - 1 := ⟨_, rfl⟩
  obtain ⟨q2, q2s, _, _⟩ := own_cells h.own (show m < l.length by omega)
  simp at q0 q1
  have hp := h.blk.lt
  have HL := Lib.hid (show lifted l m (k, v) = putL (l.length : Int) l k v by rw [hm]; exact lifted_full hk rfl h0 v)
  have HG := Lib.hid (show goneK (l.length : Int) l k = (l.getD m (0, 0)).1 by unfold goneK; rw [hk, if_neg (by simp), if_pos rfl, hm])
  have HGB := Lib.hid (show goneB (l.length : Int) l k = true by unfold goneB; rw [hk]; simp)
  generalize (l.getD m (0, 0)).1 = y at *
  have hw0 : IntKind.i64.wrap ((l.length : Int) - 1) = (m : Int) := by rw [IntWalk.i64_in _ (by omega)]; omega
  have m0 : (0 : Int) ≤ (m : Int) := by omega
  have m1 : (m : Int) < (l.length : Int) := by omega
  have hml : m < l.length := by omega
  clear h hk hm
  go_enter Try.func18, Try.ntmps18
  go_wp2_with fail
  refine (HC.out _ (by go_grown)).mono ?_
  rintro e w1 ⟨rfl, hb⟩
  have HB := Lib.hid (show Below w.heap.size w w1 from bl (by go_grown) hb)
  have q0' := (HB.out.cell (p := ⟨p, 0, none⟩) hp).trans q0
  have q1' := (HB.out.cell (p := ⟨p, 1, none⟩) hp).trans q1
  have q2' := (HB.out.cell (p := ⟨g, m * 4, none⟩) hg).trans q2
  have q2s' := (HB.out.cell (p := ⟨g, m * 4 + 1, none⟩) hg).trans q2s
  obtain ⟨b2, b3, b4, hs⟩ := put_blks hb
  have r0 := b4.cell 0
  have r1 := b4.cell 1
  have r2 := b4.cell 2
  have r3 := b4.cell 3
  have u0 := b3.cell 0
  have u1 := b3.cell 1
  have f0 := b3.frozen 0
  have f1 := b3.frozen 1
  simp at r0 r1 r2 r3 u0 u1
  have K2 := Lib.hid b2
  have K3 := Lib.hid b3
  have K4 := Lib.hid b4
  have HO := Lib.hid (show ∀ b, w.heap.size ≤ b → ¬ (Value.slice (some ⟨g, 0, none⟩) l.length cap).ownBlock = some b from fun b hb e => by have := HH.out.own.lt e; omega)
  have hne1 : ¬ p = w.heap.size + 3 := by omega
  have hne2 : ¬ g = w.heap.size + 3 := by omega
  clear hb b2 b3 b4
  go_wp2_with fail
  go_quiet (fail)
  go_wp2_with fail
  go_region
  all_goals
    go_wp2_with fail
    obtain ⟨wx, hwx⟩ : ∃ wx, wx = ((w1.drewN (nq + 1)).setCell ⟨w.heap.size + 1 + 1 + 1, 0, none⟩ (.int .i64 y)).setCell ⟨w.heap.size + 1 + 1 + 1, 1, none⟩ kstr := ⟨_, rfl⟩
    rw [← hwx]
    have HX := Lib.hid (show Below w.heap.size w wx by rw [hwx]; exact ((below_drewN HB.out _).setCell (by dsimp only; omega) _).setCell (by dsimp only; omega) _)
    have B2 := Lib.hid (show Blk wx (w.heap.size + 2) 31 #[.int .i64 0, .string { data := #[] }] by rw [hwx]; exact ((K2.out.drewN _).far (by dsimp only; omega) _).far (by dsimp only; omega) _)
    have B3 := Lib.hid (show Blk wx (w.heap.size + 3) 31 #[.int .i64 y, kstr] by rw [hwx]; exact ((K3.out.drewN _).set_ 0 _).set_ 1 _)
    have B4 := Lib.hid (show Blk wx (w.heap.size + 4) 81 #[.int .i64 k, kstr, .int .i64 v, .int .i64 v] by rw [hwx]; exact ((K4.out.drewN _).far (by dsimp only; omega) _).far (by dsimp only; omega) _)
    have x1 := (HX.out.cell (p := ⟨p, 1, none⟩) hp).trans q1
    have y0 := B4.out.cell 0
    have y1 := B4.out.cell 1
    have y2 := B4.out.cell 2
    have y3 := B4.out.cell 3
    simp at y0 y1 y2 y3
    clear r0 r1 r2 r3 u0 u1 f0 f1 q0' q1' q2' q2s' hwx
    go_region_with (go_at_call 40; refine (lift_any p (.slice (some ⟨g, 0, none⟩) l.length cap) l.length l m (k, v) _ (by exact (HH.out.fresh (HX.out.drew))) hl hml).mono ?_; rintro e w2 ⟨rfl, hc, hk2⟩; have HC2 := Lib.hid hc; have HK2 := Lib.hid hk2; have b2 := hk2.blk B2.out.drew (HO.out _ (by omega)); have b3 := hk2.blk B3.out.drew (HO.out _ (by omega)); have c0 := b2.cell 0; have c1 := b2.cell 1; have f0 := b2.frozen 0; have f1 := b2.frozen 1; have d0 := b3.cell 0; have d1 := b3.cell 1; simp at c0 c1 d0 d1; clear hc hk2 b2 b3)
    all_goals
      go_wp2_with fail
      refine bodyPost_ret (by rw [results_cell_tmp rfl]; go_simp; first | rfl | (go_simp; rfl)) rfl ?_
      have hfar : ∀ b, O p (.slice (some ⟨g, 0, none⟩) l.length cap) b → ¬ b = w.heap.size + 2 := fun b hb => by have := HH.out.lt hb; omega
      refine ⟨_, by unfold gone; rw [HG.out, HGB.out]; rfl, ?_, ?_, fun b hb => .inl hb⟩
      · rw [← HL.out]
        exact HC2.out.kept (S := fun b => b = w.heap.size + 2) (((Kept.refl (fun b => b = w.heap.size + 2) w2).setCell (p := ⟨w.heap.size + 2, 0, none⟩) (.inl rfl) _).setCell (p := ⟨w.heap.size + 2, 1, none⟩) (.inl rfl) _) hfar
      · exact (((Kept.of_fresh (HX.out.drew) (O p _)).trans HK2.out (fun b hb => .inl (.inr hb))).setCell (p := ⟨w.heap.size + 2, 0, none⟩) (.inr (by simp)) _).setCell (p := ⟨w.heap.size + 2, 1, none⟩) (.inr (by simp)) _
end Go.Proofs.Ytoecclpfgdfpoaa.K
