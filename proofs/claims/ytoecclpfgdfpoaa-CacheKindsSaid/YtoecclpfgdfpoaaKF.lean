/- Putting a thing into a cache of other keys that has room; what Put returns in every case. -/
import Derived.Test.YtoecclpfgdfpoaaKE
namespace Go.Proofs.Ytoecclpfgdfpoaa.K
open Go.RowKit

theorem info81z : (Try.prog.info? 81).map (fun i => (i.zero, i.size, i.bytes)) = some (some (.agg #[.int .i64 0, .string { data := #[] }, .int .i64 0, .int .i64 0]), 4, 40) := by kernel_rfl
theorem cells_four (w : World) (t : TypeId) (c0 c1 c2 c3 : Value) : ∀ j u, [c0, c1, c2, c3][j]? = some u → (w.alloc (.cells #[c0, c1, c2, c3] t)).cell? ((⟨w.heap.size, 0, none⟩ : Addr).add j) = some u := by
  intro j u hu
  rw [Addr.add_lit, Nat.zero_add]
  rw [show (w.alloc (.cells #[c0, c1, c2, c3] t)).cell? ⟨w.heap.size, j, none⟩ = #[c0, c1, c2, c3][j]? from (Blk.new w t _).cell j]
  rw [← hu, ← Array.getElem?_toList]
theorem room_mem {X w2 : World} {p : Nat} {s s' : Value} {room : Int} {l : List Th} {k v : Int} (hne : s.ownBlock ≠ some p) (hpX : p < X.heap.size) (KB : Blk w2 p 75 #[.int .i64 room, s])
    (HO : Own w2 81 4 s' (l.length + 1) (flat l ++ [.int .i64 k, kstr, .int .i64 v, .int .i64 v])) (HF : Fresh X s s') : Cch (w2.setCell ⟨p, 1, none⟩ s') p s' room (l ++ [(k, v)]) := by
  have hne' : s'.ownBlock ≠ some p := fun e => (HF p e).elim hne (fun h => by omega)
  refine ⟨by simpa using KB.set_ 1 s', ?_, hne'⟩
  rw [List.length_append, flat_app]
  exact HO.kept (S := fun b => b = p) ((Kept.refl (fun b => b = p) w2).setCell (p := ⟨p, 1, none⟩) (.inl rfl) s') (fun b hb e => hne' (e ▸ hb))

set_option maxHeartbeats 2000000 in
theorem put_room (p : Nat) (s : Value) (room : Int) (l : List Th) (k v : Int) (w : World) (h : Cch w p s room l) (hl : l.length ≤ 999999) (hk : has l k = false) (hr : (l.length : Int) ≠ room) :
    Calls Try.prog 18 #[.pointer (some ⟨p, 0, none⟩), nm k, tw v] w (PutPost p s room l k v w) := by
  obtain ⟨i0, hi0, hz0, hz1, hz2⟩ := info_parts info81z
  obtain ⟨a, cap, rfl⟩ := h.own.of_any
  have HC := Lib.hid (fun W hW => find_none p _ _ l k W (h.fresh hW) (by omega) (not_has hk))
  have HH := Lib.hid h
  have q0 := h.blk.cell 0
  have q1 := h.blk.cell 1
  simp at q0 q1
  have hp := h.blk.lt
  have HL := Lib.hid (lifted_room (room := room) hk hr v)
  have HGB := Lib.hid (show goneB room l k = false by unfold goneB; rw [hk]; simp [hr])
  have hb0 : ((l.length : Int) == room) = false := by simpa using hr
  clear h hk hr
  go_enter Try.func18, Try.ntmps18
  go_wp2_with fail
  refine (HC.out _ (by go_grown)).mono ?_
  rintro e w1 ⟨rfl, hb⟩
  have HB := Lib.hid (show Below w.heap.size w w1 from bl (by go_grown) hb)
  have q0' := (HB.out.cell (p := ⟨p, 0, none⟩) hp).trans q0
  have q1' := (HB.out.cell (p := ⟨p, 1, none⟩) hp).trans q1
  obtain ⟨b2, b3, b4, hs⟩ := put_blks hb
  have r0 := b4.cell 0
  have r1 := b4.cell 1
  have r2 := b4.cell 2
  have r3 := b4.cell 3
  simp at r0 r1 r2 r3
  have K2 := Lib.hid b2
  have K3 := Lib.hid b3
  have K4 := Lib.hid b4
  have HO := Lib.hid (show ∀ b, w.heap.size ≤ b → ¬ (Value.slice a l.length cap).ownBlock = some b from fun b hb e => by have := HH.out.own.lt e; omega)
  clear hb b2 b3 b4
  go_wp2_with fail
  go_quiet (fail)
  go_wp2_with fail
  have HC1 := Lib.hid (HH.out.fresh HB.out)
  have hp1 : p < w1.heap.size := by omega
  have HP1 := Lib.hid hp1
  have hne3 : ¬ w.heap.size + 4 = p := by omega
  have hne4 : ¬ w.heap.size + 1 + 1 + 1 + 1 = p := by omega
  have kq : ∀ (m : Nat) (o : Obj), ((w1.drewN m).alloc o).cell? ⟨p, 1, none⟩ = some (.slice a l.length cap) := fun m o => (Below.cell (B := w1.heap.size) ((Below.refl _ (w1.drewN m)).alloc (Nat.le_refl _) o) (p := ⟨p, 1, none⟩) hp1).trans q1'
  go_region_law (refine step_append_fresh _ rfl (.tmp 55) (.tmp 57) 73 rfl 81 i0 (.agg #[.int .i64 0, .string { data := #[] }, .int .i64 0, .int .i64 0]) 4 40 Try.underlying73 hi0 hz0 hz1 hz2 rfl (by decide) (.slice a l.length cap) l.length (flat l) (by simp [Act.eval]) (by exact HC1.out.own.drewN _ |>.alloc _) (some ⟨_, 0, none⟩) 1 1 [.int .i64 k, kstr, .int .i64 v, .int .i64 v] (by simp [Act.eval]) rfl (fun _ => ⟨_, rfl, cells_four _ _ _ _ _ _⟩) (by simp [Value.oneCell']) (by simp [maxLen]; omega) (by omega) ?_; intro s' w2 ho hg hf; have hk1 := (Kept.refl (fun b => (Value.slice a l.length cap).ownBlock = some b) _).grown hg (fun k e => .inl e); have kb := hk1.blk (by exact HC1.out.blk.alloc _) HC1.out.ne; have k1 := kb.cell 1; have f1 := kb.frozen 1; have b2 := hk1.blk (by exact K2.out.alloc _) (HO.out _ (by omega)); have b3 := hk1.blk (by exact K3.out.alloc _) (HO.out _ (by omega)); have b4 := hk1.blk (by exact K4.out.alloc _) (HO.out _ (by omega)); have y0 := b4.cell 0; have y1 := b4.cell 1; have y2 := b4.cell 2; have y3 := b4.cell 3; simp at k1 y0 y1 y2 y3; obtain ⟨a', cap', rfl⟩ := ho.of_any; have HOw := Lib.hid ho; have HG1 := Lib.hid hk1; have HF := Lib.hid hf; have KB := Lib.hid kb; have B2 := Lib.hid b2; have B3 := Lib.hid b3; clear ho hg hk1 hf kb b2 b3 b4)
  all_goals
    have HC3 := Lib.hid (room_mem (k := k) (v := v) HC1.out.ne (by simp only [World.size_alloc]; exact Nat.lt_succ_of_lt HP1.out) KB.out HOw.out HF.out)
    have hw1 : IntKind.i64.wrap ((l.length : Int) + 1 - 1) = (l.length : Int) := by rw [IntWalk.i64_in _ (by omega)]; omega
    have hw2 : IntKind.i64.wrap ((l.length : Int)) = (l.length : Int) := by rw [IntWalk.i64_in _ (by omega)]
    have HOn := Lib.hid (show ∀ b, w.heap.size ≤ b → b < w1.heap.size → ¬ (Value.slice a' (l.length + 1) cap').ownBlock = some b from fun b h1 h2 e => (HF.out b e).elim (HO.out b h1) (fun q => by simp only [World.size_alloc] at q; have : w1.heap.size ≤ b := Nat.le_trans (Nat.le_succ _) q; omega))
    go_wp2_with fail
    go_region_with (go_at_call 40; refine (lift_any p (.slice a' (l.length + 1) cap') room (l ++ [(k, v)]) l.length (k, v) _ (by exact (HC3.out.fresh ((Below.refl _ _).drew))) (by simp; omega) (by simp)).mono ?_; rintro e w3 ⟨rfl, hc, hk2⟩; have HC2 := Lib.hid hc; have HK2 := Lib.hid hk2; have b2 := hk2.blk (by exact B2.out.far (by dsimp only; omega) _) (HOn.out _ (by omega) (by omega)); have b3 := hk2.blk (by exact B3.out.far (by dsimp only; omega) _) (HOn.out _ (by omega) (by omega)); have c0 := b2.cell 0; have c1 := b2.cell 1; have f0 := b2.frozen 0; have f1 := b2.frozen 1; have d0 := b3.cell 0; have d1 := b3.cell 1; simp at c0 c1 d0 d1; clear hc hk2 b2 b3)
    all_goals
      go_wp2_with fail
      refine bodyPost_ret (by rw [results_cell_tmp rfl]; go_simp; first | rfl | (go_simp; rfl)) rfl ?_
      have hfar : ∀ b, O p (.slice a' (l.length + 1) cap') b → ¬ b = w.heap.size + 2 := fun b hb e => by
        subst e
        rcases hb with e | e
        · omega
        · exact HOn.out _ (by omega) (by omega) e
      refine ⟨.slice a' (l.length + 1) cap', by unfold gone; rw [HGB.out]; rfl, ?_, ?_, ?_⟩
      · rw [← HL.out]
        exact HC2.out.kept (S := fun b => b = w.heap.size + 2) (((Kept.refl (fun b => b = w.heap.size + 2) w3).setCell (p := ⟨w.heap.size + 2, 0, none⟩) (.inl rfl) _).setCell (p := ⟨w.heap.size + 2, 1, none⟩) (.inl rfl) _) hfar
      · exact ((room_kept HB.out (drew_alloc w1 _ _) HG1.out HF.out (by exact HK2.out)).setCell (p := ⟨w.heap.size + 2, 0, none⟩) (.inr (by simp)) _).setCell (p := ⟨w.heap.size + 2, 1, none⟩) (.inr (by simp)) _
      · exact fun b hb => (HF.out b hb).elim .inl (fun e => .inr (Nat.le_trans HB.out.size (Nat.le_trans (by simp) e)))

theorem put_any (p : Nat) (s : Value) (room : Int) (l : List Th) (k v : Int) (w : World) (h : Cch w p s room l) (hl : (l.length : Int) ≤ room) (h1 : 1 ≤ room) (h2 : room ≤ 16) :
    Calls Try.prog 18 #[.pointer (some ⟨p, 0, none⟩), nm k, tw v] w (PutPost p s room l k v w) := by
  cases hk : has l k
  · by_cases hr : (l.length : Int) = room
    · exact put_full p s room l k v w h (by omega) hk hr (by omega)
    · exact put_room p s room l k v w h (by omega) hk hr
  · exact put_there p s room l k v w h (by omega) hk

theorem results_cell1 {fn : Func} {p : Tmp} {ty : TypeId} (h : fn.results = #[.cell p ty]) (tmps : Array Value) (P : Program) (w : World) :
    (results fn tmps).run P w = ((asAddr (tmps.getD p undef)).run P w).andThen fun a w₁ => (loadVar ty a).run P w₁ := by
  simp only [results, h]
  simp [Sem.run_bind, Result.andThen]

set_option maxHeartbeats 1000000 in
theorem name_any (k : Int) (w : World) : Calls Try.prog 14 #[.int .i64 k] w fun e w' => e = .returned (nm k) ∧ Below w.heap.size w w' := by
  go_enter Try.func14, Try.ntmps14
  go_wp2_with fail
  refine bodyPost_ret (by rw [results_cell1 rfl]; go_simp; first | rfl | (go_simp; rfl)) rfl ?_
  exact ⟨rfl, by go_grown⟩
end Go.Proofs.Ytoecclpfgdfpoaa.K
