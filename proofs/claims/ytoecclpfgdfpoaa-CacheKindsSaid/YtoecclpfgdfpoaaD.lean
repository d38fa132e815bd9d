/- Putting a thing into a cache: what it returns, and what the cache holds then. -/
import Derived.Test.YtoecclpfgdfpoaaC
namespace Go.Proofs.Ytoecclpfgdfpoaa
open Go.RowKit

/-- What Put leaves. -/
def PutPost (p : Nat) (s : Value) (room : Int) (l : List Th) (k v : Int) (w : World) (e : Ending) (w' : World) : Prop :=
  ∃ s', e = .returned (.tuple #[.int .i64 (goneK room l k), .bool (goneB room l k)]) ∧ Cch w' p s' room (putL room l k v) ∧ Kept (O p s) w w' ∧ Fresh w s s'

set_option maxHeartbeats 1000000 in
theorem put_there (p : Nat) (s : Value) (room : Int) (l : List Th) (k v : Int) (w : World) (h : Cch w p s room l) (hl : l.length ≤ 1000000) (hk : has l k = true) :
    Calls Try.prog 17 #[.pointer (some ⟨p, 0, none⟩), .int .i64 k, .int .i64 v] w (PutPost p s room l k v w) := by
  obtain ⟨h1, h2, h3, h4, _⟩ := pos_spec hk
  have HC := Lib.hid (fun W hW => find_some p _ room l k (pos l k) W (h.fresh hW) hl h1 h2 h4)
  have HH := Lib.hid h
  have i0 : (0 : Int) ≤ (pos l k : Int) := by omega
  have HL := Lib.hid (lifted_put (room := room) hk v)
  have HK := Lib.hid hk
  generalize pos l k = r at *
  clear h h2 h3 h4 hk
  go_enter Try.func17, Try.ntmps17
  go_wp2_with fail
  refine (HC.out _ (by go_grown)).mono ?_
  rintro e w1 ⟨rfl, hb⟩
  have HB := Lib.hid (show Below w.heap.size w w1 from bl (by go_grown) hb)
  have q1 := (hb.cell (p := ⟨w.heap.size, 0, none⟩) (by simp)).trans (by simp : _ = some (.int .i64 k))
  have q2 := (hb.cell (p := ⟨w.heap.size, 1, none⟩) (by simp)).trans (by simp : _ = some (.int .i64 v))
  have hs := hb.size
  simp only [World.size_alloc] at hs
  clear hb
  go_wp2_with fail
  refine (lift_any p _ room l r (k, v) _ (HH.out.fresh HB.out) hl h1).mono ?_
  rintro e w2 ⟨rfl, hc, hk2⟩
  have HC2 := Lib.hid hc
  have HK2 := Lib.hid hk2
  clear hc hk2
  go_wp2_with fail
  go_ret2
  refine ⟨s, by unfold goneK goneB; rw [HK.out]; rfl, ?_, ?_, fun b hb => .inl hb⟩
  · rw [← HL.out]
    exact HC2.out
  · exact (Kept.of_fresh HB.out (O p _)).trans HK2.out (fun b hb => .inl (.inr hb))

set_option maxHeartbeats 1000000 in
theorem put_full (p : Nat) (s : Value) (room : Int) (l : List Th) (k v : Int) (w : World) (h : Cch w p s room l) (hl : l.length ≤ 1000000) (hk : has l k = false) (hr : (l.length : Int) = room) (h0 : 0 < l.length) :
    Calls Try.prog 17 #[.pointer (some ⟨p, 0, none⟩), .int .i64 k, .int .i64 v] w (PutPost p s room l k v w) := by
  subst hr
  obtain ⟨g, cap, rfl, hg⟩ := of_pos h.own h0
  have HC := Lib.hid (fun W hW => find_none p _ _ l k W (h.fresh hW) hl (not_has hk))
  have HH := Lib.hid h
  have q0 := h.blk.cell 0
  have q1 := h.blk.cell 1
  obtain ⟨m, hm⟩ : ∃ m, m = l.length - 1 := ⟨_, rfl⟩
  have q2 := (own_cells h.own (show m < l.length by omega)).1
  simp at q0 q1
  have hp := h.blk.lt
  have HL := Lib.hid (show lifted l m (k, v) = putL (l.length : Int) l k v by rw [hm]; exact lifted_full hk rfl h0 v)
  have HG := Lib.hid (show goneK (l.length : Int) l k = (l.getD m (0, 0)).1 by unfold goneK; rw [hk, if_neg (by simp), if_pos rfl, hm])
  have HGB := Lib.hid (show goneB (l.length : Int) l k = true by unfold goneB; rw [hk]; simp)
  generalize (l.getD m (0, 0)).1 = y at *
  have hw0 : IntKind.i64.wrap ((l.length : Int) - 1) = (m : Int) := by rw [IntWalk.i64_in _ (by omega)]; omega
  have m0 : (0 : Int) ≤ (m : Int) := by omega
  have m1 : (m : Int) < (l.length : Int) := by omega
  have hml : m < l.length := by omega
  clear h hk hm
  go_enter Try.func17, Try.ntmps17
  go_wp2_with fail
  refine (HC.out _ (by go_grown)).mono ?_
  rintro e w1 ⟨rfl, hb⟩
  have HB := Lib.hid (show Below w.heap.size w w1 from bl (by go_grown) hb)
  have q0' := (HB.out.cell (p := ⟨p, 0, none⟩) hp).trans q0
  have q1' := (HB.out.cell (p := ⟨p, 1, none⟩) hp).trans q1
  have q2' := (HB.out.cell (p := ⟨g, m * 2, none⟩) hg).trans q2
  have q3 := (hb.cell (p := ⟨w.heap.size, 0, none⟩) (by simp)).trans (by simp : _ = some (.int .i64 k))
  have q4 := (hb.cell (p := ⟨w.heap.size, 1, none⟩) (by simp)).trans (by simp : _ = some (.int .i64 v))
  clear hb
  go_wp2_with fail
  go_quiet (fail)
  go_wp2_with fail
  go_quiet (fail)
  go_wp2_with fail
  go_region_with (go_at_call 38; refine (lift_any p (.slice (some ⟨g, 0, none⟩) l.length cap) l.length l m (k, v) _ (by exact (HH.out.fresh (below_drewN HB.out _))) hl hml).mono ?_; rintro e w2 ⟨rfl, hc, hk2⟩; have HC2 := Lib.hid hc; have HK2 := Lib.hid hk2; clear hc hk2)
  all_goals
    go_wp2_with fail
    go_ret2
    refine ⟨_, by rw [HG.out, HGB.out]; rfl, ?_, ?_, fun b hb => .inl hb⟩
    · rw [← HL.out]
      exact HC2.out
    · exact (Kept.of_fresh (below_drewN HB.out _) (O p _)).trans HK2.out (fun b hb => .inl (.inr hb))

theorem info77z : (Try.prog.info? 77).map (fun i => (i.zero, i.size, i.bytes)) = some (some (.agg #[.int .i64 0, .int .i64 0]), 2, 16) := by kernel_rfl

theorem cells_two (w : World) (t : TypeId) (x y : Value) : ∀ j u, [x, y][j]? = some u → (w.alloc (.cells #[x, y] t)).cell? ((⟨w.heap.size, 0, none⟩ : Addr).add j) = some u := by
  intro j u hu
  rw [Addr.add_lit, Nat.zero_add]
  rw [show (w.alloc (.cells #[x, y] t)).cell? ⟨w.heap.size, j, none⟩ = #[x, y][j]? from (Blk.new w t #[x, y]).cell j]
  rw [← hu, ← Array.getElem?_toList]

theorem drewN_below (w : World) (n : Nat) : Below w.heap.size w (w.drewN n) := ⟨rfl, rfl, rfl, Nat.le_refl _, fun _ _ => rfl⟩
theorem drew_alloc (w : World) (n : Nat) (o : Obj) : Below w.heap.size w ((w.drewN n).alloc o) := (drewN_below w n).alloc (Nat.le_refl _) o

theorem room_mem {X w2 : World} {p : Nat} {s s' : Value} {room : Int} {l : List Th} {k v : Int} (hne : s.ownBlock ≠ some p) (hpX : p < X.heap.size) (KB : Blk w2 p 72 #[.int .i64 room, s])
    (HO : Own w2 77 2 s' (l.length + 1) (flat l ++ [.int .i64 k, .int .i64 v])) (HF : Fresh X s s') : Cch (w2.setCell ⟨p, 1, none⟩ s') p s' room (l ++ [(k, v)]) := by
  have hne' : s'.ownBlock ≠ some p := fun e => (HF p e).elim hne (fun h => by omega)
  refine ⟨by simpa using KB.set_ 1 s', ?_, hne'⟩
  rw [List.length_append, flat_app]
  exact HO.kept (S := fun b => b = p) ((Kept.refl (fun b => b = p) w2).setCell (p := ⟨p, 1, none⟩) (.inl rfl) s') (fun b hb e => hne' (e ▸ hb))

theorem room_kept {w w1 X w2 w3 : World} {p : Nat} {s s' : Value} (h1 : Below w.heap.size w w1) (h2 : Below w1.heap.size w1 X) (h3 : Kept (fun b => s.ownBlock = some b) X w2) (HF : Fresh X s s') {n : Nat}
    (h4 : Kept (fun b => s'.ownBlock = some b) ((w2.setCell ⟨p, 1, none⟩ s').drewN n) w3) : Kept (O p s) w w3 := by
  have hx : Below w.heap.size w X := bl h1 h2
  have k1 : Kept (O p s) w w2 := (Kept.of_fresh hx (O p s)).trans h3 (fun b hb => .inl (.inr hb))
  have k2 : Kept (O p s) w ((w2.setCell ⟨p, 1, none⟩ s').drewN n) := (k1.setCell (p := ⟨p, 1, none⟩) (.inl (.inl rfl)) s').drewN n
  exact k2.trans h4 (fun b hb => (HF b hb).elim (fun e => .inl (.inr e)) (fun e => .inr (Nat.le_trans hx.size e)))

set_option maxHeartbeats 1000000 in
theorem put_room (p : Nat) (s : Value) (room : Int) (l : List Th) (k v : Int) (w : World) (h : Cch w p s room l) (hl : l.length ≤ 999999) (hk : has l k = false) (hr : (l.length : Int) ≠ room) :
    Calls Try.prog 17 #[.pointer (some ⟨p, 0, none⟩), .int .i64 k, .int .i64 v] w (PutPost p s room l k v w) := by
  obtain ⟨i0, hi0, hz0, hz1, hz2⟩ := info_parts info77z
  obtain ⟨a, cap, rfl⟩ := h.own.of_any
  have HC := Lib.hid (fun W hW => find_none p _ _ l k W (h.fresh hW) (by omega) (not_has hk))
  have HH := Lib.hid h
  have q0 := h.blk.cell 0
  have q1 := h.blk.cell 1
  simp at q0 q1
  have hp := h.blk.lt
  have HL := Lib.hid (lifted_room (room := room) hk hr v)
  have HG := Lib.hid (show goneK room l k = 0 by unfold goneK; rw [hk, if_neg (by simp), if_neg hr])
  have HGB := Lib.hid (show goneB room l k = false by unfold goneB; rw [hk]; simp [hr])
  have hb0 : ((l.length : Int) == room) = false := by simpa using hr
  clear h hk hr
  go_enter Try.func17, Try.ntmps17
  go_wp2_with fail
  refine (HC.out _ (by go_grown)).mono ?_
  rintro e w1 ⟨rfl, hb⟩
  have HB := Lib.hid (show Below w.heap.size w w1 from bl (by go_grown) hb)
  have q0' := (HB.out.cell (p := ⟨p, 0, none⟩) hp).trans q0
  have q1' := (HB.out.cell (p := ⟨p, 1, none⟩) hp).trans q1
  have q3 := (hb.cell (p := ⟨w.heap.size, 0, none⟩) (by simp)).trans (by simp : _ = some (.int .i64 k))
  have q4 := (hb.cell (p := ⟨w.heap.size, 1, none⟩) (by simp)).trans (by simp : _ = some (.int .i64 v))
  have hs := hb.size
  simp only [World.size_alloc] at hs
  clear hb
  go_wp2_with fail
  go_quiet (fail)
  go_wp2_with fail
  have HC1 := Lib.hid (HH.out.fresh HB.out)
  have hs1 : w.heap.size < w1.heap.size := by omega
  have hp1 : p < w1.heap.size := by omega
  have HS1 := Lib.hid hs1
  have HP1 := Lib.hid hp1
  have hne3 : ¬ w.heap.size = p := by omega
  have kq : ∀ (m : Nat) (o : Obj), ((w1.drewN m).alloc o).cell? ⟨p, 1, none⟩ = some (.slice a l.length cap) := fun m o => (Below.cell (B := w1.heap.size) ((Below.refl _ (w1.drewN m)).alloc (Nat.le_refl _) o) (p := ⟨p, 1, none⟩) hp1).trans q1'
  have HNB := Lib.hid (show ¬ (Value.slice a l.length cap).ownBlock = some w.heap.size from fun e => by have := HH.out.own.lt e; omega)
  have HQ3 := Lib.hid (show (w1.alloc (.cells #[.int .i64 k, .int .i64 v] 77)).cell? ⟨w.heap.size, 0, none⟩ = some (.int .i64 k) from (Below.cell (B := w1.heap.size) ((Below.refl _ _).alloc (Nat.le_refl _) _) (p := ⟨w.heap.size, 0, none⟩) HS1.out).trans q3)
  have HQ4 := Lib.hid (show (w1.alloc (.cells #[.int .i64 k, .int .i64 v] 77)).cell? ⟨w.heap.size, 1, none⟩ = some (.int .i64 v) from (Below.cell (B := w1.heap.size) ((Below.refl _ _).alloc (Nat.le_refl _) _) (p := ⟨w.heap.size, 1, none⟩) HS1.out).trans q4)
  go_region_law (refine step_append_fresh _ rfl (.tmp 55) (.tmp 57) 70 rfl 77 i0 (.agg #[.int .i64 0, .int .i64 0]) 2 16 Try.underlying70 hi0 hz0 hz1 hz2 rfl (by decide) (.slice a l.length cap) l.length (flat l) (by simp [Act.eval]) (by exact HC1.out.own.drewN _ |>.alloc _) (some ⟨_, 0, none⟩) 1 1 [.int .i64 k, .int .i64 v] (by simp [Act.eval]) rfl (fun _ => ⟨_, rfl, cells_two _ _ _ _⟩) (by simp [Value.oneCell']) (by simp [maxLen]; omega) (by omega) ?_; intro s' w2 ho hg hf; have hk1 := (Kept.refl (fun b => (Value.slice a l.length cap).ownBlock = some b) _).grown hg (fun k e => .inl e); have kb := hk1.blk (by exact HC1.out.blk.alloc _) HC1.out.ne; have k1 := kb.cell 1; have f1 := kb.frozen 1; have k3 := (hk1.cell (g := w.heap.size) (o := 0) (by simp only [World.size_alloc]; exact Nat.lt_succ_of_lt HS1.out) HNB.out).trans HQ3.out; have k4 := (hk1.cell (g := w.heap.size) (o := 1) (by simp only [World.size_alloc]; exact Nat.lt_succ_of_lt HS1.out) HNB.out).trans HQ4.out; simp at k1; obtain ⟨a', cap', rfl⟩ := ho.of_any; have HO := Lib.hid ho; have HG1 := Lib.hid hk1; have HF := Lib.hid hf; have KB := Lib.hid kb; clear ho hg hk1 hf kb)
  all_goals
    have HC3 := Lib.hid (room_mem (k := k) (v := v) HC1.out.ne (by simp only [World.size_alloc]; exact Nat.lt_succ_of_lt HP1.out) KB.out HO.out HF.out)
    have hw1 : IntKind.i64.wrap ((l.length : Int) + 1 - 1) = (l.length : Int) := by rw [IntWalk.i64_in _ (by omega)]; omega
    have hw2 : IntKind.i64.wrap ((l.length : Int)) = (l.length : Int) := by rw [IntWalk.i64_in _ (by omega)]
    go_wp2_with fail
    go_region_with (go_at_call 38; refine (lift_any p (.slice a' (l.length + 1) cap') room (l ++ [(k, v)]) l.length (k, v) _ (by exact (HC3.out.fresh ((Below.refl _ _).drew))) (by simp; omega) (by simp)).mono ?_; rintro e w3 ⟨rfl, hc, hk2⟩; have HC2 := Lib.hid hc; have HK2 := Lib.hid hk2; clear hc hk2)
    all_goals
      go_wp2_with fail
      go_ret2
      refine ⟨.slice a' (l.length + 1) cap', by rw [HG.out, HGB.out]; rfl, ?_, ?_, ?_⟩
      · rw [← HL.out]
        exact HC2.out
      · exact room_kept HB.out (drew_alloc w1 _ _) HG1.out HF.out (by exact HK2.out)
      · exact fun b hb => (HF.out b hb).elim .inl (fun e => .inr (Nat.le_trans HB.out.size (Nat.le_trans (by simp) e)))

theorem put_any (p : Nat) (s : Value) (room : Int) (l : List Th) (k v : Int) (w : World) (h : Cch w p s room l) (hl : (l.length : Int) ≤ room) (h1 : 1 ≤ room) (h2 : room ≤ 16) :
    Calls Try.prog 17 #[.pointer (some ⟨p, 0, none⟩), .int .i64 k, .int .i64 v] w (PutPost p s room l k v w) := by
  cases hk : has l k
  · by_cases hr : (l.length : Int) = room
    · exact put_full p s room l k v w h (by omega) hk hr (by omega)
    · exact put_room p s room l k v w h (by omega) hk hr
  · exact put_there p s room l k v w h (by omega) hk

set_option maxHeartbeats 1000000 in
theorem put_nil (k v : Int) (w : World) :
    Calls Try.prog 17 #[.pointer none, .int .i64 k, .int .i64 v] w fun e w' => e = .returned (.tuple #[.int .i64 0, .bool false]) ∧ Below w.heap.size w w' := by
  go_enter Try.func17, Try.ntmps17
  go_wp2_with fail
  go_ret2
  exact ⟨rfl, by go_grown⟩
end Go.Proofs.Ytoecclpfgdfpoaa
