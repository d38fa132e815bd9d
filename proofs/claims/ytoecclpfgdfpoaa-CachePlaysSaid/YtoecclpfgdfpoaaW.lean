/- The calls on the reference's cache: what each returns, and what it holds then. -/
import Derived.Test.YtoecclpfgdfpoaaU
import Derived.Test.YtoecclpfgdfpoaaV
namespace Go.Proofs.Ytoecclpfgdfpoaa
open Go.RowKit

/-- What a call on the reference's cache leaves: the values that it returns, and the list. -/
def RPost (p : Nat) (s : Value) (room : Int) (l : List Th) (v : Value) (w : World) (e : Ending) (w' : World) : Prop :=
  ∃ s', e = .returned v ∧ Rch w' p s' room l ∧ Kept (O p s) w w' ∧ Fresh w s s'

theorem wo_le (l : List Th) (k : Int) (h : has l k = true) : (wo l k).length ≤ l.length := by have := wo_len h; omega

set_option maxHeartbeats 2000000 in
theorem rget_yes (p : Nat) (s : Value) (room : Int) (l : List Th) (k : Int) (w : World) (h : Rch w p s room l) (hl : l.length ≤ 1000000) (hk : has l k = true) :
    Calls Try.prog 27 #[.pointer (some ⟨p, 0, none⟩), .int .i64 k] w (RPost p s room (getL l k) (.tuple #[.int .i64 (val l k), .bool true]) w) := by
  obtain ⟨h1, h2, h3, h4, h5⟩ := pos_spec hk
  obtain ⟨a, cap, rfl⟩ := h.own.of_any
  have HC := Lib.hid (rfind_some p _ room l k (pos l k) w h hl h1 h2 h4)
  obtain ⟨g, rfl, hg, q2, q1⟩ := rown_at h.own h1
  have HH := Lib.hid h
  have HW := Lib.hid (fun W (hW : Below w.heap.size w W) => by have := without_any p _ room l (pos l k) W (h.fresh hW) hl h1; rw [h5] at this; exact this)
  have q0 := h.blk.cell 1
  rw [h3] at q1
  rw [h2] at q2
  have hp := h.blk.lt
  have i0 : (0 : Int) ≤ (pos l k : Int) := by omega
  have i1 : (pos l k : Int) < (l.length : Int) := by omega
  have HG := Lib.hid (show getL l k = (k, val l k) :: wo l k by unfold getL; rw [if_pos hk])
  have HWL := Lib.hid (show (wo l k).length ≤ 1000000 by have := wo_le l k hk; omega)
  simp at q0
  generalize pos l k = r at *
  generalize val l k = v at *
  generalize wo l k = m at *
  clear h h2 h3 h4 h5 hk
  go_enter Try.func27, Try.ntmps27
  go_wp2_with fail
  refine HC.out.mono ?_
  rintro e w1 ⟨rfl, rfl⟩
  go_wp2_with fail
  have B0 := Lib.hid (show Below w.heap.size w (w.alloc (.cells #[.int .i64 k, .int .i64 v] 62)) from (Below.refl _ w).alloc (Nat.le_refl _) _)
  go_region_with (first
    | (go_at_call 43; refine (HW.out _ (by exact B0.out.drew)).mono ?_; rintro e w2 ⟨t, rfl, ho, hf, hb⟩; obtain ⟨a2, c2, rfl⟩ := ho.of_any; have x1 : w2.cell? ⟨w.heap.size, 0, none⟩ = some (.int .i64 k) := (hb.cell (p := ⟨w.heap.size, 0, none⟩) (by simp)).trans (by simp); have x2 : w2.cell? ⟨w.heap.size, 1, none⟩ = some (.int .i64 v) := (hb.cell (p := ⟨w.heap.size, 1, none⟩) (by simp)).trans (by simp); have HO := Lib.hid ho; have HB := Lib.hid (show Below w.heap.size w w2 from B0.out.drew.trans (hb.mono (by simp))); have HR2 := Lib.hid (HH.out.fresh HB.out); have hs2 : w.heap.size < w2.heap.size := (by have := hb.size; simp at this; omega); clear ho hf hb)
    | (go_at_call 42; refine (first_any p (.slice (some ⟨g, 0, none⟩) l.length cap) room l m (k, v) a2 m.length c2 _ (by exact HR2.out) HWL.out rfl (by exact HO.out)).mono ?_; rintro e w3 ⟨s3, rfl, hr3, hk3, hf3⟩; have x3 : w3.cell? ⟨w.heap.size, 1, none⟩ = some (.int .i64 v) := (hk3.cell hs2 (by omega)).trans x2; have HR3 := Lib.hid hr3; have HK3 := Lib.hid hk3; have HF3 := Lib.hid hf3; clear hr3 hk3 hf3))
  all_goals
    go_wp2_with fail
    go_ret2
    refine ⟨s3, rfl, by rw [HG.out]; exact HR3.out, (Kept.of_fresh HB.out (O p _)).trans HK3.out (fun b hb => .inl (.inl hb)), fun b hb => .inr (Nat.le_trans HB.out.size (HF3.out b hb))⟩

set_option maxHeartbeats 1000000 in
theorem rget_no (p : Nat) (s : Value) (room : Int) (l : List Th) (k : Int) (w : World) (h : Rch w p s room l) (hl : l.length ≤ 1000000) (hk : has l k = false) :
    Calls Try.prog 27 #[.pointer (some ⟨p, 0, none⟩), .int .i64 k] w (RPost p s room (getL l k) (.tuple #[.int .i64 0, .bool false]) w) := by
  have HC := Lib.hid (rfind_none p _ room l k w h hl (not_has hk))
  have HG := Lib.hid (show getL l k = l by unfold getL; rw [hk, if_neg (by simp)])
  have HH := Lib.hid h
  clear h hk
  go_enter Try.func27, Try.ntmps27
  go_wp2_with fail
  refine HC.out.mono ?_
  rintro e w1 ⟨rfl, rfl⟩
  go_wp2_with fail
  go_ret2
  exact ⟨s, rfl, by rw [HG.out]; exact HH.out, Kept.refl _ _, fun b hb => .inl hb⟩

theorem rget_any (p : Nat) (s : Value) (room : Int) (l : List Th) (k : Int) (w : World) (h : Rch w p s room l) (hl : l.length ≤ 1000000) :
    Calls Try.prog 27 #[.pointer (some ⟨p, 0, none⟩), .int .i64 k] w (RPost p s room (getL l k) (.tuple #[.int .i64 (if has l k then val l k else 0), .bool (has l k)]) w) := by
  cases hk : has l k
  · exact rget_no p s room l k w h hl hk
  · exact rget_yes p s room l k w h hl hk

set_option maxHeartbeats 2000000 in
theorem rput_there (p : Nat) (s : Value) (room : Int) (l : List Th) (k v : Int) (w : World) (h : Rch w p s room l) (hl : l.length ≤ 1000000) (hk : has l k = true) :
    Calls Try.prog 33 #[.pointer (some ⟨p, 0, none⟩), .int .i64 k, .int .i64 v] w (RPost p s room (putL room l k v) (.tuple #[.int .i64 (goneK room l k), .bool (goneB room l k)]) w) := by
  obtain ⟨h1, h2, h3, h4, h5⟩ := pos_spec hk
  have HC := Lib.hid (rfind_some p _ room l k (pos l k) w h hl h1 h2 h4)
  have HH := Lib.hid h
  have HW := Lib.hid (fun W (hW : Below w.heap.size w W) => by have := without_any p _ room l (pos l k) W (h.fresh hW) hl h1; rw [h5] at this; exact this)
  have i0 : (0 : Int) ≤ (pos l k : Int) := by omega
  have HG := Lib.hid (show putL room l k v = (k, v) :: wo l k by unfold putL; rw [if_pos hk])
  have HK := Lib.hid hk
  have HWL := Lib.hid (show (wo l k).length ≤ 1000000 by have := wo_le l k hk; omega)
  generalize pos l k = r at *
  generalize wo l k = m at *
  clear h h2 h3 h4 h5 hk
  go_enter Try.func33, Try.ntmps33
  go_wp2_with fail
  refine HC.out.mono ?_
  rintro e w1 ⟨rfl, rfl⟩
  go_wp2_with fail
  refine (HW.out _ (Below.refl _ _)).mono ?_
  rintro e w2 ⟨t, rfl, ho, hf, hb⟩
  obtain ⟨a2, c2, rfl⟩ := ho.of_any
  have HO := Lib.hid ho
  have HB := Lib.hid hb
  have HR2 := Lib.hid (HH.out.fresh hb)
  clear ho hf hb
  go_wp2_with fail
  refine (first_any p s room l m (k, v) a2 m.length c2 _ HR2.out HWL.out rfl HO.out).mono ?_
  rintro e w3 ⟨s3, rfl, hr3, hk3, hf3⟩
  have HR3 := Lib.hid hr3
  have HK3 := Lib.hid hk3
  have HF3 := Lib.hid hf3
  clear hr3 hk3 hf3
  go_wp2_with fail
  go_ret2
  exact ⟨s3, by unfold goneK goneB; rw [HK.out]; rfl, by rw [HG.out]; exact HR3.out, (Kept.of_fresh HB.out (O p _)).trans HK3.out (fun b hb => .inl (.inl hb)), fun b hb => .inr (Nat.le_trans HB.out.size (HF3.out b hb))⟩

set_option maxHeartbeats 2000000 in
theorem rput_room (p : Nat) (s : Value) (room : Int) (l : List Th) (k v : Int) (w : World) (h : Rch w p s room l) (hl : l.length ≤ 1000000) (hk : has l k = false) (hr : (l.length : Int) < room) :
    Calls Try.prog 33 #[.pointer (some ⟨p, 0, none⟩), .int .i64 k, .int .i64 v] w (RPost p s room (putL room l k v) (.tuple #[.int .i64 (goneK room l k), .bool (goneB room l k)]) w) := by
  obtain ⟨a, cap, rfl⟩ := h.own.of_any
  have HC := Lib.hid (rfind_none p _ room l k w h hl (not_has hk))
  have HH := Lib.hid h
  have q0 := h.blk.cell 0
  have q1 := h.blk.cell 1
  simp at q0 q1
  have hne : ¬ (l.length : Int) = room := by omega
  have HG := Lib.hid (show putL room l k v = (k, v) :: l by unfold putL; rw [hk, if_neg (by simp), if_neg hne])
  have HK := Lib.hid (show goneK room l k = 0 ∧ goneB room l k = false by unfold goneK goneB; rw [hk, if_neg (by simp), if_neg hne]; simp [hne])
  clear h hk hne
  go_enter Try.func33, Try.ntmps33
  go_wp2_with fail
  refine HC.out.mono ?_
  rintro e w1 ⟨rfl, rfl⟩
  go_wp2_with fail
  go_quiet (fail)
  go_wp2_with fail
  refine (first_any p (.slice a l.length cap) room l l (k, v) a l.length cap _ (by exact HH.out.fresh (drewN_below w nq)) hl rfl (by exact (HH.out.fresh (drewN_below w nq)).own)).mono ?_
  rintro e w3 ⟨s3, rfl, hr3, hk3, hf3⟩
  have HR3 := Lib.hid hr3
  have HK3 := Lib.hid hk3
  have HF3 := Lib.hid hf3
  clear hr3 hk3 hf3
  go_wp2_with fail
  go_ret2
  exact ⟨s3, by rw [HK.out.1, HK.out.2]; rfl, by rw [HG.out]; exact HR3.out, (Kept.of_fresh (drewN_below w nq) (O p _)).trans HK3.out (fun b hb => .inl (.inl hb)), fun b hb => .inr (HF3.out b hb)⟩

set_option maxHeartbeats 2000000 in
theorem rput_full (p : Nat) (s : Value) (room : Int) (l : List Th) (k v : Int) (w : World) (h : Rch w p s room l) (hl : l.length ≤ 1000000) (hk : has l k = false) (hr : (l.length : Int) = room) (h0 : 0 < l.length) :
    Calls Try.prog 33 #[.pointer (some ⟨p, 0, none⟩), .int .i64 k, .int .i64 v] w (RPost p s room (putL room l k v) (.tuple #[.int .i64 (goneK room l k), .bool (goneB room l k)]) w) := by
  subst hr
  obtain ⟨a, cap, rfl⟩ := h.own.of_any
  have HC := Lib.hid (rfind_none p _ _ l k w h hl (not_has hk))
  have HH := Lib.hid h
  have q0 := h.blk.cell 0
  have q1 := h.blk.cell 1
  simp at q0 q1
  obtain ⟨n, hn⟩ : ∃ n, n = l.length - 1 := ⟨_, rfl⟩
  obtain ⟨g, rfl, hg, q2, _⟩ := rown_at h.own (show n < l.length by omega)
  have HG := Lib.hid (show putL (l.length : Int) l k v = (k, v) :: (l.take n ++ l.drop (n + 1)) by
    have := lifted_full (room := (l.length : Int)) hk rfl h0 v
    unfold lifted at this
    rw [hn]; exact this.symm)
  have HK := Lib.hid (show goneK (l.length : Int) l k = (l.getD n (0, 0)).1 ∧ goneB (l.length : Int) l k = true by unfold goneK goneB; rw [hk, if_neg (by simp), if_pos rfl, hn]; simp)
  have HW := Lib.hid (fun W (hW : Below w.heap.size w W) => without_any p _ (l.length : Int) l n W (h.fresh hW) hl (by omega))
  have HML := Lib.hid (show (l.take n ++ l.drop (n + 1)).length ≤ 1000000 by simp; omega)
  generalize (l.getD n (0, 0)).1 = y at *
  generalize l.take n ++ l.drop (n + 1) = m at *
  have hw0 : IntKind.i64.wrap ((l.length : Int) - 1) = (n : Int) := by rw [IntWalk.i64_in _ (by omega)]; omega
  have m0 : (0 : Int) ≤ (n : Int) := by omega
  have m1 : (n : Int) < (l.length : Int) := by omega
  clear h hk hn
  go_enter Try.func33, Try.ntmps33
  go_wp2_with fail
  refine HC.out.mono ?_
  rintro e w1 ⟨rfl, rfl⟩
  go_wp2_with fail
  go_quiet (fail)
  obtain ⟨nqa, hnqa⟩ : ∃ n, n = nq := ⟨_, rfl⟩
  rw [← hnqa]
  clear hnqa
  go_wp2_with fail
  go_quiet (fail)
  go_wp2_with fail
  have BD := Lib.hid (drewN_below w (nqa + nq))
  refine (HW.out _ BD.out).mono ?_
  rintro e w2 ⟨t, rfl, ho, hf, hb⟩
  obtain ⟨a2, c2, rfl⟩ := ho.of_any
  have HO := Lib.hid ho
  have HB := Lib.hid (show Below w.heap.size w w2 from bl BD.out hb)
  have HR2 := Lib.hid (HH.out.fresh HB.out)
  clear ho hf hb
  go_wp2_with fail
  refine (first_any p (.slice (some ⟨g, 0, none⟩) l.length cap) (l.length : Int) l m (k, v) a2 m.length c2 _ HR2.out HML.out rfl HO.out).mono ?_
  rintro e w3 ⟨s3, rfl, hr3, hk3, hf3⟩
  have HR3 := Lib.hid hr3
  have HK3 := Lib.hid hk3
  have HF3 := Lib.hid hf3
  clear hr3 hk3 hf3
  go_wp2_with fail
  go_ret2
  exact ⟨s3, by rw [HK.out.1, HK.out.2]; rfl, by rw [HG.out]; exact HR3.out, (Kept.of_fresh HB.out (O p _)).trans HK3.out (fun b hb => .inl (.inl hb)), fun b hb => .inr (Nat.le_trans HB.out.size (HF3.out b hb))⟩
end Go.Proofs.Ytoecclpfgdfpoaa
