/- Putting a thing into a cache of other keys: what it returns, and what the cache holds then. -/
import Derived.Test.YtoecclpfgdfpoaaKG
namespace Go.Proofs.Ytoecclpfgdfpoaa.K
open Go.RowKit

/-- No name. -/
abbrev nm0 : Value := .agg #[.int .i64 0, .string { data := #[] }]
/-- What Put returns: the key that went, and whether one went. -/
abbrev gone (room : Int) (l : List Th) (k : Int) : Value := if goneB room l k then nm (goneK room l k) else nm0

theorem put_blks {w w1 : World} {o1 o2 : Obj} {t3 t4 t5 : TypeId} {c3 c4 c5 : Array Value}
    (h : Below (((((w.alloc o1).alloc o2).alloc (.cells c3 t3)).alloc (.cells c4 t4)).alloc (.cells c5 t5)).heap.size (((((w.alloc o1).alloc o2).alloc (.cells c3 t3)).alloc (.cells c4 t4)).alloc (.cells c5 t5)) w1) :
    Blk w1 (w.heap.size + 2) t3 c3 ∧ Blk w1 (w.heap.size + 3) t4 c4 ∧ Blk w1 (w.heap.size + 4) t5 c5 ∧ w.heap.size + 5 ≤ w1.heap.size := by
  have b3 := (((Blk.new ((w.alloc o1).alloc o2) t3 c3).alloc (.cells c4 t4)).alloc (.cells c5 t5)).below h (by simp)
  have b4 := ((Blk.new (((w.alloc o1).alloc o2).alloc (.cells c3 t3)) t4 c4).alloc (.cells c5 t5)).below h (by simp)
  have b5 := (Blk.new ((((w.alloc o1).alloc o2).alloc (.cells c3 t3)).alloc (.cells c4 t4)) t5 c5).below h (by simp)
  have hs := h.size
  simp only [World.size_alloc] at b3 b4 b5 hs
  exact ⟨b3, b4, b5, hs⟩

/-- What Put leaves. -/
def PutPost (p : Nat) (s : Value) (room : Int) (l : List Th) (k v : Int) (w : World) (e : Ending) (w' : World) : Prop :=
  ∃ s', e = .returned (.tuple #[gone room l k, .bool (goneB room l k)]) ∧ Cch w' p s' room (putL room l k v) ∧ Kept (O p s) w w' ∧ Fresh w s s'

set_option maxHeartbeats 1000000 in
theorem put_there (p : Nat) (s : Value) (room : Int) (l : List Th) (k v : Int) (w : World) (h : Cch w p s room l) (hl : l.length ≤ 1000000) (hk : has l k = true) :
    Calls Try.prog 18 #[.pointer (some ⟨p, 0, none⟩), nm k, tw v] w (PutPost p s room l k v w) := by
  obtain ⟨h1, h2, h3, h4, _⟩ := pos_spec hk
  have HC := Lib.hid (fun W hW => find_some p _ room l k (pos l k) W (h.fresh hW) hl h1 h2 h4)
  have HH := Lib.hid h
  have i0 : (0 : Int) ≤ (pos l k : Int) := by omega
  have HL := Lib.hid (lifted_put (room := room) hk v)
  have HK := Lib.hid hk
  generalize pos l k = r at *
  clear h h2 h3 h4 hk
  go_enter Try.func18, Try.ntmps18
  go_wp2_with fail
  refine (HC.out _ (by go_grown)).mono ?_
  rintro e w1 ⟨rfl, hb⟩
  have HB := Lib.hid (show Below w.heap.size w w1 from bl (by go_grown) hb)
  obtain ⟨b2, b3, b4, hs⟩ := put_blks hb
  have q0 := b4.cell 0
  have q1 := b4.cell 1
  have q2 := b4.cell 2
  have q3 := b4.cell 3
  simp at q0 q1 q2 q3
  have K2 := Lib.hid b2
  have K3 := Lib.hid b3
  have HO := Lib.hid (show ∀ b, w.heap.size ≤ b → ¬ s.ownBlock = some b from fun b hb e => by have := HH.out.own.lt e; omega)
  clear hb b2 b3 b4
  go_wp2_with fail
  refine (lift_any p _ room l r (k, v) _ (HH.out.fresh HB.out) hl h1).mono ?_
  rintro e w2 ⟨rfl, hc, hk2⟩
  have b2 := hk2.blk K2.out (HO.out _ (by omega))
  have b3 := hk2.blk K3.out (HO.out _ (by omega))
  have c0 := b2.cell 0
  have c1 := b2.cell 1
  have f0 := b2.frozen 0
  have f1 := b2.frozen 1
  have d0 := b3.cell 0
  have d1 := b3.cell 1
  simp at c0 c1 d0 d1
  have HC2 := Lib.hid hc
  have HK2 := Lib.hid hk2
  clear hc hk2 b2 b3
  go_wp2_with fail
  refine bodyPost_ret (by rw [results_cell_tmp rfl]; go_simp; first | rfl | (go_simp; rfl)) rfl ?_
  have hfar : ∀ b, O p s b → ¬ b = w.heap.size + 2 := fun b hb => by have := HH.out.lt hb; omega
  refine ⟨s, by unfold gone goneB; rw [HK.out]; rfl, ?_, ?_, fun b hb => .inl hb⟩
  · rw [← HL.out]
    exact HC2.out.kept (S := fun b => b = w.heap.size + 2) (((Kept.refl (fun b => b = w.heap.size + 2) w2).setCell (p := ⟨w.heap.size + 2, 0, none⟩) (.inl rfl) _).setCell (p := ⟨w.heap.size + 2, 1, none⟩) (.inl rfl) _) hfar
  · exact (((Kept.of_fresh HB.out (O p _)).trans HK2.out (fun b hb => .inl (.inr hb))).setCell (p := ⟨w.heap.size + 2, 0, none⟩) (.inr (by simp)) _).setCell (p := ⟨w.heap.size + 2, 1, none⟩) (.inr (by simp)) _
end Go.Proofs.Ytoecclpfgdfpoaa.K
