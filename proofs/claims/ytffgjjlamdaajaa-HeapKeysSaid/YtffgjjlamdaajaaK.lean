/- Which key is less than which: the law on three keys returns true. -/
import Derived.Test.YtffgjjlamdaajaaJ
import Derived.Deep.RegionHeld3
import Derived.BigQuiet
namespace Go.Proofs.Ytffgjjlamdaajaa
open Go.RowKit

theorem blk_of {w w2 : World} {g : Nat} {t : TypeId} {cs : Array Value} (hb : Below w.heap.size w w2) (h : Blk w g t cs) : Blk w2 g t cs := h.below hb h.lt
theorem bl_drew {a b c : World} (h : Below a.heap.size a b) (k : Below b.drew.heap.size b.drew c) : Below a.heap.size a c := bl h.drew k


set_option maxHeartbeats 4000000 in
theorem keys1 (a1 a2 a3 a4 b1 b2 b3 b4 c1 c2 c3 c4 : Int) (w : World) (hx : ltK (a1, a2, a3, a4) (b1, b2, b3, b4) = true) (hy : ltK (b1, b2, b3, b4) (a1, a2, a3, a4) = false) (hz : decide ((a1, a2, a3, a4) = (b1, b2, b3, b4)) = false) (hv : ltK (b1, b2, b3, b4) (c1, c2, c3, c4) = false) :
    Calls Try.prog 3 #[.agg #[.int .u64 a1, .int .u64 a2, .int .i64 a3, .int .i64 a4, .int .u64 b1, .int .u64 b2, .int .i64 b3, .int .i64 b4, .int .u64 c1, .int .u64 c2, .int .i64 c3, .int .i64 c4]] w fun e w' => e = .returned (.bool true) ∧ Below w.heap.size w w' := by
  have he := eqKey (a1, a2, a3, a4) (b1, b2, b3, b4)
  rw [hz] at he
  have haa := ltK_irr (a1, a2, a3, a4)
  clear hz
  go_enter Try.func3, Try.ntmps3
  go_wp2_with fail
  obtain ⟨w4, hw4⟩ : ∃ x, x = (((w.alloc (.cells #[.int .u64 a1, .int .u64 a2, .int .i64 a3, .int .i64 a4, .int .u64 b1, .int .u64 b2, .int .i64 b3, .int .i64 b4, .int .u64 c1, .int .u64 c2, .int .i64 c3, .int .i64 c4] 25)).alloc (.cells #[.int .u64 a1, .int .u64 a2, .int .i64 a3, .int .i64 a4] 24)).alloc (.cells #[.int .u64 b1, .int .u64 b2, .int .i64 b3, .int .i64 b4] 24)).alloc (.cells #[.int .u64 c1, .int .u64 c2, .int .i64 c3, .int .i64 c4] 24) := ⟨_, rfl⟩
  rw [← hw4]
  have HB := Lib.hid (show Below w.heap.size w w4 by rw [hw4]; go_grown)
  have Ba := Lib.hid (show Blk w4 (w.heap.size + 1) 24 #[.int .u64 a1, .int .u64 a2, .int .i64 a3, .int .i64 a4] by rw [hw4]; have h := ((Blk.new (w.alloc (.cells #[.int .u64 a1, .int .u64 a2, .int .i64 a3, .int .i64 a4, .int .u64 b1, .int .u64 b2, .int .i64 b3, .int .i64 b4, .int .u64 c1, .int .u64 c2, .int .i64 c3, .int .i64 c4] 25)) 24 #[.int .u64 a1, .int .u64 a2, .int .i64 a3, .int .i64 a4]).alloc (.cells #[.int .u64 b1, .int .u64 b2, .int .i64 b3, .int .i64 b4] 24)).alloc (.cells #[.int .u64 c1, .int .u64 c2, .int .i64 c3, .int .i64 c4] 24); simp only [World.size_alloc] at h; exact h)
  have Bb := Lib.hid (show Blk w4 (w.heap.size + 1 + 1) 24 #[.int .u64 b1, .int .u64 b2, .int .i64 b3, .int .i64 b4] by rw [hw4]; have h := (Blk.new ((w.alloc (.cells #[.int .u64 a1, .int .u64 a2, .int .i64 a3, .int .i64 a4, .int .u64 b1, .int .u64 b2, .int .i64 b3, .int .i64 b4, .int .u64 c1, .int .u64 c2, .int .i64 c3, .int .i64 c4] 25)).alloc (.cells #[.int .u64 a1, .int .u64 a2, .int .i64 a3, .int .i64 a4] 24)) 24 #[.int .u64 b1, .int .u64 b2, .int .i64 b3, .int .i64 b4]).alloc (.cells #[.int .u64 c1, .int .u64 c2, .int .i64 c3, .int .i64 c4] 24); simp only [World.size_alloc] at h; exact h)
  have Bc := Lib.hid (show Blk w4 (w.heap.size + 1 + 1 + 1) 24 #[.int .u64 c1, .int .u64 c2, .int .i64 c3, .int .i64 c4] by rw [hw4]; have h := (Blk.new (((w.alloc (.cells #[.int .u64 a1, .int .u64 a2, .int .i64 a3, .int .i64 a4, .int .u64 b1, .int .u64 b2, .int .i64 b3, .int .i64 b4, .int .u64 c1, .int .u64 c2, .int .i64 c3, .int .i64 c4] 25)).alloc (.cells #[.int .u64 a1, .int .u64 a2, .int .i64 a3, .int .i64 a4] 24)).alloc (.cells #[.int .u64 b1, .int .u64 b2, .int .i64 b3, .int .i64 b4] 24)) 24 #[.int .u64 c1, .int .u64 c2, .int .i64 c3, .int .i64 c4]); simp only [World.size_alloc] at h; exact h)
  have ca0 : w4.cell? ⟨w.heap.size + 1, 0, none⟩ = some (.int .u64 a1) := Ba.out.cell 0
  have ca1 : w4.cell? ⟨w.heap.size + 1, 1, none⟩ = some (.int .u64 a2) := Ba.out.cell 1
  have ca2 : w4.cell? ⟨w.heap.size + 1, 2, none⟩ = some (.int .i64 a3) := Ba.out.cell 2
  have ca3 : w4.cell? ⟨w.heap.size + 1, 3, none⟩ = some (.int .i64 a4) := Ba.out.cell 3
  have cb0 : w4.cell? ⟨w.heap.size + 1 + 1, 0, none⟩ = some (.int .u64 b1) := Bb.out.cell 0
  have cb1 : w4.cell? ⟨w.heap.size + 1 + 1, 1, none⟩ = some (.int .u64 b2) := Bb.out.cell 1
  have cb2 : w4.cell? ⟨w.heap.size + 1 + 1, 2, none⟩ = some (.int .i64 b3) := Bb.out.cell 2
  have cb3 : w4.cell? ⟨w.heap.size + 1 + 1, 3, none⟩ = some (.int .i64 b4) := Bb.out.cell 3
  have cc0 : w4.cell? ⟨w.heap.size + 1 + 1 + 1, 0, none⟩ = some (.int .u64 c1) := Bc.out.cell 0
  have cc1 : w4.cell? ⟨w.heap.size + 1 + 1 + 1, 1, none⟩ = some (.int .u64 c2) := Bc.out.cell 1
  have cc2 : w4.cell? ⟨w.heap.size + 1 + 1 + 1, 2, none⟩ = some (.int .i64 c3) := Bc.out.cell 2
  have cc3 : w4.cell? ⟨w.heap.size + 1 + 1 + 1, 3, none⟩ = some (.int .i64 c4) := Bc.out.cell 3
  clear hw4
  go_region_held3 (fun W => W.cell? ⟨w.heap.size + 1, 0, none⟩ = some (.int .u64 a1) ∧ W.cell? ⟨w.heap.size + 1, 1, none⟩ = some (.int .u64 a2) ∧ W.cell? ⟨w.heap.size + 1, 2, none⟩ = some (.int .i64 a3) ∧ W.cell? ⟨w.heap.size + 1, 3, none⟩ = some (.int .i64 a4) ∧ W.cell? ⟨w.heap.size + 1 + 1, 0, none⟩ = some (.int .u64 b1) ∧ W.cell? ⟨w.heap.size + 1 + 1, 1, none⟩ = some (.int .u64 b2) ∧ W.cell? ⟨w.heap.size + 1 + 1, 2, none⟩ = some (.int .i64 b3) ∧ W.cell? ⟨w.heap.size + 1 + 1, 3, none⟩ = some (.int .i64 b4)) (first | exact ⟨ca0, ca1, ca2, ca3, cb0, cb1, cb2, cb3⟩ | go_keep)
    (first
      | (go_at_call 9; refine (less_any (_, _, _, _) (_, _, _, _) _).mono ?_; rintro e w5 ⟨rfl, hb⟩; (first | rw [hx] | rw [haa]); have Ba := Lib.hid (blk_of hb Ba.out); have Bb := Lib.hid (blk_of hb Bb.out); have Bc := Lib.hid (blk_of hb Bc.out); have ca0 : w5.cell? ⟨w.heap.size + 1, 0, none⟩ = some (.int .u64 a1) := Ba.out.cell 0; have ca1 : w5.cell? ⟨w.heap.size + 1, 1, none⟩ = some (.int .u64 a2) := Ba.out.cell 1; have ca2 : w5.cell? ⟨w.heap.size + 1, 2, none⟩ = some (.int .i64 a3) := Ba.out.cell 2; have ca3 : w5.cell? ⟨w.heap.size + 1, 3, none⟩ = some (.int .i64 a4) := Ba.out.cell 3; have cb0 : w5.cell? ⟨w.heap.size + 1 + 1, 0, none⟩ = some (.int .u64 b1) := Bb.out.cell 0; have cb1 : w5.cell? ⟨w.heap.size + 1 + 1, 1, none⟩ = some (.int .u64 b2) := Bb.out.cell 1; have cb2 : w5.cell? ⟨w.heap.size + 1 + 1, 2, none⟩ = some (.int .i64 b3) := Bb.out.cell 2; have cb3 : w5.cell? ⟨w.heap.size + 1 + 1, 3, none⟩ = some (.int .i64 b4) := Bb.out.cell 3; have cc0 : w5.cell? ⟨w.heap.size + 1 + 1 + 1, 0, none⟩ = some (.int .u64 c1) := Bc.out.cell 0; have cc1 : w5.cell? ⟨w.heap.size + 1 + 1 + 1, 1, none⟩ = some (.int .u64 c2) := Bc.out.cell 1; have cc2 : w5.cell? ⟨w.heap.size + 1 + 1 + 1, 2, none⟩ = some (.int .i64 c3) := Bc.out.cell 2; have cc3 : w5.cell? ⟨w.heap.size + 1 + 1 + 1, 3, none⟩ = some (.int .i64 c4) := Bc.out.cell 3; have HB := Lib.hid (show Below w.heap.size w w5 by first | exact bl HB.out hb | exact bl_drew HB.out hb); clear hb)
      | (go_at_call 11; refine (plain_any (_, _, _, _) _).mono ?_; rintro e w5 ⟨rfl, hb⟩; have Ba := Lib.hid (blk_of hb Ba.out); have Bb := Lib.hid (blk_of hb Bb.out); have Bc := Lib.hid (blk_of hb Bc.out); have ca0 : w5.cell? ⟨w.heap.size + 1, 0, none⟩ = some (.int .u64 a1) := Ba.out.cell 0; have ca1 : w5.cell? ⟨w.heap.size + 1, 1, none⟩ = some (.int .u64 a2) := Ba.out.cell 1; have ca2 : w5.cell? ⟨w.heap.size + 1, 2, none⟩ = some (.int .i64 a3) := Ba.out.cell 2; have ca3 : w5.cell? ⟨w.heap.size + 1, 3, none⟩ = some (.int .i64 a4) := Ba.out.cell 3; have cb0 : w5.cell? ⟨w.heap.size + 1 + 1, 0, none⟩ = some (.int .u64 b1) := Bb.out.cell 0; have cb1 : w5.cell? ⟨w.heap.size + 1 + 1, 1, none⟩ = some (.int .u64 b2) := Bb.out.cell 1; have cb2 : w5.cell? ⟨w.heap.size + 1 + 1, 2, none⟩ = some (.int .i64 b3) := Bb.out.cell 2; have cb3 : w5.cell? ⟨w.heap.size + 1 + 1, 3, none⟩ = some (.int .i64 b4) := Bb.out.cell 3; have cc0 : w5.cell? ⟨w.heap.size + 1 + 1 + 1, 0, none⟩ = some (.int .u64 c1) := Bc.out.cell 0; have cc1 : w5.cell? ⟨w.heap.size + 1 + 1 + 1, 1, none⟩ = some (.int .u64 c2) := Bc.out.cell 1; have cc2 : w5.cell? ⟨w.heap.size + 1 + 1 + 1, 2, none⟩ = some (.int .i64 c3) := Bc.out.cell 2; have cc3 : w5.cell? ⟨w.heap.size + 1 + 1 + 1, 3, none⟩ = some (.int .i64 c4) := Bc.out.cell 3; have HB := Lib.hid (show Below w.heap.size w w5 by first | exact bl HB.out hb | exact bl_drew HB.out hb); clear hb)
      | (go_at_call 10; refine (refLess_any (_, _, _, _) (_, _, _, _) _).mono ?_; rintro e w5 ⟨rfl, hb⟩; rw [hx]; have Ba := Lib.hid (blk_of hb Ba.out); have Bb := Lib.hid (blk_of hb Bb.out); have Bc := Lib.hid (blk_of hb Bc.out); have ca0 : w5.cell? ⟨w.heap.size + 1, 0, none⟩ = some (.int .u64 a1) := Ba.out.cell 0; have ca1 : w5.cell? ⟨w.heap.size + 1, 1, none⟩ = some (.int .u64 a2) := Ba.out.cell 1; have ca2 : w5.cell? ⟨w.heap.size + 1, 2, none⟩ = some (.int .i64 a3) := Ba.out.cell 2; have ca3 : w5.cell? ⟨w.heap.size + 1, 3, none⟩ = some (.int .i64 a4) := Ba.out.cell 3; have cb0 : w5.cell? ⟨w.heap.size + 1 + 1, 0, none⟩ = some (.int .u64 b1) := Bb.out.cell 0; have cb1 : w5.cell? ⟨w.heap.size + 1 + 1, 1, none⟩ = some (.int .u64 b2) := Bb.out.cell 1; have cb2 : w5.cell? ⟨w.heap.size + 1 + 1, 2, none⟩ = some (.int .i64 b3) := Bb.out.cell 2; have cb3 : w5.cell? ⟨w.heap.size + 1 + 1, 3, none⟩ = some (.int .i64 b4) := Bb.out.cell 3; have cc0 : w5.cell? ⟨w.heap.size + 1 + 1 + 1, 0, none⟩ = some (.int .u64 c1) := Bc.out.cell 0; have cc1 : w5.cell? ⟨w.heap.size + 1 + 1 + 1, 1, none⟩ = some (.int .u64 c2) := Bc.out.cell 1; have cc2 : w5.cell? ⟨w.heap.size + 1 + 1 + 1, 2, none⟩ = some (.int .i64 c3) := Bc.out.cell 2; have cc3 : w5.cell? ⟨w.heap.size + 1 + 1 + 1, 3, none⟩ = some (.int .i64 c4) := Bc.out.cell 3; have HB := Lib.hid (show Below w.heap.size w w5 by first | exact bl HB.out hb | exact bl_drew HB.out hb); clear hb))
  go_wp2_with fail
  refine (less_any (_, _, _, _) (_, _, _, _) _).mono ?_
  rintro e w5 ⟨rfl, hb⟩
  rw [hx]
  have Ba := Lib.hid (blk_of hb Ba.out)
  have Bb := Lib.hid (blk_of hb Bb.out)
  have Bc := Lib.hid (blk_of hb Bc.out)
  have ca0 : w5.cell? ⟨w.heap.size + 1, 0, none⟩ = some (.int .u64 a1) := Ba.out.cell 0
  have ca1 : w5.cell? ⟨w.heap.size + 1, 1, none⟩ = some (.int .u64 a2) := Ba.out.cell 1
  have ca2 : w5.cell? ⟨w.heap.size + 1, 2, none⟩ = some (.int .i64 a3) := Ba.out.cell 2
  have ca3 : w5.cell? ⟨w.heap.size + 1, 3, none⟩ = some (.int .i64 a4) := Ba.out.cell 3
  have cb0 : w5.cell? ⟨w.heap.size + 1 + 1, 0, none⟩ = some (.int .u64 b1) := Bb.out.cell 0
  have cb1 : w5.cell? ⟨w.heap.size + 1 + 1, 1, none⟩ = some (.int .u64 b2) := Bb.out.cell 1
  have cb2 : w5.cell? ⟨w.heap.size + 1 + 1, 2, none⟩ = some (.int .i64 b3) := Bb.out.cell 2
  have cb3 : w5.cell? ⟨w.heap.size + 1 + 1, 3, none⟩ = some (.int .i64 b4) := Bb.out.cell 3
  have cc0 : w5.cell? ⟨w.heap.size + 1 + 1 + 1, 0, none⟩ = some (.int .u64 c1) := Bc.out.cell 0
  have cc1 : w5.cell? ⟨w.heap.size + 1 + 1 + 1, 1, none⟩ = some (.int .u64 c2) := Bc.out.cell 1
  have cc2 : w5.cell? ⟨w.heap.size + 1 + 1 + 1, 2, none⟩ = some (.int .i64 c3) := Bc.out.cell 2
  have cc3 : w5.cell? ⟨w.heap.size + 1 + 1 + 1, 3, none⟩ = some (.int .i64 c4) := Bc.out.cell 3
  have HB := Lib.hid (show Below w.heap.size w w5 by first | exact bl HB.out hb | exact bl_drew HB.out hb)
  clear hb
  go_wp2_with fail
  refine (less_any (_, _, _, _) (_, _, _, _) _).mono ?_
  rintro e w5 ⟨rfl, hb⟩
  rw [hy]
  have Ba := Lib.hid (blk_of hb Ba.out)
  have Bb := Lib.hid (blk_of hb Bb.out)
  have Bc := Lib.hid (blk_of hb Bc.out)
  have ca0 : w5.cell? ⟨w.heap.size + 1, 0, none⟩ = some (.int .u64 a1) := Ba.out.cell 0
  have ca1 : w5.cell? ⟨w.heap.size + 1, 1, none⟩ = some (.int .u64 a2) := Ba.out.cell 1
  have ca2 : w5.cell? ⟨w.heap.size + 1, 2, none⟩ = some (.int .i64 a3) := Ba.out.cell 2
  have ca3 : w5.cell? ⟨w.heap.size + 1, 3, none⟩ = some (.int .i64 a4) := Ba.out.cell 3
  have cb0 : w5.cell? ⟨w.heap.size + 1 + 1, 0, none⟩ = some (.int .u64 b1) := Bb.out.cell 0
  have cb1 : w5.cell? ⟨w.heap.size + 1 + 1, 1, none⟩ = some (.int .u64 b2) := Bb.out.cell 1
  have cb2 : w5.cell? ⟨w.heap.size + 1 + 1, 2, none⟩ = some (.int .i64 b3) := Bb.out.cell 2
  have cb3 : w5.cell? ⟨w.heap.size + 1 + 1, 3, none⟩ = some (.int .i64 b4) := Bb.out.cell 3
  have cc0 : w5.cell? ⟨w.heap.size + 1 + 1 + 1, 0, none⟩ = some (.int .u64 c1) := Bc.out.cell 0
  have cc1 : w5.cell? ⟨w.heap.size + 1 + 1 + 1, 1, none⟩ = some (.int .u64 c2) := Bc.out.cell 1
  have cc2 : w5.cell? ⟨w.heap.size + 1 + 1 + 1, 2, none⟩ = some (.int .i64 c3) := Bc.out.cell 2
  have cc3 : w5.cell? ⟨w.heap.size + 1 + 1 + 1, 3, none⟩ = some (.int .i64 c4) := Bc.out.cell 3
  have HB := Lib.hid (show Below w.heap.size w w5 by first | exact bl HB.out hb | exact bl_drew HB.out hb)
  clear hb
  go_wp2_with fail
  refine (less_any (_, _, _, _) (_, _, _, _) _).mono ?_
  rintro e w5 ⟨rfl, hb⟩
  rw [hv]
  have Ba := Lib.hid (blk_of hb Ba.out)
  have Bb := Lib.hid (blk_of hb Bb.out)
  have Bc := Lib.hid (blk_of hb Bc.out)
  have ca0 : w5.cell? ⟨w.heap.size + 1, 0, none⟩ = some (.int .u64 a1) := Ba.out.cell 0
  have ca1 : w5.cell? ⟨w.heap.size + 1, 1, none⟩ = some (.int .u64 a2) := Ba.out.cell 1
  have ca2 : w5.cell? ⟨w.heap.size + 1, 2, none⟩ = some (.int .i64 a3) := Ba.out.cell 2
  have ca3 : w5.cell? ⟨w.heap.size + 1, 3, none⟩ = some (.int .i64 a4) := Ba.out.cell 3
  have cb0 : w5.cell? ⟨w.heap.size + 1 + 1, 0, none⟩ = some (.int .u64 b1) := Bb.out.cell 0
  have cb1 : w5.cell? ⟨w.heap.size + 1 + 1, 1, none⟩ = some (.int .u64 b2) := Bb.out.cell 1
  have cb2 : w5.cell? ⟨w.heap.size + 1 + 1, 2, none⟩ = some (.int .i64 b3) := Bb.out.cell 2
  have cb3 : w5.cell? ⟨w.heap.size + 1 + 1, 3, none⟩ = some (.int .i64 b4) := Bb.out.cell 3
  have cc0 : w5.cell? ⟨w.heap.size + 1 + 1 + 1, 0, none⟩ = some (.int .u64 c1) := Bc.out.cell 0
  have cc1 : w5.cell? ⟨w.heap.size + 1 + 1 + 1, 1, none⟩ = some (.int .u64 c2) := Bc.out.cell 1
  have cc2 : w5.cell? ⟨w.heap.size + 1 + 1 + 1, 2, none⟩ = some (.int .i64 c3) := Bc.out.cell 2
  have cc3 : w5.cell? ⟨w.heap.size + 1 + 1 + 1, 3, none⟩ = some (.int .i64 c4) := Bc.out.cell 3
  have HB := Lib.hid (show Below w.heap.size w w5 by first | exact bl HB.out hb | exact bl_drew HB.out hb)
  clear hb
  go_wp2_with fail
  refine (awake_true _).mono ?_
  rintro e w6 ⟨rfl, hb⟩
  have HB2 := Lib.hid (bl HB.out hb)
  clear hb
  go_wp2_with fail
  go_ret
  exact ⟨rfl, HB2.out⟩

set_option maxHeartbeats 4000000 in
theorem keys2 (a1 a2 a3 a4 b1 b2 b3 b4 c1 c2 c3 c4 : Int) (w : World) (hx : ltK (a1, a2, a3, a4) (b1, b2, b3, b4) = true) (hy : ltK (b1, b2, b3, b4) (a1, a2, a3, a4) = false) (hz : decide ((a1, a2, a3, a4) = (b1, b2, b3, b4)) = false) (hv : ltK (b1, b2, b3, b4) (c1, c2, c3, c4) = true) (ht : ltK (a1, a2, a3, a4) (c1, c2, c3, c4) = true) :
    Calls Try.prog 3 #[.agg #[.int .u64 a1, .int .u64 a2, .int .i64 a3, .int .i64 a4, .int .u64 b1, .int .u64 b2, .int .i64 b3, .int .i64 b4, .int .u64 c1, .int .u64 c2, .int .i64 c3, .int .i64 c4]] w fun e w' => e = .returned (.bool true) ∧ Below w.heap.size w w' := by
  have he := eqKey (a1, a2, a3, a4) (b1, b2, b3, b4)
  rw [hz] at he
  have haa := ltK_irr (a1, a2, a3, a4)
  clear hz
  go_enter Try.func3, Try.ntmps3
  go_wp2_with fail
  obtain ⟨w4, hw4⟩ : ∃ x, x = (((w.alloc (.cells #[.int .u64 a1, .int .u64 a2, .int .i64 a3, .int .i64 a4, .int .u64 b1, .int .u64 b2, .int .i64 b3, .int .i64 b4, .int .u64 c1, .int .u64 c2, .int .i64 c3, .int .i64 c4] 25)).alloc (.cells #[.int .u64 a1, .int .u64 a2, .int .i64 a3, .int .i64 a4] 24)).alloc (.cells #[.int .u64 b1, .int .u64 b2, .int .i64 b3, .int .i64 b4] 24)).alloc (.cells #[.int .u64 c1, .int .u64 c2, .int .i64 c3, .int .i64 c4] 24) := ⟨_, rfl⟩
  rw [← hw4]
  have HB := Lib.hid (show Below w.heap.size w w4 by rw [hw4]; go_grown)
  have Ba := Lib.hid (show Blk w4 (w.heap.size + 1) 24 #[.int .u64 a1, .int .u64 a2, .int .i64 a3, .int .i64 a4] by rw [hw4]; have h := ((Blk.new (w.alloc (.cells #[.int .u64 a1, .int .u64 a2, .int .i64 a3, .int .i64 a4, .int .u64 b1, .int .u64 b2, .int .i64 b3, .int .i64 b4, .int .u64 c1, .int .u64 c2, .int .i64 c3, .int .i64 c4] 25)) 24 #[.int .u64 a1, .int .u64 a2, .int .i64 a3, .int .i64 a4]).alloc (.cells #[.int .u64 b1, .int .u64 b2, .int .i64 b3, .int .i64 b4] 24)).alloc (.cells #[.int .u64 c1, .int .u64 c2, .int .i64 c3, .int .i64 c4] 24); simp only [World.size_alloc] at h; exact h)
  have Bb := Lib.hid (show Blk w4 (w.heap.size + 1 + 1) 24 #[.int .u64 b1, .int .u64 b2, .int .i64 b3, .int .i64 b4] by rw [hw4]; have h := (Blk.new ((w.alloc (.cells #[.int .u64 a1, .int .u64 a2, .int .i64 a3, .int .i64 a4, .int .u64 b1, .int .u64 b2, .int .i64 b3, .int .i64 b4, .int .u64 c1, .int .u64 c2, .int .i64 c3, .int .i64 c4] 25)).alloc (.cells #[.int .u64 a1, .int .u64 a2, .int .i64 a3, .int .i64 a4] 24)) 24 #[.int .u64 b1, .int .u64 b2, .int .i64 b3, .int .i64 b4]).alloc (.cells #[.int .u64 c1, .int .u64 c2, .int .i64 c3, .int .i64 c4] 24); simp only [World.size_alloc] at h; exact h)
  have Bc := Lib.hid (show Blk w4 (w.heap.size + 1 + 1 + 1) 24 #[.int .u64 c1, .int .u64 c2, .int .i64 c3, .int .i64 c4] by rw [hw4]; have h := (Blk.new (((w.alloc (.cells #[.int .u64 a1, .int .u64 a2, .int .i64 a3, .int .i64 a4, .int .u64 b1, .int .u64 b2, .int .i64 b3, .int .i64 b4, .int .u64 c1, .int .u64 c2, .int .i64 c3, .int .i64 c4] 25)).alloc (.cells #[.int .u64 a1, .int .u64 a2, .int .i64 a3, .int .i64 a4] 24)).alloc (.cells #[.int .u64 b1, .int .u64 b2, .int .i64 b3, .int .i64 b4] 24)) 24 #[.int .u64 c1, .int .u64 c2, .int .i64 c3, .int .i64 c4]); simp only [World.size_alloc] at h; exact h)
  have ca0 : w4.cell? ⟨w.heap.size + 1, 0, none⟩ = some (.int .u64 a1) := Ba.out.cell 0
  have ca1 : w4.cell? ⟨w.heap.size + 1, 1, none⟩ = some (.int .u64 a2) := Ba.out.cell 1
  have ca2 : w4.cell? ⟨w.heap.size + 1, 2, none⟩ = some (.int .i64 a3) := Ba.out.cell 2
  have ca3 : w4.cell? ⟨w.heap.size + 1, 3, none⟩ = some (.int .i64 a4) := Ba.out.cell 3
  have cb0 : w4.cell? ⟨w.heap.size + 1 + 1, 0, none⟩ = some (.int .u64 b1) := Bb.out.cell 0
  have cb1 : w4.cell? ⟨w.heap.size + 1 + 1, 1, none⟩ = some (.int .u64 b2) := Bb.out.cell 1
  have cb2 : w4.cell? ⟨w.heap.size + 1 + 1, 2, none⟩ = some (.int .i64 b3) := Bb.out.cell 2
  have cb3 : w4.cell? ⟨w.heap.size + 1 + 1, 3, none⟩ = some (.int .i64 b4) := Bb.out.cell 3
  have cc0 : w4.cell? ⟨w.heap.size + 1 + 1 + 1, 0, none⟩ = some (.int .u64 c1) := Bc.out.cell 0
  have cc1 : w4.cell? ⟨w.heap.size + 1 + 1 + 1, 1, none⟩ = some (.int .u64 c2) := Bc.out.cell 1
  have cc2 : w4.cell? ⟨w.heap.size + 1 + 1 + 1, 2, none⟩ = some (.int .i64 c3) := Bc.out.cell 2
  have cc3 : w4.cell? ⟨w.heap.size + 1 + 1 + 1, 3, none⟩ = some (.int .i64 c4) := Bc.out.cell 3
  clear hw4
  go_region_held3 (fun W => W.cell? ⟨w.heap.size + 1, 0, none⟩ = some (.int .u64 a1) ∧ W.cell? ⟨w.heap.size + 1, 1, none⟩ = some (.int .u64 a2) ∧ W.cell? ⟨w.heap.size + 1, 2, none⟩ = some (.int .i64 a3) ∧ W.cell? ⟨w.heap.size + 1, 3, none⟩ = some (.int .i64 a4) ∧ W.cell? ⟨w.heap.size + 1 + 1, 0, none⟩ = some (.int .u64 b1) ∧ W.cell? ⟨w.heap.size + 1 + 1, 1, none⟩ = some (.int .u64 b2) ∧ W.cell? ⟨w.heap.size + 1 + 1, 2, none⟩ = some (.int .i64 b3) ∧ W.cell? ⟨w.heap.size + 1 + 1, 3, none⟩ = some (.int .i64 b4)) (first | exact ⟨ca0, ca1, ca2, ca3, cb0, cb1, cb2, cb3⟩ | go_keep)
    (first
      | (go_at_call 9; refine (less_any (_, _, _, _) (_, _, _, _) _).mono ?_; rintro e w5 ⟨rfl, hb⟩; (first | rw [hx] | rw [haa]); have Ba := Lib.hid (blk_of hb Ba.out); have Bb := Lib.hid (blk_of hb Bb.out); have Bc := Lib.hid (blk_of hb Bc.out); have ca0 : w5.cell? ⟨w.heap.size + 1, 0, none⟩ = some (.int .u64 a1) := Ba.out.cell 0; have ca1 : w5.cell? ⟨w.heap.size + 1, 1, none⟩ = some (.int .u64 a2) := Ba.out.cell 1; have ca2 : w5.cell? ⟨w.heap.size + 1, 2, none⟩ = some (.int .i64 a3) := Ba.out.cell 2; have ca3 : w5.cell? ⟨w.heap.size + 1, 3, none⟩ = some (.int .i64 a4) := Ba.out.cell 3; have cb0 : w5.cell? ⟨w.heap.size + 1 + 1, 0, none⟩ = some (.int .u64 b1) := Bb.out.cell 0; have cb1 : w5.cell? ⟨w.heap.size + 1 + 1, 1, none⟩ = some (.int .u64 b2) := Bb.out.cell 1; have cb2 : w5.cell? ⟨w.heap.size + 1 + 1, 2, none⟩ = some (.int .i64 b3) := Bb.out.cell 2; have cb3 : w5.cell? ⟨w.heap.size + 1 + 1, 3, none⟩ = some (.int .i64 b4) := Bb.out.cell 3; have cc0 : w5.cell? ⟨w.heap.size + 1 + 1 + 1, 0, none⟩ = some (.int .u64 c1) := Bc.out.cell 0; have cc1 : w5.cell? ⟨w.heap.size + 1 + 1 + 1, 1, none⟩ = some (.int .u64 c2) := Bc.out.cell 1; have cc2 : w5.cell? ⟨w.heap.size + 1 + 1 + 1, 2, none⟩ = some (.int .i64 c3) := Bc.out.cell 2; have cc3 : w5.cell? ⟨w.heap.size + 1 + 1 + 1, 3, none⟩ = some (.int .i64 c4) := Bc.out.cell 3; have HB := Lib.hid (show Below w.heap.size w w5 by first | exact bl HB.out hb | exact bl_drew HB.out hb); clear hb)
      | (go_at_call 11; refine (plain_any (_, _, _, _) _).mono ?_; rintro e w5 ⟨rfl, hb⟩; have Ba := Lib.hid (blk_of hb Ba.out); have Bb := Lib.hid (blk_of hb Bb.out); have Bc := Lib.hid (blk_of hb Bc.out); have ca0 : w5.cell? ⟨w.heap.size + 1, 0, none⟩ = some (.int .u64 a1) := Ba.out.cell 0; have ca1 : w5.cell? ⟨w.heap.size + 1, 1, none⟩ = some (.int .u64 a2) := Ba.out.cell 1; have ca2 : w5.cell? ⟨w.heap.size + 1, 2, none⟩ = some (.int .i64 a3) := Ba.out.cell 2; have ca3 : w5.cell? ⟨w.heap.size + 1, 3, none⟩ = some (.int .i64 a4) := Ba.out.cell 3; have cb0 : w5.cell? ⟨w.heap.size + 1 + 1, 0, none⟩ = some (.int .u64 b1) := Bb.out.cell 0; have cb1 : w5.cell? ⟨w.heap.size + 1 + 1, 1, none⟩ = some (.int .u64 b2) := Bb.out.cell 1; have cb2 : w5.cell? ⟨w.heap.size + 1 + 1, 2, none⟩ = some (.int .i64 b3) := Bb.out.cell 2; have cb3 : w5.cell? ⟨w.heap.size + 1 + 1, 3, none⟩ = some (.int .i64 b4) := Bb.out.cell 3; have cc0 : w5.cell? ⟨w.heap.size + 1 + 1 + 1, 0, none⟩ = some (.int .u64 c1) := Bc.out.cell 0; have cc1 : w5.cell? ⟨w.heap.size + 1 + 1 + 1, 1, none⟩ = some (.int .u64 c2) := Bc.out.cell 1; have cc2 : w5.cell? ⟨w.heap.size + 1 + 1 + 1, 2, none⟩ = some (.int .i64 c3) := Bc.out.cell 2; have cc3 : w5.cell? ⟨w.heap.size + 1 + 1 + 1, 3, none⟩ = some (.int .i64 c4) := Bc.out.cell 3; have HB := Lib.hid (show Below w.heap.size w w5 by first | exact bl HB.out hb | exact bl_drew HB.out hb); clear hb)
      | (go_at_call 10; refine (refLess_any (_, _, _, _) (_, _, _, _) _).mono ?_; rintro e w5 ⟨rfl, hb⟩; rw [hx]; have Ba := Lib.hid (blk_of hb Ba.out); have Bb := Lib.hid (blk_of hb Bb.out); have Bc := Lib.hid (blk_of hb Bc.out); have ca0 : w5.cell? ⟨w.heap.size + 1, 0, none⟩ = some (.int .u64 a1) := Ba.out.cell 0; have ca1 : w5.cell? ⟨w.heap.size + 1, 1, none⟩ = some (.int .u64 a2) := Ba.out.cell 1; have ca2 : w5.cell? ⟨w.heap.size + 1, 2, none⟩ = some (.int .i64 a3) := Ba.out.cell 2; have ca3 : w5.cell? ⟨w.heap.size + 1, 3, none⟩ = some (.int .i64 a4) := Ba.out.cell 3; have cb0 : w5.cell? ⟨w.heap.size + 1 + 1, 0, none⟩ = some (.int .u64 b1) := Bb.out.cell 0; have cb1 : w5.cell? ⟨w.heap.size + 1 + 1, 1, none⟩ = some (.int .u64 b2) := Bb.out.cell 1; have cb2 : w5.cell? ⟨w.heap.size + 1 + 1, 2, none⟩ = some (.int .i64 b3) := Bb.out.cell 2; have cb3 : w5.cell? ⟨w.heap.size + 1 + 1, 3, none⟩ = some (.int .i64 b4) := Bb.out.cell 3; have cc0 : w5.cell? ⟨w.heap.size + 1 + 1 + 1, 0, none⟩ = some (.int .u64 c1) := Bc.out.cell 0; have cc1 : w5.cell? ⟨w.heap.size + 1 + 1 + 1, 1, none⟩ = some (.int .u64 c2) := Bc.out.cell 1; have cc2 : w5.cell? ⟨w.heap.size + 1 + 1 + 1, 2, none⟩ = some (.int .i64 c3) := Bc.out.cell 2; have cc3 : w5.cell? ⟨w.heap.size + 1 + 1 + 1, 3, none⟩ = some (.int .i64 c4) := Bc.out.cell 3; have HB := Lib.hid (show Below w.heap.size w w5 by first | exact bl HB.out hb | exact bl_drew HB.out hb); clear hb))
  go_wp2_with fail
  refine (less_any (_, _, _, _) (_, _, _, _) _).mono ?_
  rintro e w5 ⟨rfl, hb⟩
  rw [hx]
  have Ba := Lib.hid (blk_of hb Ba.out)
  have Bb := Lib.hid (blk_of hb Bb.out)
  have Bc := Lib.hid (blk_of hb Bc.out)
  have ca0 : w5.cell? ⟨w.heap.size + 1, 0, none⟩ = some (.int .u64 a1) := Ba.out.cell 0
  have ca1 : w5.cell? ⟨w.heap.size + 1, 1, none⟩ = some (.int .u64 a2) := Ba.out.cell 1
  have ca2 : w5.cell? ⟨w.heap.size + 1, 2, none⟩ = some (.int .i64 a3) := Ba.out.cell 2
  have ca3 : w5.cell? ⟨w.heap.size + 1, 3, none⟩ = some (.int .i64 a4) := Ba.out.cell 3
  have cb0 : w5.cell? ⟨w.heap.size + 1 + 1, 0, none⟩ = some (.int .u64 b1) := Bb.out.cell 0
  have cb1 : w5.cell? ⟨w.heap.size + 1 + 1, 1, none⟩ = some (.int .u64 b2) := Bb.out.cell 1
  have cb2 : w5.cell? ⟨w.heap.size + 1 + 1, 2, none⟩ = some (.int .i64 b3) := Bb.out.cell 2
  have cb3 : w5.cell? ⟨w.heap.size + 1 + 1, 3, none⟩ = some (.int .i64 b4) := Bb.out.cell 3
  have cc0 : w5.cell? ⟨w.heap.size + 1 + 1 + 1, 0, none⟩ = some (.int .u64 c1) := Bc.out.cell 0
  have cc1 : w5.cell? ⟨w.heap.size + 1 + 1 + 1, 1, none⟩ = some (.int .u64 c2) := Bc.out.cell 1
  have cc2 : w5.cell? ⟨w.heap.size + 1 + 1 + 1, 2, none⟩ = some (.int .i64 c3) := Bc.out.cell 2
  have cc3 : w5.cell? ⟨w.heap.size + 1 + 1 + 1, 3, none⟩ = some (.int .i64 c4) := Bc.out.cell 3
  have HB := Lib.hid (show Below w.heap.size w w5 by first | exact bl HB.out hb | exact bl_drew HB.out hb)
  clear hb
  go_wp2_with fail
  refine (less_any (_, _, _, _) (_, _, _, _) _).mono ?_
  rintro e w5 ⟨rfl, hb⟩
  rw [hy]
  have Ba := Lib.hid (blk_of hb Ba.out)
  have Bb := Lib.hid (blk_of hb Bb.out)
  have Bc := Lib.hid (blk_of hb Bc.out)
  have ca0 : w5.cell? ⟨w.heap.size + 1, 0, none⟩ = some (.int .u64 a1) := Ba.out.cell 0
  have ca1 : w5.cell? ⟨w.heap.size + 1, 1, none⟩ = some (.int .u64 a2) := Ba.out.cell 1
  have ca2 : w5.cell? ⟨w.heap.size + 1, 2, none⟩ = some (.int .i64 a3) := Ba.out.cell 2
  have ca3 : w5.cell? ⟨w.heap.size + 1, 3, none⟩ = some (.int .i64 a4) := Ba.out.cell 3
  have cb0 : w5.cell? ⟨w.heap.size + 1 + 1, 0, none⟩ = some (.int .u64 b1) := Bb.out.cell 0
  have cb1 : w5.cell? ⟨w.heap.size + 1 + 1, 1, none⟩ = some (.int .u64 b2) := Bb.out.cell 1
  have cb2 : w5.cell? ⟨w.heap.size + 1 + 1, 2, none⟩ = some (.int .i64 b3) := Bb.out.cell 2
  have cb3 : w5.cell? ⟨w.heap.size + 1 + 1, 3, none⟩ = some (.int .i64 b4) := Bb.out.cell 3
  have cc0 : w5.cell? ⟨w.heap.size + 1 + 1 + 1, 0, none⟩ = some (.int .u64 c1) := Bc.out.cell 0
  have cc1 : w5.cell? ⟨w.heap.size + 1 + 1 + 1, 1, none⟩ = some (.int .u64 c2) := Bc.out.cell 1
  have cc2 : w5.cell? ⟨w.heap.size + 1 + 1 + 1, 2, none⟩ = some (.int .i64 c3) := Bc.out.cell 2
  have cc3 : w5.cell? ⟨w.heap.size + 1 + 1 + 1, 3, none⟩ = some (.int .i64 c4) := Bc.out.cell 3
  have HB := Lib.hid (show Below w.heap.size w w5 by first | exact bl HB.out hb | exact bl_drew HB.out hb)
  clear hb
  go_wp2_with fail
  refine (less_any (_, _, _, _) (_, _, _, _) _).mono ?_
  rintro e w5 ⟨rfl, hb⟩
  rw [hv]
  have Ba := Lib.hid (blk_of hb Ba.out)
  have Bb := Lib.hid (blk_of hb Bb.out)
  have Bc := Lib.hid (blk_of hb Bc.out)
  have ca0 : w5.cell? ⟨w.heap.size + 1, 0, none⟩ = some (.int .u64 a1) := Ba.out.cell 0
  have ca1 : w5.cell? ⟨w.heap.size + 1, 1, none⟩ = some (.int .u64 a2) := Ba.out.cell 1
  have ca2 : w5.cell? ⟨w.heap.size + 1, 2, none⟩ = some (.int .i64 a3) := Ba.out.cell 2
  have ca3 : w5.cell? ⟨w.heap.size + 1, 3, none⟩ = some (.int .i64 a4) := Ba.out.cell 3
  have cb0 : w5.cell? ⟨w.heap.size + 1 + 1, 0, none⟩ = some (.int .u64 b1) := Bb.out.cell 0
  have cb1 : w5.cell? ⟨w.heap.size + 1 + 1, 1, none⟩ = some (.int .u64 b2) := Bb.out.cell 1
  have cb2 : w5.cell? ⟨w.heap.size + 1 + 1, 2, none⟩ = some (.int .i64 b3) := Bb.out.cell 2
  have cb3 : w5.cell? ⟨w.heap.size + 1 + 1, 3, none⟩ = some (.int .i64 b4) := Bb.out.cell 3
  have cc0 : w5.cell? ⟨w.heap.size + 1 + 1 + 1, 0, none⟩ = some (.int .u64 c1) := Bc.out.cell 0
  have cc1 : w5.cell? ⟨w.heap.size + 1 + 1 + 1, 1, none⟩ = some (.int .u64 c2) := Bc.out.cell 1
  have cc2 : w5.cell? ⟨w.heap.size + 1 + 1 + 1, 2, none⟩ = some (.int .i64 c3) := Bc.out.cell 2
  have cc3 : w5.cell? ⟨w.heap.size + 1 + 1 + 1, 3, none⟩ = some (.int .i64 c4) := Bc.out.cell 3
  have HB := Lib.hid (show Below w.heap.size w w5 by first | exact bl HB.out hb | exact bl_drew HB.out hb)
  clear hb
  go_wp2_with fail
  refine (less_any (_, _, _, _) (_, _, _, _) _).mono ?_
  rintro e w5 ⟨rfl, hb⟩
  rw [ht]
  have Ba := Lib.hid (blk_of hb Ba.out)
  have Bb := Lib.hid (blk_of hb Bb.out)
  have Bc := Lib.hid (blk_of hb Bc.out)
  have ca0 : w5.cell? ⟨w.heap.size + 1, 0, none⟩ = some (.int .u64 a1) := Ba.out.cell 0
  have ca1 : w5.cell? ⟨w.heap.size + 1, 1, none⟩ = some (.int .u64 a2) := Ba.out.cell 1
  have ca2 : w5.cell? ⟨w.heap.size + 1, 2, none⟩ = some (.int .i64 a3) := Ba.out.cell 2
  have ca3 : w5.cell? ⟨w.heap.size + 1, 3, none⟩ = some (.int .i64 a4) := Ba.out.cell 3
  have cb0 : w5.cell? ⟨w.heap.size + 1 + 1, 0, none⟩ = some (.int .u64 b1) := Bb.out.cell 0
  have cb1 : w5.cell? ⟨w.heap.size + 1 + 1, 1, none⟩ = some (.int .u64 b2) := Bb.out.cell 1
  have cb2 : w5.cell? ⟨w.heap.size + 1 + 1, 2, none⟩ = some (.int .i64 b3) := Bb.out.cell 2
  have cb3 : w5.cell? ⟨w.heap.size + 1 + 1, 3, none⟩ = some (.int .i64 b4) := Bb.out.cell 3
  have cc0 : w5.cell? ⟨w.heap.size + 1 + 1 + 1, 0, none⟩ = some (.int .u64 c1) := Bc.out.cell 0
  have cc1 : w5.cell? ⟨w.heap.size + 1 + 1 + 1, 1, none⟩ = some (.int .u64 c2) := Bc.out.cell 1
  have cc2 : w5.cell? ⟨w.heap.size + 1 + 1 + 1, 2, none⟩ = some (.int .i64 c3) := Bc.out.cell 2
  have cc3 : w5.cell? ⟨w.heap.size + 1 + 1 + 1, 3, none⟩ = some (.int .i64 c4) := Bc.out.cell 3
  have HB := Lib.hid (show Below w.heap.size w w5 by first | exact bl HB.out hb | exact bl_drew HB.out hb)
  clear hb
  go_wp2_with fail
  refine (awake_true _).mono ?_
  rintro e w6 ⟨rfl, hb⟩
  have HB2 := Lib.hid (bl HB.out hb)
  clear hb
  go_wp2_with fail
  go_ret
  exact ⟨rfl, HB2.out⟩

set_option maxHeartbeats 4000000 in
theorem keys3 (a1 a2 a3 a4 b1 b2 b3 b4 c1 c2 c3 c4 : Int) (w : World) (hx : ltK (a1, a2, a3, a4) (b1, b2, b3, b4) = false) (hy : ltK (b1, b2, b3, b4) (a1, a2, a3, a4) = true) (hz : decide ((a1, a2, a3, a4) = (b1, b2, b3, b4)) = false) :
    Calls Try.prog 3 #[.agg #[.int .u64 a1, .int .u64 a2, .int .i64 a3, .int .i64 a4, .int .u64 b1, .int .u64 b2, .int .i64 b3, .int .i64 b4, .int .u64 c1, .int .u64 c2, .int .i64 c3, .int .i64 c4]] w fun e w' => e = .returned (.bool true) ∧ Below w.heap.size w w' := by
  have he := eqKey (a1, a2, a3, a4) (b1, b2, b3, b4)
  rw [hz] at he
  have haa := ltK_irr (a1, a2, a3, a4)
  clear hz
  go_enter Try.func3, Try.ntmps3
  go_wp2_with fail
  obtain ⟨w4, hw4⟩ : ∃ x, x = (((w.alloc (.cells #[.int .u64 a1, .int .u64 a2, .int .i64 a3, .int .i64 a4, .int .u64 b1, .int .u64 b2, .int .i64 b3, .int .i64 b4, .int .u64 c1, .int .u64 c2, .int .i64 c3, .int .i64 c4] 25)).alloc (.cells #[.int .u64 a1, .int .u64 a2, .int .i64 a3, .int .i64 a4] 24)).alloc (.cells #[.int .u64 b1, .int .u64 b2, .int .i64 b3, .int .i64 b4] 24)).alloc (.cells #[.int .u64 c1, .int .u64 c2, .int .i64 c3, .int .i64 c4] 24) := ⟨_, rfl⟩
  rw [← hw4]
  have HB := Lib.hid (show Below w.heap.size w w4 by rw [hw4]; go_grown)
  have Ba := Lib.hid (show Blk w4 (w.heap.size + 1) 24 #[.int .u64 a1, .int .u64 a2, .int .i64 a3, .int .i64 a4] by rw [hw4]; have h := ((Blk.new (w.alloc (.cells #[.int .u64 a1, .int .u64 a2, .int .i64 a3, .int .i64 a4, .int .u64 b1, .int .u64 b2, .int .i64 b3, .int .i64 b4, .int .u64 c1, .int .u64 c2, .int .i64 c3, .int .i64 c4] 25)) 24 #[.int .u64 a1, .int .u64 a2, .int .i64 a3, .int .i64 a4]).alloc (.cells #[.int .u64 b1, .int .u64 b2, .int .i64 b3, .int .i64 b4] 24)).alloc (.cells #[.int .u64 c1, .int .u64 c2, .int .i64 c3, .int .i64 c4] 24); simp only [World.size_alloc] at h; exact h)
  have Bb := Lib.hid (show Blk w4 (w.heap.size + 1 + 1) 24 #[.int .u64 b1, .int .u64 b2, .int .i64 b3, .int .i64 b4] by rw [hw4]; have h := (Blk.new ((w.alloc (.cells #[.int .u64 a1, .int .u64 a2, .int .i64 a3, .int .i64 a4, .int .u64 b1, .int .u64 b2, .int .i64 b3, .int .i64 b4, .int .u64 c1, .int .u64 c2, .int .i64 c3, .int .i64 c4] 25)).alloc (.cells #[.int .u64 a1, .int .u64 a2, .int .i64 a3, .int .i64 a4] 24)) 24 #[.int .u64 b1, .int .u64 b2, .int .i64 b3, .int .i64 b4]).alloc (.cells #[.int .u64 c1, .int .u64 c2, .int .i64 c3, .int .i64 c4] 24); simp only [World.size_alloc] at h; exact h)
  have Bc := Lib.hid (show Blk w4 (w.heap.size + 1 + 1 + 1) 24 #[.int .u64 c1, .int .u64 c2, .int .i64 c3, .int .i64 c4] by rw [hw4]; have h := (Blk.new (((w.alloc (.cells #[.int .u64 a1, .int .u64 a2, .int .i64 a3, .int .i64 a4, .int .u64 b1, .int .u64 b2, .int .i64 b3, .int .i64 b4, .int .u64 c1, .int .u64 c2, .int .i64 c3, .int .i64 c4] 25)).alloc (.cells #[.int .u64 a1, .int .u64 a2, .int .i64 a3, .int .i64 a4] 24)).alloc (.cells #[.int .u64 b1, .int .u64 b2, .int .i64 b3, .int .i64 b4] 24)) 24 #[.int .u64 c1, .int .u64 c2, .int .i64 c3, .int .i64 c4]); simp only [World.size_alloc] at h; exact h)
  have ca0 : w4.cell? ⟨w.heap.size + 1, 0, none⟩ = some (.int .u64 a1) := Ba.out.cell 0
  have ca1 : w4.cell? ⟨w.heap.size + 1, 1, none⟩ = some (.int .u64 a2) := Ba.out.cell 1
  have ca2 : w4.cell? ⟨w.heap.size + 1, 2, none⟩ = some (.int .i64 a3) := Ba.out.cell 2
  have ca3 : w4.cell? ⟨w.heap.size + 1, 3, none⟩ = some (.int .i64 a4) := Ba.out.cell 3
  have cb0 : w4.cell? ⟨w.heap.size + 1 + 1, 0, none⟩ = some (.int .u64 b1) := Bb.out.cell 0
  have cb1 : w4.cell? ⟨w.heap.size + 1 + 1, 1, none⟩ = some (.int .u64 b2) := Bb.out.cell 1
  have cb2 : w4.cell? ⟨w.heap.size + 1 + 1, 2, none⟩ = some (.int .i64 b3) := Bb.out.cell 2
  have cb3 : w4.cell? ⟨w.heap.size + 1 + 1, 3, none⟩ = some (.int .i64 b4) := Bb.out.cell 3
  have cc0 : w4.cell? ⟨w.heap.size + 1 + 1 + 1, 0, none⟩ = some (.int .u64 c1) := Bc.out.cell 0
  have cc1 : w4.cell? ⟨w.heap.size + 1 + 1 + 1, 1, none⟩ = some (.int .u64 c2) := Bc.out.cell 1
  have cc2 : w4.cell? ⟨w.heap.size + 1 + 1 + 1, 2, none⟩ = some (.int .i64 c3) := Bc.out.cell 2
  have cc3 : w4.cell? ⟨w.heap.size + 1 + 1 + 1, 3, none⟩ = some (.int .i64 c4) := Bc.out.cell 3
  clear hw4
  go_region_held3 (fun W => W.cell? ⟨w.heap.size + 1, 0, none⟩ = some (.int .u64 a1) ∧ W.cell? ⟨w.heap.size + 1, 1, none⟩ = some (.int .u64 a2) ∧ W.cell? ⟨w.heap.size + 1, 2, none⟩ = some (.int .i64 a3) ∧ W.cell? ⟨w.heap.size + 1, 3, none⟩ = some (.int .i64 a4) ∧ W.cell? ⟨w.heap.size + 1 + 1, 0, none⟩ = some (.int .u64 b1) ∧ W.cell? ⟨w.heap.size + 1 + 1, 1, none⟩ = some (.int .u64 b2) ∧ W.cell? ⟨w.heap.size + 1 + 1, 2, none⟩ = some (.int .i64 b3) ∧ W.cell? ⟨w.heap.size + 1 + 1, 3, none⟩ = some (.int .i64 b4)) (first | exact ⟨ca0, ca1, ca2, ca3, cb0, cb1, cb2, cb3⟩ | go_keep)
    (first
      | (go_at_call 9; refine (less_any (_, _, _, _) (_, _, _, _) _).mono ?_; rintro e w5 ⟨rfl, hb⟩; (first | rw [hx] | rw [haa]); have Ba := Lib.hid (blk_of hb Ba.out); have Bb := Lib.hid (blk_of hb Bb.out); have Bc := Lib.hid (blk_of hb Bc.out); have ca0 : w5.cell? ⟨w.heap.size + 1, 0, none⟩ = some (.int .u64 a1) := Ba.out.cell 0; have ca1 : w5.cell? ⟨w.heap.size + 1, 1, none⟩ = some (.int .u64 a2) := Ba.out.cell 1; have ca2 : w5.cell? ⟨w.heap.size + 1, 2, none⟩ = some (.int .i64 a3) := Ba.out.cell 2; have ca3 : w5.cell? ⟨w.heap.size + 1, 3, none⟩ = some (.int .i64 a4) := Ba.out.cell 3; have cb0 : w5.cell? ⟨w.heap.size + 1 + 1, 0, none⟩ = some (.int .u64 b1) := Bb.out.cell 0; have cb1 : w5.cell? ⟨w.heap.size + 1 + 1, 1, none⟩ = some (.int .u64 b2) := Bb.out.cell 1; have cb2 : w5.cell? ⟨w.heap.size + 1 + 1, 2, none⟩ = some (.int .i64 b3) := Bb.out.cell 2; have cb3 : w5.cell? ⟨w.heap.size + 1 + 1, 3, none⟩ = some (.int .i64 b4) := Bb.out.cell 3; have cc0 : w5.cell? ⟨w.heap.size + 1 + 1 + 1, 0, none⟩ = some (.int .u64 c1) := Bc.out.cell 0; have cc1 : w5.cell? ⟨w.heap.size + 1 + 1 + 1, 1, none⟩ = some (.int .u64 c2) := Bc.out.cell 1; have cc2 : w5.cell? ⟨w.heap.size + 1 + 1 + 1, 2, none⟩ = some (.int .i64 c3) := Bc.out.cell 2; have cc3 : w5.cell? ⟨w.heap.size + 1 + 1 + 1, 3, none⟩ = some (.int .i64 c4) := Bc.out.cell 3; have HB := Lib.hid (show Below w.heap.size w w5 by first | exact bl HB.out hb | exact bl_drew HB.out hb); clear hb)
      | (go_at_call 11; refine (plain_any (_, _, _, _) _).mono ?_; rintro e w5 ⟨rfl, hb⟩; have Ba := Lib.hid (blk_of hb Ba.out); have Bb := Lib.hid (blk_of hb Bb.out); have Bc := Lib.hid (blk_of hb Bc.out); have ca0 : w5.cell? ⟨w.heap.size + 1, 0, none⟩ = some (.int .u64 a1) := Ba.out.cell 0; have ca1 : w5.cell? ⟨w.heap.size + 1, 1, none⟩ = some (.int .u64 a2) := Ba.out.cell 1; have ca2 : w5.cell? ⟨w.heap.size + 1, 2, none⟩ = some (.int .i64 a3) := Ba.out.cell 2; have ca3 : w5.cell? ⟨w.heap.size + 1, 3, none⟩ = some (.int .i64 a4) := Ba.out.cell 3; have cb0 : w5.cell? ⟨w.heap.size + 1 + 1, 0, none⟩ = some (.int .u64 b1) := Bb.out.cell 0; have cb1 : w5.cell? ⟨w.heap.size + 1 + 1, 1, none⟩ = some (.int .u64 b2) := Bb.out.cell 1; have cb2 : w5.cell? ⟨w.heap.size + 1 + 1, 2, none⟩ = some (.int .i64 b3) := Bb.out.cell 2; have cb3 : w5.cell? ⟨w.heap.size + 1 + 1, 3, none⟩ = some (.int .i64 b4) := Bb.out.cell 3; have cc0 : w5.cell? ⟨w.heap.size + 1 + 1 + 1, 0, none⟩ = some (.int .u64 c1) := Bc.out.cell 0; have cc1 : w5.cell? ⟨w.heap.size + 1 + 1 + 1, 1, none⟩ = some (.int .u64 c2) := Bc.out.cell 1; have cc2 : w5.cell? ⟨w.heap.size + 1 + 1 + 1, 2, none⟩ = some (.int .i64 c3) := Bc.out.cell 2; have cc3 : w5.cell? ⟨w.heap.size + 1 + 1 + 1, 3, none⟩ = some (.int .i64 c4) := Bc.out.cell 3; have HB := Lib.hid (show Below w.heap.size w w5 by first | exact bl HB.out hb | exact bl_drew HB.out hb); clear hb)
      | (go_at_call 10; refine (refLess_any (_, _, _, _) (_, _, _, _) _).mono ?_; rintro e w5 ⟨rfl, hb⟩; rw [hx]; have Ba := Lib.hid (blk_of hb Ba.out); have Bb := Lib.hid (blk_of hb Bb.out); have Bc := Lib.hid (blk_of hb Bc.out); have ca0 : w5.cell? ⟨w.heap.size + 1, 0, none⟩ = some (.int .u64 a1) := Ba.out.cell 0; have ca1 : w5.cell? ⟨w.heap.size + 1, 1, none⟩ = some (.int .u64 a2) := Ba.out.cell 1; have ca2 : w5.cell? ⟨w.heap.size + 1, 2, none⟩ = some (.int .i64 a3) := Ba.out.cell 2; have ca3 : w5.cell? ⟨w.heap.size + 1, 3, none⟩ = some (.int .i64 a4) := Ba.out.cell 3; have cb0 : w5.cell? ⟨w.heap.size + 1 + 1, 0, none⟩ = some (.int .u64 b1) := Bb.out.cell 0; have cb1 : w5.cell? ⟨w.heap.size + 1 + 1, 1, none⟩ = some (.int .u64 b2) := Bb.out.cell 1; have cb2 : w5.cell? ⟨w.heap.size + 1 + 1, 2, none⟩ = some (.int .i64 b3) := Bb.out.cell 2; have cb3 : w5.cell? ⟨w.heap.size + 1 + 1, 3, none⟩ = some (.int .i64 b4) := Bb.out.cell 3; have cc0 : w5.cell? ⟨w.heap.size + 1 + 1 + 1, 0, none⟩ = some (.int .u64 c1) := Bc.out.cell 0; have cc1 : w5.cell? ⟨w.heap.size + 1 + 1 + 1, 1, none⟩ = some (.int .u64 c2) := Bc.out.cell 1; have cc2 : w5.cell? ⟨w.heap.size + 1 + 1 + 1, 2, none⟩ = some (.int .i64 c3) := Bc.out.cell 2; have cc3 : w5.cell? ⟨w.heap.size + 1 + 1 + 1, 3, none⟩ = some (.int .i64 c4) := Bc.out.cell 3; have HB := Lib.hid (show Below w.heap.size w w5 by first | exact bl HB.out hb | exact bl_drew HB.out hb); clear hb))
  go_wp2_with fail
  refine (less_any (_, _, _, _) (_, _, _, _) _).mono ?_
  rintro e w5 ⟨rfl, hb⟩
  rw [hx]
  have Ba := Lib.hid (blk_of hb Ba.out)
  have Bb := Lib.hid (blk_of hb Bb.out)
  have Bc := Lib.hid (blk_of hb Bc.out)
  have ca0 : w5.cell? ⟨w.heap.size + 1, 0, none⟩ = some (.int .u64 a1) := Ba.out.cell 0
  have ca1 : w5.cell? ⟨w.heap.size + 1, 1, none⟩ = some (.int .u64 a2) := Ba.out.cell 1
  have ca2 : w5.cell? ⟨w.heap.size + 1, 2, none⟩ = some (.int .i64 a3) := Ba.out.cell 2
  have ca3 : w5.cell? ⟨w.heap.size + 1, 3, none⟩ = some (.int .i64 a4) := Ba.out.cell 3
  have cb0 : w5.cell? ⟨w.heap.size + 1 + 1, 0, none⟩ = some (.int .u64 b1) := Bb.out.cell 0
  have cb1 : w5.cell? ⟨w.heap.size + 1 + 1, 1, none⟩ = some (.int .u64 b2) := Bb.out.cell 1
  have cb2 : w5.cell? ⟨w.heap.size + 1 + 1, 2, none⟩ = some (.int .i64 b3) := Bb.out.cell 2
  have cb3 : w5.cell? ⟨w.heap.size + 1 + 1, 3, none⟩ = some (.int .i64 b4) := Bb.out.cell 3
  have cc0 : w5.cell? ⟨w.heap.size + 1 + 1 + 1, 0, none⟩ = some (.int .u64 c1) := Bc.out.cell 0
  have cc1 : w5.cell? ⟨w.heap.size + 1 + 1 + 1, 1, none⟩ = some (.int .u64 c2) := Bc.out.cell 1
  have cc2 : w5.cell? ⟨w.heap.size + 1 + 1 + 1, 2, none⟩ = some (.int .i64 c3) := Bc.out.cell 2
  have cc3 : w5.cell? ⟨w.heap.size + 1 + 1 + 1, 3, none⟩ = some (.int .i64 c4) := Bc.out.cell 3
  have HB := Lib.hid (show Below w.heap.size w w5 by first | exact bl HB.out hb | exact bl_drew HB.out hb)
  clear hb
  go_wp2_with fail
  refine (less_any (_, _, _, _) (_, _, _, _) _).mono ?_
  rintro e w5 ⟨rfl, hb⟩
  rw [hy]
  have Ba := Lib.hid (blk_of hb Ba.out)
  have Bb := Lib.hid (blk_of hb Bb.out)
  have Bc := Lib.hid (blk_of hb Bc.out)
  have ca0 : w5.cell? ⟨w.heap.size + 1, 0, none⟩ = some (.int .u64 a1) := Ba.out.cell 0
  have ca1 : w5.cell? ⟨w.heap.size + 1, 1, none⟩ = some (.int .u64 a2) := Ba.out.cell 1
  have ca2 : w5.cell? ⟨w.heap.size + 1, 2, none⟩ = some (.int .i64 a3) := Ba.out.cell 2
  have ca3 : w5.cell? ⟨w.heap.size + 1, 3, none⟩ = some (.int .i64 a4) := Ba.out.cell 3
  have cb0 : w5.cell? ⟨w.heap.size + 1 + 1, 0, none⟩ = some (.int .u64 b1) := Bb.out.cell 0
  have cb1 : w5.cell? ⟨w.heap.size + 1 + 1, 1, none⟩ = some (.int .u64 b2) := Bb.out.cell 1
  have cb2 : w5.cell? ⟨w.heap.size + 1 + 1, 2, none⟩ = some (.int .i64 b3) := Bb.out.cell 2
  have cb3 : w5.cell? ⟨w.heap.size + 1 + 1, 3, none⟩ = some (.int .i64 b4) := Bb.out.cell 3
  have cc0 : w5.cell? ⟨w.heap.size + 1 + 1 + 1, 0, none⟩ = some (.int .u64 c1) := Bc.out.cell 0
  have cc1 : w5.cell? ⟨w.heap.size + 1 + 1 + 1, 1, none⟩ = some (.int .u64 c2) := Bc.out.cell 1
  have cc2 : w5.cell? ⟨w.heap.size + 1 + 1 + 1, 2, none⟩ = some (.int .i64 c3) := Bc.out.cell 2
  have cc3 : w5.cell? ⟨w.heap.size + 1 + 1 + 1, 3, none⟩ = some (.int .i64 c4) := Bc.out.cell 3
  have HB := Lib.hid (show Below w.heap.size w w5 by first | exact bl HB.out hb | exact bl_drew HB.out hb)
  clear hb
  go_wp2_with fail
  refine (awake_true _).mono ?_
  rintro e w6 ⟨rfl, hb⟩
  have HB2 := Lib.hid (bl HB.out hb)
  clear hb
  go_wp2_with fail
  go_ret
  exact ⟨rfl, HB2.out⟩

set_option maxHeartbeats 4000000 in
theorem keys4 (a1 a2 a3 a4 b1 b2 b3 b4 c1 c2 c3 c4 : Int) (w : World) (hx : ltK (a1, a2, a3, a4) (b1, b2, b3, b4) = false) (hy : ltK (b1, b2, b3, b4) (a1, a2, a3, a4) = false) (hz : decide ((a1, a2, a3, a4) = (b1, b2, b3, b4)) = true) :
    Calls Try.prog 3 #[.agg #[.int .u64 a1, .int .u64 a2, .int .i64 a3, .int .i64 a4, .int .u64 b1, .int .u64 b2, .int .i64 b3, .int .i64 b4, .int .u64 c1, .int .u64 c2, .int .i64 c3, .int .i64 c4]] w fun e w' => e = .returned (.bool true) ∧ Below w.heap.size w w' := by
  have he := eqKey (a1, a2, a3, a4) (b1, b2, b3, b4)
  rw [hz] at he
  have haa := ltK_irr (a1, a2, a3, a4)
  clear hz
  go_enter Try.func3, Try.ntmps3
  go_wp2_with fail
  obtain ⟨w4, hw4⟩ : ∃ x, x = (((w.alloc (.cells #[.int .u64 a1, .int .u64 a2, .int .i64 a3, .int .i64 a4, .int .u64 b1, .int .u64 b2, .int .i64 b3, .int .i64 b4, .int .u64 c1, .int .u64 c2, .int .i64 c3, .int .i64 c4] 25)).alloc (.cells #[.int .u64 a1, .int .u64 a2, .int .i64 a3, .int .i64 a4] 24)).alloc (.cells #[.int .u64 b1, .int .u64 b2, .int .i64 b3, .int .i64 b4] 24)).alloc (.cells #[.int .u64 c1, .int .u64 c2, .int .i64 c3, .int .i64 c4] 24) := ⟨_, rfl⟩
  rw [← hw4]
  have HB := Lib.hid (show Below w.heap.size w w4 by rw [hw4]; go_grown)
  have Ba := Lib.hid (show Blk w4 (w.heap.size + 1) 24 #[.int .u64 a1, .int .u64 a2, .int .i64 a3, .int .i64 a4] by rw [hw4]; have h := ((Blk.new (w.alloc (.cells #[.int .u64 a1, .int .u64 a2, .int .i64 a3, .int .i64 a4, .int .u64 b1, .int .u64 b2, .int .i64 b3, .int .i64 b4, .int .u64 c1, .int .u64 c2, .int .i64 c3, .int .i64 c4] 25)) 24 #[.int .u64 a1, .int .u64 a2, .int .i64 a3, .int .i64 a4]).alloc (.cells #[.int .u64 b1, .int .u64 b2, .int .i64 b3, .int .i64 b4] 24)).alloc (.cells #[.int .u64 c1, .int .u64 c2, .int .i64 c3, .int .i64 c4] 24); simp only [World.size_alloc] at h; exact h)
  have Bb := Lib.hid (show Blk w4 (w.heap.size + 1 + 1) 24 #[.int .u64 b1, .int .u64 b2, .int .i64 b3, .int .i64 b4] by rw [hw4]; have h := (Blk.new ((w.alloc (.cells #[.int .u64 a1, .int .u64 a2, .int .i64 a3, .int .i64 a4, .int .u64 b1, .int .u64 b2, .int .i64 b3, .int .i64 b4, .int .u64 c1, .int .u64 c2, .int .i64 c3, .int .i64 c4] 25)).alloc (.cells #[.int .u64 a1, .int .u64 a2, .int .i64 a3, .int .i64 a4] 24)) 24 #[.int .u64 b1, .int .u64 b2, .int .i64 b3, .int .i64 b4]).alloc (.cells #[.int .u64 c1, .int .u64 c2, .int .i64 c3, .int .i64 c4] 24); simp only [World.size_alloc] at h; exact h)
  have Bc := Lib.hid (show Blk w4 (w.heap.size + 1 + 1 + 1) 24 #[.int .u64 c1, .int .u64 c2, .int .i64 c3, .int .i64 c4] by rw [hw4]; have h := (Blk.new (((w.alloc (.cells #[.int .u64 a1, .int .u64 a2, .int .i64 a3, .int .i64 a4, .int .u64 b1, .int .u64 b2, .int .i64 b3, .int .i64 b4, .int .u64 c1, .int .u64 c2, .int .i64 c3, .int .i64 c4] 25)).alloc (.cells #[.int .u64 a1, .int .u64 a2, .int .i64 a3, .int .i64 a4] 24)).alloc (.cells #[.int .u64 b1, .int .u64 b2, .int .i64 b3, .int .i64 b4] 24)) 24 #[.int .u64 c1, .int .u64 c2, .int .i64 c3, .int .i64 c4]); simp only [World.size_alloc] at h; exact h)
  have ca0 : w4.cell? ⟨w.heap.size + 1, 0, none⟩ = some (.int .u64 a1) := Ba.out.cell 0
  have ca1 : w4.cell? ⟨w.heap.size + 1, 1, none⟩ = some (.int .u64 a2) := Ba.out.cell 1
  have ca2 : w4.cell? ⟨w.heap.size + 1, 2, none⟩ = some (.int .i64 a3) := Ba.out.cell 2
  have ca3 : w4.cell? ⟨w.heap.size + 1, 3, none⟩ = some (.int .i64 a4) := Ba.out.cell 3
  have cb0 : w4.cell? ⟨w.heap.size + 1 + 1, 0, none⟩ = some (.int .u64 b1) := Bb.out.cell 0
  have cb1 : w4.cell? ⟨w.heap.size + 1 + 1, 1, none⟩ = some (.int .u64 b2) := Bb.out.cell 1
  have cb2 : w4.cell? ⟨w.heap.size + 1 + 1, 2, none⟩ = some (.int .i64 b3) := Bb.out.cell 2
  have cb3 : w4.cell? ⟨w.heap.size + 1 + 1, 3, none⟩ = some (.int .i64 b4) := Bb.out.cell 3
  have cc0 : w4.cell? ⟨w.heap.size + 1 + 1 + 1, 0, none⟩ = some (.int .u64 c1) := Bc.out.cell 0
  have cc1 : w4.cell? ⟨w.heap.size + 1 + 1 + 1, 1, none⟩ = some (.int .u64 c2) := Bc.out.cell 1
  have cc2 : w4.cell? ⟨w.heap.size + 1 + 1 + 1, 2, none⟩ = some (.int .i64 c3) := Bc.out.cell 2
  have cc3 : w4.cell? ⟨w.heap.size + 1 + 1 + 1, 3, none⟩ = some (.int .i64 c4) := Bc.out.cell 3
  clear hw4
  go_region_held3 (fun W => W.cell? ⟨w.heap.size + 1, 0, none⟩ = some (.int .u64 a1) ∧ W.cell? ⟨w.heap.size + 1, 1, none⟩ = some (.int .u64 a2) ∧ W.cell? ⟨w.heap.size + 1, 2, none⟩ = some (.int .i64 a3) ∧ W.cell? ⟨w.heap.size + 1, 3, none⟩ = some (.int .i64 a4) ∧ W.cell? ⟨w.heap.size + 1 + 1, 0, none⟩ = some (.int .u64 b1) ∧ W.cell? ⟨w.heap.size + 1 + 1, 1, none⟩ = some (.int .u64 b2) ∧ W.cell? ⟨w.heap.size + 1 + 1, 2, none⟩ = some (.int .i64 b3) ∧ W.cell? ⟨w.heap.size + 1 + 1, 3, none⟩ = some (.int .i64 b4)) (first | exact ⟨ca0, ca1, ca2, ca3, cb0, cb1, cb2, cb3⟩ | go_keep)
    (first
      | (go_at_call 9; refine (less_any (_, _, _, _) (_, _, _, _) _).mono ?_; rintro e w5 ⟨rfl, hb⟩; (first | rw [hx] | rw [haa]); have Ba := Lib.hid (blk_of hb Ba.out); have Bb := Lib.hid (blk_of hb Bb.out); have Bc := Lib.hid (blk_of hb Bc.out); have ca0 : w5.cell? ⟨w.heap.size + 1, 0, none⟩ = some (.int .u64 a1) := Ba.out.cell 0; have ca1 : w5.cell? ⟨w.heap.size + 1, 1, none⟩ = some (.int .u64 a2) := Ba.out.cell 1; have ca2 : w5.cell? ⟨w.heap.size + 1, 2, none⟩ = some (.int .i64 a3) := Ba.out.cell 2; have ca3 : w5.cell? ⟨w.heap.size + 1, 3, none⟩ = some (.int .i64 a4) := Ba.out.cell 3; have cb0 : w5.cell? ⟨w.heap.size + 1 + 1, 0, none⟩ = some (.int .u64 b1) := Bb.out.cell 0; have cb1 : w5.cell? ⟨w.heap.size + 1 + 1, 1, none⟩ = some (.int .u64 b2) := Bb.out.cell 1; have cb2 : w5.cell? ⟨w.heap.size + 1 + 1, 2, none⟩ = some (.int .i64 b3) := Bb.out.cell 2; have cb3 : w5.cell? ⟨w.heap.size + 1 + 1, 3, none⟩ = some (.int .i64 b4) := Bb.out.cell 3; have cc0 : w5.cell? ⟨w.heap.size + 1 + 1 + 1, 0, none⟩ = some (.int .u64 c1) := Bc.out.cell 0; have cc1 : w5.cell? ⟨w.heap.size + 1 + 1 + 1, 1, none⟩ = some (.int .u64 c2) := Bc.out.cell 1; have cc2 : w5.cell? ⟨w.heap.size + 1 + 1 + 1, 2, none⟩ = some (.int .i64 c3) := Bc.out.cell 2; have cc3 : w5.cell? ⟨w.heap.size + 1 + 1 + 1, 3, none⟩ = some (.int .i64 c4) := Bc.out.cell 3; have HB := Lib.hid (show Below w.heap.size w w5 by first | exact bl HB.out hb | exact bl_drew HB.out hb); clear hb)
      | (go_at_call 11; refine (plain_any (_, _, _, _) _).mono ?_; rintro e w5 ⟨rfl, hb⟩; have Ba := Lib.hid (blk_of hb Ba.out); have Bb := Lib.hid (blk_of hb Bb.out); have Bc := Lib.hid (blk_of hb Bc.out); have ca0 : w5.cell? ⟨w.heap.size + 1, 0, none⟩ = some (.int .u64 a1) := Ba.out.cell 0; have ca1 : w5.cell? ⟨w.heap.size + 1, 1, none⟩ = some (.int .u64 a2) := Ba.out.cell 1; have ca2 : w5.cell? ⟨w.heap.size + 1, 2, none⟩ = some (.int .i64 a3) := Ba.out.cell 2; have ca3 : w5.cell? ⟨w.heap.size + 1, 3, none⟩ = some (.int .i64 a4) := Ba.out.cell 3; have cb0 : w5.cell? ⟨w.heap.size + 1 + 1, 0, none⟩ = some (.int .u64 b1) := Bb.out.cell 0; have cb1 : w5.cell? ⟨w.heap.size + 1 + 1, 1, none⟩ = some (.int .u64 b2) := Bb.out.cell 1; have cb2 : w5.cell? ⟨w.heap.size + 1 + 1, 2, none⟩ = some (.int .i64 b3) := Bb.out.cell 2; have cb3 : w5.cell? ⟨w.heap.size + 1 + 1, 3, none⟩ = some (.int .i64 b4) := Bb.out.cell 3; have cc0 : w5.cell? ⟨w.heap.size + 1 + 1 + 1, 0, none⟩ = some (.int .u64 c1) := Bc.out.cell 0; have cc1 : w5.cell? ⟨w.heap.size + 1 + 1 + 1, 1, none⟩ = some (.int .u64 c2) := Bc.out.cell 1; have cc2 : w5.cell? ⟨w.heap.size + 1 + 1 + 1, 2, none⟩ = some (.int .i64 c3) := Bc.out.cell 2; have cc3 : w5.cell? ⟨w.heap.size + 1 + 1 + 1, 3, none⟩ = some (.int .i64 c4) := Bc.out.cell 3; have HB := Lib.hid (show Below w.heap.size w w5 by first | exact bl HB.out hb | exact bl_drew HB.out hb); clear hb)
      | (go_at_call 10; refine (refLess_any (_, _, _, _) (_, _, _, _) _).mono ?_; rintro e w5 ⟨rfl, hb⟩; rw [hx]; have Ba := Lib.hid (blk_of hb Ba.out); have Bb := Lib.hid (blk_of hb Bb.out); have Bc := Lib.hid (blk_of hb Bc.out); have ca0 : w5.cell? ⟨w.heap.size + 1, 0, none⟩ = some (.int .u64 a1) := Ba.out.cell 0; have ca1 : w5.cell? ⟨w.heap.size + 1, 1, none⟩ = some (.int .u64 a2) := Ba.out.cell 1; have ca2 : w5.cell? ⟨w.heap.size + 1, 2, none⟩ = some (.int .i64 a3) := Ba.out.cell 2; have ca3 : w5.cell? ⟨w.heap.size + 1, 3, none⟩ = some (.int .i64 a4) := Ba.out.cell 3; have cb0 : w5.cell? ⟨w.heap.size + 1 + 1, 0, none⟩ = some (.int .u64 b1) := Bb.out.cell 0; have cb1 : w5.cell? ⟨w.heap.size + 1 + 1, 1, none⟩ = some (.int .u64 b2) := Bb.out.cell 1; have cb2 : w5.cell? ⟨w.heap.size + 1 + 1, 2, none⟩ = some (.int .i64 b3) := Bb.out.cell 2; have cb3 : w5.cell? ⟨w.heap.size + 1 + 1, 3, none⟩ = some (.int .i64 b4) := Bb.out.cell 3; have cc0 : w5.cell? ⟨w.heap.size + 1 + 1 + 1, 0, none⟩ = some (.int .u64 c1) := Bc.out.cell 0; have cc1 : w5.cell? ⟨w.heap.size + 1 + 1 + 1, 1, none⟩ = some (.int .u64 c2) := Bc.out.cell 1; have cc2 : w5.cell? ⟨w.heap.size + 1 + 1 + 1, 2, none⟩ = some (.int .i64 c3) := Bc.out.cell 2; have cc3 : w5.cell? ⟨w.heap.size + 1 + 1 + 1, 3, none⟩ = some (.int .i64 c4) := Bc.out.cell 3; have HB := Lib.hid (show Below w.heap.size w w5 by first | exact bl HB.out hb | exact bl_drew HB.out hb); clear hb))
  go_wp2_with fail
  refine (less_any (_, _, _, _) (_, _, _, _) _).mono ?_
  rintro e w5 ⟨rfl, hb⟩
  rw [hx]
  have Ba := Lib.hid (blk_of hb Ba.out)
  have Bb := Lib.hid (blk_of hb Bb.out)
  have Bc := Lib.hid (blk_of hb Bc.out)
  have ca0 : w5.cell? ⟨w.heap.size + 1, 0, none⟩ = some (.int .u64 a1) := Ba.out.cell 0
  have ca1 : w5.cell? ⟨w.heap.size + 1, 1, none⟩ = some (.int .u64 a2) := Ba.out.cell 1
  have ca2 : w5.cell? ⟨w.heap.size + 1, 2, none⟩ = some (.int .i64 a3) := Ba.out.cell 2
  have ca3 : w5.cell? ⟨w.heap.size + 1, 3, none⟩ = some (.int .i64 a4) := Ba.out.cell 3
  have cb0 : w5.cell? ⟨w.heap.size + 1 + 1, 0, none⟩ = some (.int .u64 b1) := Bb.out.cell 0
  have cb1 : w5.cell? ⟨w.heap.size + 1 + 1, 1, none⟩ = some (.int .u64 b2) := Bb.out.cell 1
  have cb2 : w5.cell? ⟨w.heap.size + 1 + 1, 2, none⟩ = some (.int .i64 b3) := Bb.out.cell 2
  have cb3 : w5.cell? ⟨w.heap.size + 1 + 1, 3, none⟩ = some (.int .i64 b4) := Bb.out.cell 3
  have cc0 : w5.cell? ⟨w.heap.size + 1 + 1 + 1, 0, none⟩ = some (.int .u64 c1) := Bc.out.cell 0
  have cc1 : w5.cell? ⟨w.heap.size + 1 + 1 + 1, 1, none⟩ = some (.int .u64 c2) := Bc.out.cell 1
  have cc2 : w5.cell? ⟨w.heap.size + 1 + 1 + 1, 2, none⟩ = some (.int .i64 c3) := Bc.out.cell 2
  have cc3 : w5.cell? ⟨w.heap.size + 1 + 1 + 1, 3, none⟩ = some (.int .i64 c4) := Bc.out.cell 3
  have HB := Lib.hid (show Below w.heap.size w w5 by first | exact bl HB.out hb | exact bl_drew HB.out hb)
  clear hb
  go_wp2_with fail
  refine (less_any (_, _, _, _) (_, _, _, _) _).mono ?_
  rintro e w5 ⟨rfl, hb⟩
  rw [hy]
  have Ba := Lib.hid (blk_of hb Ba.out)
  have Bb := Lib.hid (blk_of hb Bb.out)
  have Bc := Lib.hid (blk_of hb Bc.out)
  have ca0 : w5.cell? ⟨w.heap.size + 1, 0, none⟩ = some (.int .u64 a1) := Ba.out.cell 0
  have ca1 : w5.cell? ⟨w.heap.size + 1, 1, none⟩ = some (.int .u64 a2) := Ba.out.cell 1
  have ca2 : w5.cell? ⟨w.heap.size + 1, 2, none⟩ = some (.int .i64 a3) := Ba.out.cell 2
  have ca3 : w5.cell? ⟨w.heap.size + 1, 3, none⟩ = some (.int .i64 a4) := Ba.out.cell 3
  have cb0 : w5.cell? ⟨w.heap.size + 1 + 1, 0, none⟩ = some (.int .u64 b1) := Bb.out.cell 0
  have cb1 : w5.cell? ⟨w.heap.size + 1 + 1, 1, none⟩ = some (.int .u64 b2) := Bb.out.cell 1
  have cb2 : w5.cell? ⟨w.heap.size + 1 + 1, 2, none⟩ = some (.int .i64 b3) := Bb.out.cell 2
  have cb3 : w5.cell? ⟨w.heap.size + 1 + 1, 3, none⟩ = some (.int .i64 b4) := Bb.out.cell 3
  have cc0 : w5.cell? ⟨w.heap.size + 1 + 1 + 1, 0, none⟩ = some (.int .u64 c1) := Bc.out.cell 0
  have cc1 : w5.cell? ⟨w.heap.size + 1 + 1 + 1, 1, none⟩ = some (.int .u64 c2) := Bc.out.cell 1
  have cc2 : w5.cell? ⟨w.heap.size + 1 + 1 + 1, 2, none⟩ = some (.int .i64 c3) := Bc.out.cell 2
  have cc3 : w5.cell? ⟨w.heap.size + 1 + 1 + 1, 3, none⟩ = some (.int .i64 c4) := Bc.out.cell 3
  have HB := Lib.hid (show Below w.heap.size w w5 by first | exact bl HB.out hb | exact bl_drew HB.out hb)
  clear hb
  go_wp2_with fail
  refine (awake_true _).mono ?_
  rintro e w6 ⟨rfl, hb⟩
  have HB2 := Lib.hid (bl HB.out hb)
  clear hb
  go_wp2_with fail
  go_ret
  exact ⟨rfl, HB2.out⟩

theorem wKeys (a b c : Ky) (w : World) :
    Calls Try.prog 3 #[.agg #[.int .u64 a.1, .int .u64 a.2.1, .int .i64 a.2.2.1, .int .i64 a.2.2.2, .int .u64 b.1, .int .u64 b.2.1, .int .i64 b.2.2.1, .int .i64 b.2.2.2, .int .u64 c.1, .int .u64 c.2.1, .int .i64 c.2.2.1, .int .i64 c.2.2.2]] w fun e w' => e = .returned (.bool true) ∧ Below w.heap.size w w' := by
  obtain ⟨a1, a2, a3, a4⟩ := a
  obtain ⟨b1, b2, b3, b4⟩ := b
  obtain ⟨c1, c2, c3, c4⟩ := c
  rcases ltP_tri (a1, a2, a3, a4) (b1, b2, b3, b4) with h | h | h
  · have hx := ltK_true h
    have hy : ltK (b1, b2, b3, b4) (a1, a2, a3, a4) = false := ltK_false (fun q => ltP_irr _ (ltP_trans h q))
    have hz : decide ((a1, a2, a3, a4) = (b1, b2, b3, b4)) = false := decide_eq_false (fun q => by rw [q] at h; exact ltP_irr _ h)
    cases hv : ltK (b1, b2, b3, b4) (c1, c2, c3, c4)
    · exact keys1 a1 a2 a3 a4 b1 b2 b3 b4 c1 c2 c3 c4 w hx hy hz hv
    · exact keys2 a1 a2 a3 a4 b1 b2 b3 b4 c1 c2 c3 c4 w hx hy hz hv (ltK_true (ltP_trans h ((ltK_iff _ _).1 hv)))
  · rw [h]
    exact keys4 b1 b2 b3 b4 b1 b2 b3 b4 c1 c2 c3 c4 w (ltK_irr _) (ltK_irr _) (decide_eq_true rfl)
  · have hy := ltK_true h
    have hx : ltK (a1, a2, a3, a4) (b1, b2, b3, b4) = false := ltK_false (fun q => ltP_irr _ (ltP_trans h q))
    have hz : decide ((a1, a2, a3, a4) = (b1, b2, b3, b4)) = false := decide_eq_false (fun q => by rw [q] at h; exact ltP_irr _ h)
    exact keys3 a1 a2 a3 a4 b1 b2 b3 b4 c1 c2 c3 c4 w hx hy hz
end Go.Proofs.Ytffgjjlamdaajaa
