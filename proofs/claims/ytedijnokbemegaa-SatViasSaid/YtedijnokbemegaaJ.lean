/- Layer 3: the law's examples hold. No condition. -/
import Derived.Test.YtedijnokbemegaaI
namespace Go.Proofs.Ytedijnokbemegaa
open Go.RowKit

/-- A block that is known whole. -/
def Blk (w : World) (g : Nat) (t : TypeId) (cs : Array Value) : Prop := w.heap[g]? = some (.cells cs t (0, 0))
theorem Blk.new (w : World) (t : TypeId) (cs : Array Value) : Blk (w.alloc (.cells cs t)) w.heap.size t cs := heap_alloc_new w _
theorem Blk.alloc {w : World} {g : Nat} {t : TypeId} {cs : Array Value} (h : Blk w g t cs) (o : Obj) : Blk (w.alloc o) g t cs := (Below.heap_alloc w o g (lt_of_block h)).trans h
theorem Blk.below {w w' : World} {g B : Nat} {t : TypeId} {cs : Array Value} (h : Blk w g t cs) (hb : Below B w w') (hg : g < B) : Blk w' g t cs := (hb.block g hg).trans h

theorem Blk.row {w : World} {g : Nat} {l : List Int} (h : Blk w g 37 (vals l).toArray) (hu : ∀ x ∈ l, Ub x) : Row w (some ⟨g, 0, none⟩) l := by
  refine ⟨hu, .inr ⟨g, 0, rfl, lt_of_block h, fun i hi => ?_⟩⟩
  unfold Blk at h
  rw [Nat.zero_add]
  simp [World.cell?, h, vals, List.getD_eq_getElem?_getD, hi]

theorem best311 : LeastRes [3, 1, 1] = .tuple #[.int .i64 1, .bool true] := by kernel_rfl
theorem via79 : viaL [1, 5] [[7, 18446744073709551615], [2, 4]] = [7, 9] := by decide +kernel

set_option maxHeartbeats 2000000 in
theorem awake_any (w : World) :
    Calls Try.prog 9 #[] w fun e w' => e = .returned (.bool true) ∧ Below w.heap.size w w' := by
  have A1 := Lib.hid (fun W => least_any (some ⟨w.heap.size, 0, none⟩) 3 [3, 1, 1] W)
  rw [best311] at A1
  go_enter Try.func9, Try.ntmps9
  go_wp2_with fail
  refine (A1.out _ ((Blk.new w 37 _).row (l := [3, 1, 1]) (by unfold Ub; decide)) (by decide)).mono ?_
  rintro e w1 ⟨rfl, hb⟩
  have b1 := bl (a := w) (by go_grown) hb
  have s1 := b1.size
  clear hb
  go_wp2_with fail
  have k1 : Blk ((((w1.alloc (.cells #[.int .u64 1, .int .u64 5] 37)).alloc (.cells #[.int .u64 7, .int .u64 18446744073709551615] 37)).alloc (.cells #[.int .u64 2, .int .u64 4] 37)).alloc
      (.cells #[.slice (some ⟨w1.heap.size + 1, 0, none⟩) 2 2, .slice (some ⟨w1.heap.size + 1 + 1, 0, none⟩) 2 2] 22)) w1.heap.size 37 (vals [1, 5]).toArray := (((Blk.new w1 37 _).alloc _).alloc _).alloc _
  have k2 : Blk ((((w1.alloc (.cells #[.int .u64 1, .int .u64 5] 37)).alloc (.cells #[.int .u64 7, .int .u64 18446744073709551615] 37)).alloc (.cells #[.int .u64 2, .int .u64 4] 37)).alloc
      (.cells #[.slice (some ⟨w1.heap.size + 1, 0, none⟩) 2 2, .slice (some ⟨w1.heap.size + 1 + 1, 0, none⟩) 2 2] 22)) (w1.heap.size + 1) 37 (vals [7, 18446744073709551615]).toArray := by
    have := ((Blk.new (w1.alloc (.cells #[.int .u64 1, .int .u64 5] 37)) 37 #[.int .u64 7, .int .u64 18446744073709551615]).alloc (.cells #[.int .u64 2, .int .u64 4] 37)).alloc (.cells #[.slice (some ⟨w1.heap.size + 1, 0, none⟩) 2 2, .slice (some ⟨w1.heap.size + 1 + 1, 0, none⟩) 2 2] 22)
    rwa [World.size_alloc] at this
  have k3 : Blk ((((w1.alloc (.cells #[.int .u64 1, .int .u64 5] 37)).alloc (.cells #[.int .u64 7, .int .u64 18446744073709551615] 37)).alloc (.cells #[.int .u64 2, .int .u64 4] 37)).alloc
      (.cells #[.slice (some ⟨w1.heap.size + 1, 0, none⟩) 2 2, .slice (some ⟨w1.heap.size + 1 + 1, 0, none⟩) 2 2] 22)) (w1.heap.size + 1 + 1) 37 (vals [2, 4]).toArray := by
    have := (Blk.new ((w1.alloc (.cells #[.int .u64 1, .int .u64 5] 37)).alloc (.cells #[.int .u64 7, .int .u64 18446744073709551615] 37)) 37 #[.int .u64 2, .int .u64 4]).alloc (.cells #[.slice (some ⟨w1.heap.size + 1, 0, none⟩) 2 2, .slice (some ⟨w1.heap.size + 1 + 1, 0, none⟩) 2 2] 22)
    rwa [World.size_alloc, World.size_alloc] at this
  have k4 : Blk ((((w1.alloc (.cells #[.int .u64 1, .int .u64 5] 37)).alloc (.cells #[.int .u64 7, .int .u64 18446744073709551615] 37)).alloc (.cells #[.int .u64 2, .int .u64 4] 37)).alloc
      (.cells #[.slice (some ⟨w1.heap.size + 1, 0, none⟩) 2 2, .slice (some ⟨w1.heap.size + 1 + 1, 0, none⟩) 2 2] 22)) (w1.heap.size + 1 + 1 + 1) 22 #[.slice (some ⟨w1.heap.size + 1, 0, none⟩) 2 2, .slice (some ⟨w1.heap.size + 1 + 1, 0, none⟩) 2 2] := by
    have := Blk.new (((w1.alloc (.cells #[.int .u64 1, .int .u64 5] 37)).alloc (.cells #[.int .u64 7, .int .u64 18446744073709551615] 37)).alloc (.cells #[.int .u64 2, .int .u64 4] 37)) 22 #[.slice (some ⟨w1.heap.size + 1, 0, none⟩) 2 2, .slice (some ⟨w1.heap.size + 1 + 1, 0, none⟩) 2 2]
    rwa [World.size_alloc, World.size_alloc, World.size_alloc] at this
  have hw2 : Below w.heap.size w ((((w1.alloc (.cells #[.int .u64 1, .int .u64 5] 37)).alloc (.cells #[.int .u64 7, .int .u64 18446744073709551615] 37)).alloc (.cells #[.int .u64 2, .int .u64 4] 37)).alloc
      (.cells #[.slice (some ⟨w1.heap.size + 1, 0, none⟩) 2 2, .slice (some ⟨w1.heap.size + 1 + 1, 0, none⟩) 2 2] 22)) := by go_grown
  generalize (((w1.alloc (.cells #[.int .u64 1, .int .u64 5] 37)).alloc (.cells #[.int .u64 7, .int .u64 18446744073709551615] 37)).alloc (.cells #[.int .u64 2, .int .u64 4] 37)).alloc
      (.cells #[.slice (some ⟨w1.heap.size + 1, 0, none⟩) 2 2, .slice (some ⟨w1.heap.size + 1 + 1, 0, none⟩) 2 2] 22) = w2 at *
  have r1 : Row w2 (some ⟨w1.heap.size, 0, none⟩) [1, 5] := k1.row (by unfold Ub; decide)
  have r2 : Row w2 (some ⟨w1.heap.size + 1, 0, none⟩) [7, 18446744073709551615] := k2.row (by unfold Ub; decide)
  have r3 : Row w2 (some ⟨w1.heap.size + 1 + 1, 0, none⟩) [2, 4] := k3.row (by unfold Ub; decide)
  have rt : Tab w2 (some ⟨w1.heap.size + 1 + 1 + 1, 0, none⟩) [[7, 18446744073709551615], [2, 4]] := by
    refine .inr ⟨_, 0, rfl, lt_of_block k4, fun i hi => ?_⟩
    unfold Blk at k4
    match i, hi with
    | 0, _ => exact ⟨some ⟨w1.heap.size + 1, 0, none⟩, 2, by simp [World.cell?, k4], r2⟩
    | 1, _ => exact ⟨some ⟨w1.heap.size + 1 + 1, 0, none⟩, 2, by simp [World.cell?, k4], r3⟩
  have V := via_yes (some ⟨w1.heap.size, 0, none⟩) (some ⟨w1.heap.size + 1 + 1 + 1, 0, none⟩) 2 2 [1, 5] [[7, 18446744073709551615], [2, 4]] w2 r1 rt rfl (by decide) (by decide) (by decide) (by decide)
  rw [via79] at V
  have VV := Lib.hid V
  clear V k1 k2 k3 k4 r1 r2 r3 rt
  refine VV.out.mono ?_
  rintro e w3 ⟨a3, c3, rfl, hr3, hb3⟩
  have b3 := bl hw2 hb3
  have s3 := b3.size
  have HR := Lib.hid hr3
  clear hr3 hb3
  go_wp2_with fail
  refine (add_any 18446744073709551615 1 (by unfold Ub; omega) (by unfold Ub; omega) _).mono ?_
  rintro e w' ⟨rfl, rfl⟩
  have e1 : sadd 18446744073709551615 1 = 18446744073709551615 := by unfold sadd; omega
  rw [e1]
  go_wp2_with fail
  refine (times_any 9223372036854775808 2 (by unfold Ub; omega) (by omega) _).mono ?_
  rintro e w' ⟨rfl, rfl⟩
  have e2 : stimes 9223372036854775808 2 = 18446744073709551615 := by unfold stimes; omega
  rw [e2]
  go_wp2_with fail
  have hk := Blk.new w3 37 (vals [7, 9]).toArray
  refine (same_any a3 (some ⟨w3.heap.size, 0, none⟩) c3 2 [7, 9] _ (HR.out.below ((Below.refl _ _).alloc (Nat.le_refl _) _) (Nat.le_refl _)) (hk.row (by unfold Ub; decide)) (by decide)).mono ?_
  rintro e w4 ⟨rfl, hb4⟩
  have b4 := bl (a := w) (by go_grown) hb4
  clear hb4
  go_wp2
  go_ret
  exact ⟨rfl, b4⟩
end Go.Proofs.Ytedijnokbemegaa
