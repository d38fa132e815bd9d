/- The walks of the reference of layer 17, and of the law's own helpers: what each returns; each writes to new memory alone. Conditions stand in each statement. -/
import Derived.Test.YtefinnlnkilmpaaB
import Derived.Laws.Rows
import Derived.WalkSmall
namespace Go.Proofs.Ytefinnlnkilmpaa
open Go.RowKit

/-- A block that is known whole. -/
def Blk (w : World) (g : Nat) (t : TypeId) (cs : Array Value) : Prop := w.heap[g]? = some (.cells cs t (0, 0))
section
variable {w w' : World} {g : Nat} {t : TypeId} {cs : Array Value}
theorem Blk.lt (h : Blk w g t cs) : g < w.heap.size := lt_of_block h
theorem Blk.cell (h : Blk w g t cs) (i : Nat) : w.cell? ⟨g, i, none⟩ = cs[i]? := cell_of_row w g i cs t (0, 0) h
theorem Blk.frozen (h : Blk w g t cs) (i : Nat) : w.frozen? ⟨g, i, none⟩ = false := by
  unfold Blk at h
  simp [World.frozen?, h]
theorem Blk.new (w : World) (t : TypeId) (cs : Array Value) : Blk (w.alloc (.cells cs t)) w.heap.size t cs := heap_alloc_new w _
theorem Blk.new1 (w : World) (a : Obj) (t : TypeId) (cs : Array Value) : Blk ((w.alloc a).alloc (.cells cs t)) (w.heap.size + 1) t cs := by
  have := Blk.new (w.alloc a) t cs
  rwa [World.size_alloc] at this
theorem Blk.drew (h : Blk w g t cs) : Blk w.drew g t cs := h
theorem Blk.alloc (h : Blk w g t cs) (o : Obj) : Blk (w.alloc o) g t cs := (Below.heap_alloc w o g h.lt).trans h
theorem Blk.set_ (h : Blk w g t cs) (i : Nat) (u : Value) : Blk (w.setCell ⟨g, i, none⟩ u) g t (cs.setIfInBounds i u) := by
  unfold Blk at h ⊢
  simp [World.setCell, Array.getElem?_modify, h]
theorem Blk.far (h : Blk w g t cs) {p : Addr} (hp : g ≠ p.block) (u : Value) : Blk (w.setCell p u) g t cs := (Below.heap_setCell w p u g hp).trans h
theorem Blk.below {B : Nat} (h : Blk w g t cs) (hb : Below B w w') (hg : g < B) : Blk w' g t cs := (hb.block g hg).trans h
end

set_option maxHeartbeats 400000 in
theorem rRight_yes (l m r : Int) (w : World) (h : Rt l m r) :
    Calls Try.prog 10 #[P3 l m r] w fun e w' => e = .returned (.bool true) ∧ Below w.heap.size w w' := by
  obtain ⟨h1, h2, h3, h4, h5, h6⟩ := h
  go_enter Try.func10, Try.ntmps10
  go_wp2
  go_ret
  exact ⟨rfl, by go_grown⟩

set_option maxHeartbeats 800000 in
theorem rRight_no (l m r : Int) (w : World) (h : ¬ Rt l m r) :
    Calls Try.prog 10 #[P3 l m r] w fun e w' => e = .returned (.bool false) ∧ Below w.heap.size w w' := by
  unfold Rt at h
  by_cases h1 : 0 ≤ m
  · by_cases h2 : m ≤ 1048576
    · by_cases h3 : 0 ≤ l
      · by_cases h4 : l ≤ m
        · by_cases h5 : 0 ≤ r
          · have h6 : ¬ r ≤ 1048576 := fun h6 => h ⟨h1, h2, h3, h4, h5, h6⟩
            clear h
            go_enter Try.func10, Try.ntmps10
            go_wp2
            go_ret
            exact ⟨rfl, by go_grown⟩
          · clear h
            go_enter Try.func10, Try.ntmps10
            go_wp2
            go_ret
            exact ⟨rfl, by go_grown⟩
        · clear h
          go_enter Try.func10, Try.ntmps10
          go_wp2
          go_ret
          exact ⟨rfl, by go_grown⟩
      · clear h
        go_enter Try.func10, Try.ntmps10
        go_wp2
        go_ret
        exact ⟨rfl, by go_grown⟩
    · clear h
      go_enter Try.func10, Try.ntmps10
      go_wp2
      go_ret
      exact ⟨rfl, by go_grown⟩
  · clear h
    go_enter Try.func10, Try.ntmps10
    go_wp2
    go_ret
    exact ⟨rfl, by go_grown⟩

set_option maxHeartbeats 400000 in
theorem rTick (l m r : Int) (w : World) (h : Rt l m r) :
    Calls Try.prog 20 #[P3 l m r] w fun e w' => e = .returned (P3 (lat l m r 1) m r) ∧ Below w.heap.size w w' := by
  obtain ⟨h1, h2, h3, h4, h5, h6⟩ := h
  by_cases hc : m < l + r
  · have H := Lib.hid (show lat l m r 1 = m by unfold lat; rw [Int.mul_one]; omega)
    go_enter Try.func20, Try.ntmps20
    go_wp2
    refine bodyPost_ret (v := P3 m m r) (by simp [results, Try.results20, go_sem, *]) rfl ?_
    exact ⟨by rw [H.out], by go_grown⟩
  · have H := Lib.hid (show lat l m r 1 = l + r by unfold lat; rw [Int.mul_one]; omega)
    go_enter Try.func20, Try.ntmps20
    go_wp2
    refine bodyPost_ret (v := P3 (l + r) m r) (by simp [results, Try.results20, go_sem, *]) rfl ?_
    exact ⟨by rw [H.out], by go_grown⟩

set_option maxHeartbeats 400000 in
theorem plain_any (l m r : Int) (w : World) :
    Calls Try.prog 15 #[P3 l m r] w fun e w' => e = .returned (P3 l m r) ∧ Below w.heap.size w w' := by
  go_enter Try.func15, Try.ntmps15
  go_wp2
  refine bodyPost_ret (v := P3 l m r) (by simp [results, Try.results15, go_sem, *]) rfl ?_
  exact ⟨rfl, by go_grown⟩

set_option maxHeartbeats 400000 in
theorem same_yes (l m r : Int) (w : World) :
    Calls Try.prog 12 #[P3 l m r, P3 l m r] w fun e w' => e = .returned (.bool true) ∧ Below w.heap.size w w' := by
  go_enter Try.func12, Try.ntmps12
  go_wp2
  go_ret
  exact ⟨rfl, by go_grown⟩

set_option maxHeartbeats 800000 in
theorem rAfter (l m r t : Int) (w : World) (h : Rt l m r) (ht : 0 ≤ t) (ht' : t ≤ 9223372036854775807) :
    Calls Try.prog 21 #[P3 l m r, .int .i64 t] w fun e w' => e = .returned (P3 (lat l m r t) m r) ∧ Below w.heap.size w w' := by
  obtain ⟨h1, h2, h3, h4, h5, h6⟩ := id h
  go_enter Try.func21, Try.ntmps21
  go_wp2
  go_loopw [5] (fun i wr => ∃ k : Nat, (k : Int) ≤ t ∧ i = .int .i64 k ∧ Blk wr w.heap.size 27 #[.int .i64 (lat l m r k), .int .i64 m, .int .i64 r] ∧ Blk wr (w.heap.size + 1) 27 #[.int .i64 0, .int .i64 0, .int .i64 0] ∧ Below w.heap.size w wr)
    (fun i _ => (t - intOf i).toNat)
  case atStart =>
    refine ⟨0, by omega, rfl, ?_, ?_, by go_grown⟩
    · rw [show ((0 : Nat) : Int) = 0 from rfl, lat_zero h4]
      exact (Blk.new _ _ _).alloc _
    · exact Blk.new1 w _ _ _
  case round =>
    obtain ⟨k, hk, rfl, hb0, hb1, hbel⟩ := hrel
    have hc0 := hb0.cell
    have hf0 := hb0.frozen
    have hc1 := hb1.cell
    have hf1 := hb1.frozen
    have hl0 := hb0.lt
    have hl1 := hb1.lt
    have HB := Lib.hid (And.intro hb0 hb1)
    obtain ⟨hL1, hL2⟩ := lat_bd (t := (k : Int)) h4 h5 (by omega)
    have HS := Lib.hid (lat_succ (l := l) (m := m) (t := (k : Int)) h5)
    clear hb0 hb1
    by_cases ha : (k : Int) < t ∧ lat l m r k < m ∧ 0 < r
    · obtain ⟨a1, a2, a3⟩ := ha
      go_wp2_with (first | (go_at_call 20; refine (rTick (lat l m r k) m r _ ⟨h1, h2, by omega, hL2, h5, h6⟩).mono ?_; rintro e w1 ⟨rfl, hb⟩; have hbw := bl hbel hb; have q0 := Nat.lt_of_lt_of_le hl0 hb.size; have HW := Lib.hid (And.intro (HB.out.1.below hb hl0) (HB.out.2.below hb hl1)); have k0 := HW.out.1.cell; have f0 := HW.out.1.frozen; clear hb hc0 hf0 hc1 hf1))
      go_roundw
      case rel =>
        refine ⟨k + 1, by omega, by go_num, ?_, ?_, by go_grown⟩
        · have := ((HW.out.1.set_ 0 (.int .i64 (lat (lat l m r k) m r 1))).set_ 1 (.int .i64 m)).set_ 2 (.int .i64 r)
          rw [HS.out] at this
          rw [HS.out]
          simpa using this
        · exact ((HW.out.2.far (by simp) _).far (by simp) _).far (by simp) _
      case measure => simp [intOf]; omega
    · have hfin : lat l m r t = lat l m r k := by
        have := Int.mul_nonneg h5 (show 0 ≤ t - k by omega)
        rw [Int.mul_sub] at this
        by_cases e : (k : Int) = t
        · rw [e]
        · by_cases e2 : lat l m r k = m
          · rw [e2]; unfold lat at e2 ⊢; omega
          · obtain rfl : r = 0 := by
              by_cases e3 : r = 0
              · exact e3
              · exact absurd ⟨by omega, by omega, by omega⟩ ha
            rw [lat_none h4, lat_none h4]
      have HF := Lib.hid hfin
      clear hfin
      by_cases a1 : (k : Int) < t
      · by_cases a2 : lat l m r k < m
        · have a3 : ¬ 0 < r := fun a3 => ha ⟨a1, a2, a3⟩
          clear ha
          go_wp2
          refine bodyPost_ret (v := P3 (lat l m r k) m r) (by simp [results, Try.results21, go_sem, *]) rfl ?_
          exact ⟨by rw [HF.out], by go_grown⟩
        · clear ha
          go_wp2
          refine bodyPost_ret (v := P3 (lat l m r k) m r) (by simp [results, Try.results21, go_sem, *]) rfl ?_
          exact ⟨by rw [HF.out], by go_grown⟩
      · clear ha
        go_wp2
        refine bodyPost_ret (v := P3 (lat l m r k) m r) (by simp [results, Try.results21, go_sem, *]) rfl ?_
        exact ⟨by rw [HF.out], by go_grown⟩
end Go.Proofs.Ytefinnlnkilmpaa
