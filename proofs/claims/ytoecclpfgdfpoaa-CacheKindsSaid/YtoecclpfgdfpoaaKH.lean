/- The keys of a cache of other keys: a new row of names is returned. -/
import Derived.Test.YtoecclpfgdfpoaaKF
namespace Go.Proofs.Ytoecclpfgdfpoaa.K
open Go.RowKit

theorem info31 : (Try.prog.info? 31).map (fun i => (i.zero, i.size, i.bytes)) = some (some (.agg #[.int .i64 0, .string { data := #[] }]), 2, 24) := by kernel_rfl

/-- The cells of a row of names, of which the first k are laid. -/
def nmAt (l : List Int) (k : Nat) (j : Nat) : Value := if j % 2 = 0 then .int .i64 (if j / 2 < k then l.getD (j / 2) 0 else 0) else if j / 2 < k then kstr else .string { data := #[] }

theorem nm_made (w : World) (l : List Int) (n : Nat) : (w.alloc (.cells (madeCells #[.int .i64 0, .string { data := #[] }] (n * 2)) 31)).rowIs w.heap.size 31 (n * 2) (nmAt l 0) := by
  have h := World.rowIs_alloc w (madeCells #[.int .i64 0, .string { data := #[] }] (n * 2)) 31 (nmAt l 0) (fun i hi => by
    rw [size_madeCells] at hi
    simp only [madeCells, Array.getElem?_map, Array.getElem?_range, hi, ↓reduceIte, Option.map_some, nmAt]
    rcases Nat.mod_two_eq_zero_or_one i with h | h <;> simp [h])
  rwa [size_madeCells] at h

theorem nm_step {l : List Int} {k n : Nat} {w : World} {b : Nat} (h : w.rowIs b 31 (n * 2) (nmAt l k)) {x : Int} (hx : l.getD k 0 = x) :
    ((w.setCell ⟨b, k * 2, none⟩ (.int .i64 x)).setCell ⟨b, k * 2 + 1, none⟩ kstr).rowIs b 31 (n * 2) (nmAt l (k + 1)) := by
  refine ((h.set (k * 2) (.int .i64 x)).set (k * 2 + 1) kstr).congr (fun i hi => ?_)
  by_cases e1 : i = k * 2 + 1
  · subst e1
    rw [if_pos rfl]
    unfold nmAt
    rw [if_neg (by omega), if_pos (by omega)]
  · rw [if_neg e1]
    by_cases e2 : i = k * 2
    · subst e2
      rw [if_pos rfl]
      unfold nmAt
      rw [if_pos (by omega), if_pos (by omega), show k * 2 / 2 = k by omega, hx]
    · rw [if_neg e2]
      unfold nmAt
      by_cases e3 : i / 2 < k
      · simp only [e3, show i / 2 < k + 1 by omega, if_true]
      · simp only [e3, show ¬ i / 2 < k + 1 by omega, if_false]

theorem make_names (n : Nat) (hn : n ≤ 1000000) (w : World) :
    (Instr.makeSlice 46 (.int .i64 (n : Int)) (.int .i64 (n : Int))).run Try.prog w = .ok (.slice (some ⟨w.heap.size, 0, none⟩) n n) (w.alloc (.cells (madeCells #[.int .i64 0, .string { data := #[] }] (n * 2)) 31)) := by
  obtain ⟨i, hi, hzz⟩ := Option.map_eq_some_iff.1 info31
  simp only [Prod.mk.injEq] at hzz
  obtain ⟨hz, hs, hb⟩ := hzz
  have hr := run_make (P := Try.prog) w 46 31 i _ Try.underlying46 hi hz .i64 .i64 n n (by omega) (Int.le_refl _) (by rw [hb]; omega) (by omega)
  simp only [Int.toNat_natCast, hs] at hr
  exact hr

/-- A result that is a new row of names. -/
def NewNames (l : List Int) (w : World) (e : Ending) (w' : World) : Prop :=
  ∃ b, e = .returned (.slice (some ⟨b, 0, none⟩) l.length l.length) ∧ w.heap.size ≤ b ∧ w'.rowIs b 31 (l.length * 2) (nmAt l l.length) ∧ Below w.heap.size w w'

theorem own_at {w : World} {a : Option Addr} {cap : Nat} {l : List Th} (h : Own w 81 4 (.slice a l.length cap) l.length (flat l)) {j : Nat} (hj : j < l.length) :
    ∃ g, a = some ⟨g, 0, none⟩ ∧ g < w.heap.size ∧ w.cell? ⟨g, j * 4, none⟩ = some (.int .i64 (l.getD j (0, 0)).1) ∧ w.cell? ⟨g, j * 4 + 1, none⟩ = some kstr ∧ w.cell? ⟨g, j * 4 + 2, none⟩ = some (.int .i64 (l.getD j (0, 0)).2) ∧ w.cell? ⟨g, j * 4 + 3, none⟩ = some (.int .i64 (l.getD j (0, 0)).2) := by
  obtain ⟨g, cap', e1, hg⟩ := of_pos h (by omega)
  simp only [Value.slice.injEq, true_and] at e1
  obtain ⟨rfl, rfl⟩ := e1
  exact ⟨g, rfl, hg, own_cells h hj⟩

set_option maxHeartbeats 1000000 in
theorem keys_any (p : Nat) (s : Value) (room : Int) (l : List Th) (w : World) (h : Cch w p s room l) (hl : l.length ≤ 1000000) :
    Calls Try.prog 20 #[.pointer (some ⟨p, 0, none⟩)] w (NewNames (keys l) w) := by
  obtain ⟨a, cap, rfl⟩ := h.own.of_any
  have q1 := h.blk.cell 1
  simp at q1
  have hp := h.blk.lt
  have HAT := Lib.hid (fun j => own_at h.own (j := j))
  have hmk := make_names l.length hl
  have HKL := Lib.hid (keys_len l)
  clear h
  generalize hn : l.length = n at *
  have HN := Lib.hid hn
  clear hn
  go_enter Try.func20, Try.ntmps20
  go_wp2
  go_loopw [4, 5, 19] (fun _ _ i wr => ∃ k : Nat, k ≤ n ∧ i = .int .i64 k ∧ wr.rowIs w.heap.size 31 (n * 2) (nmAt (keys l) k) ∧ Below w.heap.size w wr)
    (fun _ _ i _ => n - (intOf i).toNat)
  case atStart =>
    refine ⟨0, by omega, rfl, nm_made w _ n, by go_grown⟩
  case round =>
    obtain ⟨k, hk, rfl, hrow, hbel⟩ := hrel
    have hlt := hrow.lt
    have HR := Lib.hid hrow
    clear hrow hmk
    by_cases hlk : k < n
    · have hll : k < l.length := by rw [HN.out]; exact hlk
      have k0 : (0 : Int) ≤ (k : Int) := by omega
      have k1 : (k : Int) < (n : Int) := by omega
      obtain ⟨g, rfl, hg, q2, q3, q4, q5⟩ := HAT.out k hlk
      have HKG := Lib.hid (keys_get hll)
      replace q2 := (hbel.cell (p := ⟨g, k * 4, none⟩) hg).trans q2
      replace q3 := (hbel.cell (p := ⟨g, k * 4 + 1, none⟩) hg).trans q3
      replace q4 := (hbel.cell (p := ⟨g, k * 4 + 2, none⟩) hg).trans q4
      replace q5 := (hbel.cell (p := ⟨g, k * 4 + 3, none⟩) hg).trans q5
      generalize (l.getD k (0, 0)).1 = x at *
      generalize (l.getD k (0, 0)).2 = y at *
      have HR1 := Lib.hid (HR.out.alloc (.cells #[.int .i64 x, kstr, .int .i64 y, .int .i64 y] 81))
      have c1 := HR1.out.cell (i := k * 2) (by omega)
      have c2 := HR1.out.cell (i := k * 2 + 1) (by omega)
      have f1 := HR1.out.frozen (k * 2)
      have f2 := HR1.out.frozen (k * 2 + 1)
      have c3 := HR.out.cell (i := k * 2) (by omega)
      have c4 := HR.out.cell (i := k * 2 + 1) (by omega)
      have f3 := HR.out.frozen (k * 2)
      have f4 := HR.out.frozen (k * 2 + 1)
      have hne : ¬ w.heap.size = wr.heap.size := by omega
      go_wp2
      go_roundw
      case rel =>
        exact ⟨k + 1, by omega, by go_num, (nm_step HR.out HKG.out).alloc _, by go_grown⟩
      case measure => simp [intOf]; omega
    · obtain rfl : k = n := by omega
      go_wp2
      go_ret
      refine ⟨w.heap.size, by rw [HKL.out]; rfl, Nat.le_refl _, ?_, hbel⟩
      rw [HKL.out]
      exact HR.out
end Go.Proofs.Ytoecclpfgdfpoaa.K
