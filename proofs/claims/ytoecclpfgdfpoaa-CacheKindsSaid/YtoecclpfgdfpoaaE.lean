/- Rows of numbers: what compares two of them; the keys of a cache. -/
import Derived.Test.YtoecclpfgdfpoaaD
import Derived.Deep.OwnRows
import Derived.Deep.LoopGhost
namespace Go.Proofs.Ytoecclpfgdfpoaa
open Go.RowKit

def ints (l : List Int) : List Value := l.map (Value.int .i64)

/-- A row of numbers that can be read. -/
def RowI (w : World) (a : Option Addr) (xs : List Int) : Prop :=
  xs = [] ∨ ∃ b off, a = some ⟨b, off, none⟩ ∧ b < w.heap.size ∧ ∀ i, i < xs.length → w.cell? ⟨b, off + i, none⟩ = some (.int .i64 (xs.getD i 0))

theorem RowI.at_ {w : World} {a : Option Addr} {xs : List Int} (h : RowI w a xs) {k : Nat} (hk : k < xs.length) :
    ∃ b off, a = some ⟨b, off, none⟩ ∧ b < w.heap.size ∧ w.cell? ⟨b, off + k, none⟩ = some (.int .i64 (xs.getD k 0)) := by
  rcases h with rfl | ⟨b, off, h1, h2, h3⟩
  · simp at hk
  · exact ⟨b, off, h1, h2, h3 k hk⟩
theorem RowI.fresh {w w' : World} {a : Option Addr} {xs : List Int} (h : RowI w a xs) (hb : Below w.heap.size w w') : RowI w' a xs := by
  rcases h with e | ⟨b, off, h1, h2, h3⟩
  · exact .inl e
  · exact .inr ⟨b, off, h1, Nat.lt_of_lt_of_le h2 hb.size, fun i hi => by rw [hb.cell (p := ⟨b, off + i, none⟩) h2]; exact h3 i hi⟩

theorem ints_get {l : List Int} {j : Nat} (h : j < l.length) : (ints l)[j]? = some (.int .i64 (l.getD j 0)) := by
  simp [ints, List.getD_eq_getElem?_getD, h]

theorem row_of_own {w : World} {s : Value} {n : Nat} {l : List Int} (h : Own w 3 1 s n (ints l)) : ∃ a c, s = .slice a l.length c ∧ n = l.length ∧ RowI w a l := by
  have hn : n = l.length := by have := h.len; simp [ints] at this; omega
  subst hn
  obtain ⟨a, c, rfl⟩ := h.of_any
  refine ⟨a, c, rfl, rfl, ?_⟩
  by_cases h0 : 0 < l.length
  · obtain ⟨g, cap, cur, e1, hb, _⟩ := h.of_pos h0
    simp only [Value.slice.injEq, true_and] at e1
    obtain ⟨rfl, rfl⟩ := e1
    refine .inr ⟨g, 0, rfl, hb.lt, fun i hi => ?_⟩
    have := World.ownsRow.cells h (g := g) rfl _ _ (ints_get hi)
    rw [Addr.add_lit] at this
    exact this
  · exact .inl (List.eq_nil_of_length_eq_zero (by omega))

set_option maxHeartbeats 800000 in
theorem ints_any (a b : Option Addr) (c d : Nat) (xs : List Int) (w : World) (ha : RowI w a xs) (hb : RowI w b xs) (hl : xs.length ≤ 1000000) :
    Calls Try.prog 21 #[.slice a xs.length c, .slice b xs.length d] w fun e w' => e = .returned (.bool true) ∧ Below w.heap.size w w' := by
  have HA := Lib.hid ha
  have HB := Lib.hid hb
  clear ha hb
  go_enter Try.func21, Try.ntmps21
  go_wp2
  go_loopw [5] (fun i wr => ∃ k : Nat, k ≤ xs.length ∧ i = .int .i64 k ∧ Below w.heap.size w wr)
    (fun i _ => xs.length - (intOf i).toNat)
  case atStart => exact ⟨0, by omega, rfl, by go_grown⟩
  case round =>
    obtain ⟨k, hk, rfl, hbel⟩ := hrel
    by_cases hlt : k < xs.length
    · obtain ⟨b1, o1, rfl, l1, c1⟩ := HA.out.at_ hlt
      obtain ⟨b2, o2, rfl, l2, c2⟩ := HB.out.at_ hlt
      replace c1 := (hbel.cell (p := ⟨b1, o1 + k, none⟩) l1).trans c1
      replace c2 := (hbel.cell (p := ⟨b2, o2 + k, none⟩) l2).trans c2
      have k0 : (0 : Int) ≤ (k : Int) := by omega
      have k1 : (k : Int) < (xs.length : Int) := by omega
      generalize xs.getD k 0 = x at *
      clear HA HB
      go_wp2
      go_quiet (fail)
      go_wp2
      go_roundw
      case rel => exact ⟨k + 1, by omega, by go_num, below_drewN hbel _⟩
      case measure => simp [intOf]; omega
    · go_wp2
      go_ret
      exact ⟨rfl, hbel⟩

theorem info3 : (Try.prog.info? 3).map (fun i => (i.zero, i.size, i.bytes)) = some (some (.int .i64 0), 1, 8) := by kernel_rfl

theorem own_of_rowIs {w : World} {b n : Nat} {l : List Int} (h : w.rowIs b 3 n (fun i => .int .i64 (l.getD i 0))) (hn : n = l.length) (hm : n ≤ 1000000) :
    Own w 3 1 (.slice (some ⟨b, 0, none⟩) n n) n (ints l) := by
  obtain ⟨c, h1, h2, h3⟩ := h
  refine Own.mk h1 (Nat.le_refl _) (by omega) (by omega) ?_
  rw [Nat.mul_one, List.take_of_length_le (by rw [Array.length_toList]; omega)]
  apply List.ext_getElem?
  intro i
  rw [Array.getElem?_toList]
  by_cases hi : i < n
  · rw [h3 i hi, ints_get (by omega)]
  · rw [Array.getElem?_eq_none (by omega), List.getElem?_eq_none (by simp [ints]; omega)]

/-- A result that is a new row of numbers. -/
def NewRow (l : List Int) (w : World) (e : Ending) (w' : World) : Prop :=
  ∃ s, e = .returned s ∧ Own w' 3 1 s l.length (ints l) ∧ (∀ b, s.ownBlock = some b → w.heap.size ≤ b) ∧ Below w.heap.size w w'

theorem own_at {w : World} {a : Option Addr} {cap : Nat} {l : List Th} (h : Own w 77 2 (.slice a l.length cap) l.length (flat l)) {j : Nat} (hj : j < l.length) :
    ∃ g, a = some ⟨g, 0, none⟩ ∧ g < w.heap.size ∧ w.cell? ⟨g, j * 2, none⟩ = some (.int .i64 (l.getD j (0, 0)).1) ∧ w.cell? ⟨g, j * 2 + 1, none⟩ = some (.int .i64 (l.getD j (0, 0)).2) := by
  obtain ⟨g, cap', e1, hg⟩ := of_pos h (by omega)
  simp only [Value.slice.injEq, true_and] at e1
  obtain ⟨rfl, rfl⟩ := e1
  exact ⟨g, rfl, hg, own_cells h hj⟩

theorem keys_get {l : List Th} {j : Nat} (h : j < l.length) : (keys l).getD j 0 = (l.getD j (0, 0)).1 := by
  simp [keys, List.getD_eq_getElem?_getD, h]
theorem keys_len (l : List Th) : (keys l).length = l.length := by simp [keys]

set_option maxHeartbeats 1000000 in
theorem keys_any (p : Nat) (s : Value) (room : Int) (l : List Th) (w : World) (h : Cch w p s room l) (hl : l.length ≤ 1000000) :
    Calls Try.prog 19 #[.pointer (some ⟨p, 0, none⟩)] w (NewRow (keys l) w) := by
  obtain ⟨a, cap, rfl⟩ := h.own.of_any
  have q1 := h.blk.cell 1
  simp at q1
  have hp := h.blk.lt
  have HAT := Lib.hid (fun j => own_at h.own (j := j))
  have hmk := run_make_row' (P := Try.prog) 44 3 (.int .i64 0) 8 Try.underlying44 info3 rfl .i64 .i64 l.length (by omega) (by omega)
  have HKL := Lib.hid (keys_len l)
  clear h
  generalize hn : l.length = n at *
  have HN := Lib.hid hn
  clear hn
  go_enter Try.func19, Try.ntmps19
  go_wp2
  go_loopw [4, 5, 19] (fun _ _ i wr => ∃ k : Nat, k ≤ n ∧ i = .int .i64 k ∧ wr.rowIs w.heap.size 3 n (fun j => .int .i64 (if j < k then (keys l).getD j 0 else 0)) ∧ Below w.heap.size w wr)
    (fun _ _ i _ => n - (intOf i).toNat)
  case atStart =>
    refine ⟨0, by omega, rfl, (World.rowIs_made w _ n 3).congr (fun i hi => by simp), by go_grown⟩
  case round =>
    obtain ⟨k, hk, rfl, hrow, hbel⟩ := hrel
    have hlt := hrow.lt
    have HR := Lib.hid hrow
    clear hrow hmk
    by_cases hlk : k < n
    · have hll : k < l.length := by rw [HN.out]; exact hlk
      have k0 : (0 : Int) ≤ (k : Int) := by omega
      have k1 : (k : Int) < (n : Int) := by omega
      obtain ⟨g, rfl, hg, q2, q3⟩ := HAT.out k hlk
      have HKG := Lib.hid (keys_get hll)
      replace q2 := (hbel.cell (p := ⟨g, k * 2, none⟩) hg).trans q2
      replace q3 := (hbel.cell (p := ⟨g, k * 2 + 1, none⟩) hg).trans q3
      generalize (l.getD k (0, 0)).1 = x at *
      generalize (l.getD k (0, 0)).2 = y at *
      have HR1 := Lib.hid (HR.out.alloc (.cells #[.int .i64 x, .int .i64 y] 77))
      have c1 := HR1.out.cell hlk
      have f1 := HR1.out.frozen k
      have hne : ¬ w.heap.size = wr.heap.size := by omega
      go_wp2
      go_roundw
      case rel =>
        refine ⟨k + 1, by omega, by go_num, ((HR.out.set k (.int .i64 x)).alloc _).congr (fun i hi => ?_), by go_grown⟩
        by_cases e : i = k
        · subst e; rw [if_pos rfl, if_pos (by omega), HKG.out]
        · simp only [e, if_false]
          by_cases e2 : i < k
          · rw [if_pos e2, if_pos (by omega)]
          · rw [if_neg e2, if_neg (by omega)]
      case measure => simp [intOf]; omega
    · obtain rfl : k = n := by omega
      have HF := Lib.hid (own_of_rowIs (l := keys l) (HR.out.congr (g := fun i => .int .i64 ((keys l).getD i 0)) (fun i hi => by simp [hi])) (by rw [HKL.out]) (by omega))
      go_wp2
      go_ret
      refine ⟨_, rfl, ?_, ?_, hbel⟩
      · rw [HKL.out]; exact HF.out
      · intro b hb
        simp [Value.ownBlock] at hb
        omega
end Go.Proofs.Ytoecclpfgdfpoaa
