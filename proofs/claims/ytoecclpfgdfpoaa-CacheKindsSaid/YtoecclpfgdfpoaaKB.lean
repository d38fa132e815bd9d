/- The place of a key in a cache of other keys: what is returned. -/
import Derived.Test.YtoecclpfgdfpoaaKA
namespace Go.Proofs.Ytoecclpfgdfpoaa.K
open Go.RowKit

theorem asks_key {W0 : World} {q : Nat} {k : Int} (l : List Th) (hc : W0.cell? ⟨q, 0, none⟩ = some (.int .i64 k)) (hc1 : W0.cell? ⟨q, 1, none⟩ = some kstr) (hq : q < W0.heap.size) :
    Asks 49 (.pointer (some ⟨q, 0, none⟩)) W0 l (fun j => (l.getD j (0, 0)).1 == k) := fun _ _ W hW =>
  key_any q k _ _ W ((hW.cell (p := ⟨q, 0, none⟩) hq).trans hc) ((hW.cell (p := ⟨q, 1, none⟩) hq).trans hc1) (Nat.lt_of_lt_of_le hq hW.size)

set_option maxHeartbeats 1000000 in
theorem find_some (p : Nat) (s : Value) (room : Int) (l : List Th) (k : Int) (r : Nat) (w : World) (h : Cch w p s room l) (hl : l.length ≤ 1000000) (hr : r < l.length)
    (hf : (l.getD r (0, 0)).1 = k) (hno : ∀ j, j < r → (l.getD j (0, 0)).1 ≠ k) :
    Calls Try.prog 39 #[.pointer (some ⟨p, 0, none⟩), nm k] w fun e w' => e = .returned (.int .i64 r) ∧ Below w.heap.size w w' := by
  have c1 := h.blk.cell 1
  have hlt := h.blk.lt
  have HO := Lib.hid (h.own.alloc (.cells #[.int .i64 k, kstr] 31))
  have HA := Lib.hid (asks_key (W0 := w.alloc (.cells #[.int .i64 k, kstr] 31)) (q := w.heap.size) (k := k) l (by simp) (by simp) (by simp))
  have HF := Lib.hid (show ((l.getD r (0, 0)).1 == k) = true by simpa using hf)
  have HN := Lib.hid (fun j (hj : j < r) => show ((l.getD j (0, 0)).1 == k) = false by simpa using hno j hj)
  simp at c1
  clear h hf hno
  go_enter Try.func39, Try.ntmps39
  go_wp2_with fail
  refine (index_some 49 _ s l _ r _ HO.out hr hl HF.out HN.out (fun v W => calls49 v _ W) HA.out).mono ?_
  rintro e w1 ⟨rfl, hb⟩
  have hb1 : Below w.heap.size w w1 := bl (by go_grown) hb
  clear hb
  go_wp2
  go_ret
  exact ⟨rfl, hb1⟩

set_option maxHeartbeats 1000000 in
theorem find_none (p : Nat) (s : Value) (room : Int) (l : List Th) (k : Int) (w : World) (h : Cch w p s room l) (hl : l.length ≤ 1000000)
    (hno : ∀ j, j < l.length → (l.getD j (0, 0)).1 ≠ k) :
    Calls Try.prog 39 #[.pointer (some ⟨p, 0, none⟩), nm k] w fun e w' => e = .returned (.int .i64 (-1)) ∧ Below w.heap.size w w' := by
  have c1 := h.blk.cell 1
  have hlt := h.blk.lt
  have HO := Lib.hid (h.own.alloc (.cells #[.int .i64 k, kstr] 31))
  have HA := Lib.hid (asks_key (W0 := w.alloc (.cells #[.int .i64 k, kstr] 31)) (q := w.heap.size) (k := k) l (by simp) (by simp) (by simp))
  have HN := Lib.hid (fun j (hj : j < l.length) => show ((l.getD j (0, 0)).1 == k) = false by simpa using hno j hj)
  simp at c1
  clear h hno
  go_enter Try.func39, Try.ntmps39
  go_wp2_with fail
  refine (index_none 49 _ s l _ _ HO.out hl HN.out (fun v W => calls49 v _ W) HA.out).mono ?_
  rintro e w1 ⟨rfl, hb⟩
  have hb1 : Below w.heap.size w w1 := bl (by go_grown) hb
  clear hb
  go_wp2
  go_ret
  exact ⟨rfl, hb1⟩

set_option maxHeartbeats 400000 in
theorem find_nil (k : Int) (w : World) :
    Calls Try.prog 39 #[.pointer none, nm k] w fun e w' => e = .returned (.int .i64 (-1)) ∧ Below w.heap.size w w' := by
  go_enter Try.func39, Try.ntmps39
  go_wp2
  go_ret
  exact ⟨rfl, by go_grown⟩

end Go.Proofs.Ytoecclpfgdfpoaa.K
