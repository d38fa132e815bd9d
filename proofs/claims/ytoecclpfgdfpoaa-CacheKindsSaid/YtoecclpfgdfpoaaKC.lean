/- The calls on a cache of other keys: what each returns, and what the cache holds then. -/
import Derived.Test.YtoecclpfgdfpoaaKL
import Derived.Laws.ResultCell
namespace Go.Proofs.Ytoecclpfgdfpoaa.K
open Go.RowKit


theorem ret_blk {w w1 : World} {o : Obj} {t : TypeId} {c : Array Value} (h : Below ((w.alloc o).alloc (.cells c t)).heap.size ((w.alloc o).alloc (.cells c t)) w1) : Blk w1 (w.heap.size + 1) t c := by
  have := Blk.new (w.alloc o) t c
  rw [World.size_alloc] at this
  exact this.below h (by simp)

/-- A new cache. -/
def NewPost (room : Int) (w : World) (e : Ending) (w' : World) : Prop :=
  ∃ p, e = .returned (.tuple #[.pointer (some ⟨p, 0, none⟩), .int .i64 0]) ∧ Cch w' p (.slice none 0 0) room [] ∧ w.heap.size ≤ p ∧ Below w.heap.size w w'

set_option maxHeartbeats 400000 in
theorem new_yes (room : Int) (h1 : 1 ≤ room) (h2 : room ≤ 16) (w : World) : Calls Try.prog 10 #[.int .i64 room] w (NewPost room w) := by
  go_enter Try.func10, Try.ntmps10
  go_wp2
  go_ret2
  exact ⟨w.heap.size, rfl, ⟨Blk.new _ _ _, Own.nil _ _ _, by simp [Value.ownBlock]⟩, Nat.le_refl _, by go_grown⟩

set_option maxHeartbeats 400000 in
theorem new_no (room : Int) (h : room < 1 ∨ 16 < room) (w : World) : Calls Try.prog 10 #[.int .i64 room] w fun e w' => e = .returned (.tuple #[.pointer none, .int .i64 10]) ∧ w = w' := by
  by_cases h1 : room < 1
  · clear h
    go_enter Try.func10, Try.ntmps10
    go_wp2
    go_ret2
    exact ⟨rfl, rfl⟩
  · have h2 : 16 < room := by omega
    clear h
    go_enter Try.func10, Try.ntmps10
    go_wp2
    go_ret2
    exact ⟨rfl, rfl⟩

theorem of_pos {w : World} {s : Value} {l : List Th} (h : Own w 81 4 s l.length (flat l)) (hn : 0 < l.length) : ∃ g cap, s = .slice (some ⟨g, 0, none⟩) l.length cap ∧ g < w.heap.size := by
  obtain ⟨g, cap, cur, h1, h2, _⟩ := h.of_pos hn
  exact ⟨g, cap, h1, h2.lt⟩

set_option maxHeartbeats 1000000 in
theorem peek_yes (p : Nat) (s : Value) (room : Int) (l : List Th) (k : Int) (w : World) (h : Cch w p s room l) (hl : l.length ≤ 1000000) (hk : has l k = true) :
    Calls Try.prog 16 #[.pointer (some ⟨p, 0, none⟩), nm k] w fun e w' => e = .returned (.tuple #[tw (val l k), .bool true]) ∧ Below w.heap.size w w' := by
  obtain ⟨h1, h2, h3, h4, _⟩ := pos_spec hk
  obtain ⟨g, cap, rfl, hg⟩ := of_pos h.own (by omega)
  have HC := Lib.hid (fun W hW => find_some p _ room l k (pos l k) W (h.fresh hW) hl h1 h2 h4)
  have q0 := h.blk.cell 1
  obtain ⟨_, _, q1, q2⟩ := own_cells h.own h1
  rw [h3] at q1 q2
  have hp := h.blk.lt
  have i0 : (0 : Int) ≤ (pos l k : Int) := by omega
  have i1 : (pos l k : Int) < (l.length : Int) := by omega
  simp at q0
  generalize pos l k = r at *
  generalize val l k = v at *
  clear h h2 h3 h4 hk
  go_enter Try.func16, Try.ntmps16
  go_wp2_with fail
  refine (HC.out _ (by go_grown)).mono ?_
  rintro e w1 ⟨rfl, hb0⟩
  have hb : Below w.heap.size w w1 := bl (by go_grown) hb0
  have kb := ret_blk hb0
  have c0 := kb.cell 0
  have c1 := kb.cell 1
  have f0 := kb.frozen 0
  have f1 := kb.frozen 1
  have hs := hb0.size
  simp at c0 c1 hs
  have hne : ¬ w.heap.size + 1 = w1.heap.size := by omega
  have hlt1 : w.heap.size + 1 < w1.heap.size := by omega
  clear hb0 kb
  have q0' := (hb.cell (p := ⟨p, 1, none⟩) hp).trans q0
  have q1' := (hb.cell (p := ⟨g, r * 4 + 2, none⟩) hg).trans q1
  have q2' := (hb.cell (p := ⟨g, r * 4 + 3, none⟩) hg).trans q2
  go_wp2_with fail
  refine bodyPost_ret (by rw [results_cell_tmp rfl]; go_simp; first | rfl | (go_simp; rfl)) rfl ?_
  exact ⟨rfl, by go_grown⟩

set_option maxHeartbeats 1000000 in
theorem peek_no (p : Nat) (s : Value) (room : Int) (l : List Th) (k : Int) (w : World) (h : Cch w p s room l) (hl : l.length ≤ 1000000) (hk : has l k = false) :
    Calls Try.prog 16 #[.pointer (some ⟨p, 0, none⟩), nm k] w fun e w' => e = .returned (.tuple #[tw 0, .bool false]) ∧ Below w.heap.size w w' := by
  have HC := Lib.hid (fun W hW => find_none p _ room l k W (h.fresh hW) hl (not_has hk))
  clear h hk
  go_enter Try.func16, Try.ntmps16
  go_wp2_with fail
  refine (HC.out _ (by go_grown)).mono ?_
  rintro e w1 ⟨rfl, hb0⟩
  have hb : Below w.heap.size w w1 := bl (by go_grown) hb0
  have kb := ret_blk hb0
  have c0 := kb.cell 0
  have c1 := kb.cell 1
  have f0 := kb.frozen 0
  have f1 := kb.frozen 1
  have hs := hb0.size
  simp at c0 c1 hs
  have hne : ¬ w.heap.size + 1 = w1.heap.size := by omega
  have hlt1 : w.heap.size + 1 < w1.heap.size := by omega
  clear hb0 kb
  go_wp2_with fail
  refine bodyPost_ret (by rw [results_cell_tmp rfl]; go_simp; first | rfl | (go_simp; rfl)) rfl ?_
  exact ⟨rfl, by go_grown⟩

set_option maxHeartbeats 1000000 in
theorem peek_nil (k : Int) (w : World) :
    Calls Try.prog 16 #[.pointer none, nm k] w fun e w' => e = .returned (.tuple #[tw 0, .bool false]) ∧ Below w.heap.size w w' := by
  go_enter Try.func16, Try.ntmps16
  go_wp2_with fail
  refine (find_nil k _).mono ?_
  rintro e w1 ⟨rfl, hb0⟩
  have hb : Below w.heap.size w w1 := bl (by go_grown) hb0
  have kb := ret_blk hb0
  have c0 := kb.cell 0
  have c1 := kb.cell 1
  have f0 := kb.frozen 0
  have f1 := kb.frozen 1
  have hs := hb0.size
  simp at c0 c1 hs
  have hne : ¬ w.heap.size + 1 = w1.heap.size := by omega
  have hlt1 : w.heap.size + 1 < w1.heap.size := by omega
  clear hb0 kb
  go_wp2_with fail
  refine bodyPost_ret (by rw [results_cell_tmp rfl]; go_simp; first | rfl | (go_simp; rfl)) rfl ?_
  exact ⟨rfl, by go_grown⟩

end Go.Proofs.Ytoecclpfgdfpoaa.K
