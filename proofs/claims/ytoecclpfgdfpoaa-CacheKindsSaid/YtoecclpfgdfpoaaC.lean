/- The calls on a cache: what each returns, and what the cache holds then. -/
import Derived.Test.YtoecclpfgdfpoaaM
import Derived.Deep.RegionWith
namespace Go.Proofs.Ytoecclpfgdfpoaa
open Go.RowKit

/-- A new cache. -/
def NewPost (room : Int) (w : World) (e : Ending) (w' : World) : Prop :=
  ∃ p, e = .returned (.tuple #[.pointer (some ⟨p, 0, none⟩), .int .i64 0]) ∧ Cch w' p (.slice none 0 0) room [] ∧ w.heap.size ≤ p ∧ Below w.heap.size w w'

set_option maxHeartbeats 400000 in
theorem new_yes (room : Int) (h1 : 1 ≤ room) (h2 : room ≤ 16) (w : World) : Calls Try.prog 9 #[.int .i64 room] w (NewPost room w) := by
  go_enter Try.func9, Try.ntmps9
  go_wp2
  go_ret2
  exact ⟨w.heap.size, rfl, ⟨Blk.new _ _ _, Own.nil _ _ _, by simp [Value.ownBlock]⟩, Nat.le_refl _, by go_grown⟩

set_option maxHeartbeats 400000 in
theorem new_no (room : Int) (h : room < 1 ∨ 16 < room) (w : World) : Calls Try.prog 9 #[.int .i64 room] w fun e w' => e = .returned (.tuple #[.pointer none, .int .i64 10]) ∧ w = w' := by
  by_cases h1 : room < 1
  · clear h
    go_enter Try.func9, Try.ntmps9
    go_wp2
    go_ret2
    exact ⟨rfl, rfl⟩
  · have h2 : 16 < room := by omega
    clear h
    go_enter Try.func9, Try.ntmps9
    go_wp2
    go_ret2
    exact ⟨rfl, rfl⟩

theorem of_pos {w : World} {s : Value} {l : List Th} (h : Own w 77 2 s l.length (flat l)) (hn : 0 < l.length) : ∃ g cap, s = .slice (some ⟨g, 0, none⟩) l.length cap ∧ g < w.heap.size := by
  obtain ⟨g, cap, cur, h1, h2, _⟩ := h.of_pos hn
  exact ⟨g, cap, h1, h2.lt⟩

set_option maxHeartbeats 1000000 in
theorem peek_yes (p : Nat) (s : Value) (room : Int) (l : List Th) (k : Int) (w : World) (h : Cch w p s room l) (hl : l.length ≤ 1000000) (hk : has l k = true) :
    Calls Try.prog 15 #[.pointer (some ⟨p, 0, none⟩), .int .i64 k] w fun e w' => e = .returned (.tuple #[.int .i64 (val l k), .bool true]) ∧ Below w.heap.size w w' := by
  obtain ⟨h1, h2, h3, h4, _⟩ := pos_spec hk
  obtain ⟨g, cap, rfl, hg⟩ := of_pos h.own (by omega)
  have HC := Lib.hid (find_some p _ room l k (pos l k) w h hl h1 h2 h4)
  have q0 := h.blk.cell 1
  have q1 := (own_cells h.own h1).2
  rw [h3] at q1
  have hp := h.blk.lt
  have i0 : (0 : Int) ≤ (pos l k : Int) := by omega
  have i1 : (pos l k : Int) < (l.length : Int) := by omega
  simp at q0
  generalize pos l k = r at *
  generalize val l k = v at *
  clear h h2 h3 h4 hk
  go_enter Try.func15, Try.ntmps15
  go_wp2_with fail
  refine HC.out.mono ?_
  rintro e w1 ⟨rfl, hb⟩
  have q0' := (hb.cell (p := ⟨p, 1, none⟩) hp).trans q0
  have q1' := (hb.cell (p := ⟨g, r * 2 + 1, none⟩) hg).trans q1
  go_wp2_with fail
  go_ret2
  exact ⟨rfl, hb⟩

set_option maxHeartbeats 1000000 in
theorem peek_no (p : Nat) (s : Value) (room : Int) (l : List Th) (k : Int) (w : World) (h : Cch w p s room l) (hl : l.length ≤ 1000000) (hk : has l k = false) :
    Calls Try.prog 15 #[.pointer (some ⟨p, 0, none⟩), .int .i64 k] w fun e w' => e = .returned (.tuple #[.int .i64 0, .bool false]) ∧ Below w.heap.size w w' := by
  have HC := Lib.hid (find_none p _ room l k w h hl (not_has hk))
  clear h hk
  go_enter Try.func15, Try.ntmps15
  go_wp2_with fail
  refine HC.out.mono ?_
  rintro e w1 ⟨rfl, hb⟩
  go_wp2_with fail
  go_ret2
  exact ⟨rfl, hb⟩

set_option maxHeartbeats 1000000 in
theorem peek_nil (k : Int) (w : World) :
    Calls Try.prog 15 #[.pointer none, .int .i64 k] w fun e w' => e = .returned (.tuple #[.int .i64 0, .bool false]) ∧ Below w.heap.size w w' := by
  go_enter Try.func15, Try.ntmps15
  go_wp2_with fail
  refine (find_nil k _).mono ?_
  rintro e w1 ⟨rfl, hb⟩
  go_wp2_with fail
  go_ret2
  exact ⟨rfl, hb⟩

/-- What Get leaves. -/
def GetPost (p : Nat) (s : Value) (room : Int) (l : List Th) (k : Int) (w : World) (e : Ending) (w' : World) : Prop :=
  e = .returned (.tuple #[.int .i64 (if has l k then val l k else 0), .bool (has l k)]) ∧ Cch w' p s room (getL l k) ∧ Kept (O p s) w w'

set_option maxHeartbeats 1000000 in
theorem get_yes (p : Nat) (s : Value) (room : Int) (l : List Th) (k : Int) (w : World) (h : Cch w p s room l) (hl : l.length ≤ 1000000) (hk : has l k = true) :
    Calls Try.prog 12 #[.pointer (some ⟨p, 0, none⟩), .int .i64 k] w (GetPost p s room l k w) := by
  obtain ⟨h1, h2, h3, h4, _⟩ := pos_spec hk
  obtain ⟨g, cap, rfl, hg⟩ := of_pos h.own (by omega)
  have HC := Lib.hid (find_some p _ room l k (pos l k) w h hl h1 h2 h4)
  have HH := Lib.hid h
  have q0 := h.blk.cell 1
  have q2 := (own_cells h.own h1).1
  have q1 := (own_cells h.own h1).2
  rw [h3] at q1
  rw [h2] at q2
  have hp := h.blk.lt
  have i0 : (0 : Int) ≤ (pos l k : Int) := by omega
  have i1 : (pos l k : Int) < (l.length : Int) := by omega
  have HL := Lib.hid (lifted_get hk)
  have HK := Lib.hid hk
  simp at q0
  generalize pos l k = r at *
  generalize hv : val l k = v at *
  have HV := Lib.hid hv
  clear h h2 h3 h4 hk hv
  go_enter Try.func12, Try.ntmps12
  go_wp2_with fail
  refine HC.out.mono ?_
  rintro e w1 ⟨rfl, hb⟩
  have q0' := (hb.cell (p := ⟨p, 1, none⟩) hp).trans q0
  have q1' := (hb.cell (p := ⟨g, r * 2 + 1, none⟩) hg).trans q1
  have q2' := (hb.cell (p := ⟨g, r * 2, none⟩) hg).trans q2
  have HB := Lib.hid hb
  have H1 := Lib.hid (HH.out.fresh hb)
  have hs := hb.size
  clear hb
  go_wp2_with fail
  refine (lift_any p (.slice (some ⟨g, 0, none⟩) l.length cap) room l r (k, v) _ (by exact H1.out.fresh ((Below.refl _ _).alloc (Nat.le_refl _) _)) hl h1).mono ?_
  rintro e w2 ⟨rfl, hc, hk2⟩
  have q3 : w2.cell? ⟨w1.heap.size, 1, none⟩ = some (.int .i64 v) := (hk2.cell (by simp) (by simp [Value.ownBlock]; omega)).trans (by simp)
  have HC2 := Lib.hid hc
  have HK2 := Lib.hid hk2
  clear hc hk2
  go_wp2_with fail
  go_ret2
  refine ⟨by rw [HK.out, HV.out]; rfl, ?_, ?_⟩
  · rw [← HL.out]
    exact HC2.out
  · exact (((Kept.of_fresh HB.out (O p _)).alloc _).trans HK2.out (fun b hb => .inl (.inr hb)))

set_option maxHeartbeats 1000000 in
theorem get_no (p : Nat) (s : Value) (room : Int) (l : List Th) (k : Int) (w : World) (h : Cch w p s room l) (hl : l.length ≤ 1000000) (hk : has l k = false) :
    Calls Try.prog 12 #[.pointer (some ⟨p, 0, none⟩), .int .i64 k] w (GetPost p s room l k w) := by
  have HC := Lib.hid (find_none p _ room l k w h hl (not_has hk))
  have HH := Lib.hid h
  have HK := Lib.hid hk
  clear h hk
  go_enter Try.func12, Try.ntmps12
  go_wp2_with fail
  refine HC.out.mono ?_
  rintro e w1 ⟨rfl, hb⟩
  go_wp2_with fail
  go_ret2
  refine ⟨by rw [HK.out]; rfl, ?_, Kept.of_fresh hb _⟩
  unfold getL
  rw [HK.out, if_neg (by simp)]
  exact HH.out.fresh hb

theorem get_any (p : Nat) (s : Value) (room : Int) (l : List Th) (k : Int) (w : World) (h : Cch w p s room l) (hl : l.length ≤ 1000000) :
    Calls Try.prog 12 #[.pointer (some ⟨p, 0, none⟩), .int .i64 k] w (GetPost p s room l k w) := by
  cases hk : has l k
  · exact get_no p s room l k w h hl hk
  · exact get_yes p s room l k w h hl hk

set_option maxHeartbeats 1000000 in
theorem get_nil (k : Int) (w : World) :
    Calls Try.prog 12 #[.pointer none, .int .i64 k] w fun e w' => e = .returned (.tuple #[.int .i64 0, .bool false]) ∧ Below w.heap.size w w' := by
  go_enter Try.func12, Try.ntmps12
  go_wp2_with fail
  refine (find_nil k _).mono ?_
  rintro e w1 ⟨rfl, hb⟩
  go_wp2_with fail
  go_ret2
  exact ⟨rfl, hb⟩

theorem len_any (p : Nat) (s : Value) (room : Int) (l : List Th) (w : World) (h : Cch w p s room l) :
    Calls Try.prog 23 #[.pointer (some ⟨p, 0, none⟩)] w fun e w' => e = .returned (.int .i64 l.length) ∧ w = w' := by
  obtain ⟨a, cap, rfl⟩ := h.own.of_any
  have q0 := h.blk.cell 1
  simp at q0
  clear h
  go_enter Try.func23, Try.ntmps23
  go_wp2_with fail
  go_ret
  exact ⟨rfl, rfl⟩
theorem len_nil (w : World) : Calls Try.prog 23 #[.pointer none] w fun e w' => e = .returned (.int .i64 0) ∧ w = w' := by
  go_enter Try.func23, Try.ntmps23
  go_wp2_with fail
  go_ret
  exact ⟨rfl, rfl⟩
end Go.Proofs.Ytoecclpfgdfpoaa
