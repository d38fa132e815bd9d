/- The walks of package purse and of its reference: what each function returns; each writes to new memory alone. Conditions stand in each statement. -/
import Derived.Test.YtefinnlnkilmpaaRows
import Derived.WalkKit
import Derived.WalkSpells
import Derived.WalkLawsBesides
import Derived.Lib.Hide
import Derived.Handy
import Derived.Test.YtefinnlnkilmpaaM
namespace Go.Proofs.Ytefinnlnkilmpaa
open Go.RowKit

theorem bl {a b c : World} (h : Below a.heap.size a b) (k : Below b.heap.size b c) : Below a.heap.size a c := h.trans (k.mono h.size)

theorem bcell {W w1 : World} (hb : Below W.heap.size W w1) :
    (∀ b o, b < W.heap.size → w1.cell? ⟨b, o, none⟩ = W.cell? ⟨b, o, none⟩) ∧ (∀ b o, b < W.heap.size → w1.frozen? ⟨b, o, none⟩ = W.frozen? ⟨b, o, none⟩) :=
  ⟨fun b o h => hb.cell (p := ⟨b, o, none⟩) h, fun b o h => hb.frozen (p := ⟨b, o, none⟩) h⟩

abbrev P3 (l m r : Int) : Value := .agg #[.int .i64 l, .int .i64 m, .int .i64 r]

def Rt (l m r : Int) : Prop := 0 ≤ m ∧ m ≤ 1048576 ∧ 0 ≤ l ∧ l ≤ m ∧ 0 ≤ r ∧ r ≤ 1048576

set_option maxHeartbeats 400000 in
theorem right_yes (l m r : Int) (w : World) (h : Rt l m r) :
    Calls Try.prog 22 #[P3 l m r] w fun e w' => e = .returned (.bool true) ∧ Below w.heap.size w w' := by
  obtain ⟨h1, h2, h3, h4, h5, h6⟩ := h
  go_enter Try.func22, Try.ntmps22
  go_wp2
  go_ret
  exact ⟨rfl, by go_grown⟩

set_option maxHeartbeats 800000 in
theorem right_no (l m r : Int) (w : World) (h : ¬ Rt l m r) :
    Calls Try.prog 22 #[P3 l m r] w fun e w' => e = .returned (.bool false) ∧ Below w.heap.size w w' := by
  unfold Rt at h
  by_cases h1 : 0 ≤ m
  · by_cases h2 : m ≤ 1048576
    · by_cases h3 : 0 ≤ l
      · by_cases h4 : l ≤ m
        · by_cases h5 : 0 ≤ r
          · have h6 : ¬ r ≤ 1048576 := fun h6 => h ⟨h1, h2, h3, h4, h5, h6⟩
            clear h
            go_enter Try.func22, Try.ntmps22
            go_wp2
            go_ret
            exact ⟨rfl, by go_grown⟩
          · clear h
            go_enter Try.func22, Try.ntmps22
            go_wp2
            go_ret
            exact ⟨rfl, by go_grown⟩
        · clear h
          go_enter Try.func22, Try.ntmps22
          go_wp2
          go_ret
          exact ⟨rfl, by go_grown⟩
      · clear h
        go_enter Try.func22, Try.ntmps22
        go_wp2
        go_ret
        exact ⟨rfl, by go_grown⟩
    · clear h
      go_enter Try.func22, Try.ntmps22
      go_wp2
      go_ret
      exact ⟨rfl, by go_grown⟩
  · clear h
    go_enter Try.func22, Try.ntmps22
    go_wp2
    go_ret
    exact ⟨rfl, by go_grown⟩

set_option maxHeartbeats 800000 in
theorem later_any (l m r t : Int) (w : World) (h : Rt l m r) (h7 : 0 ≤ t) (_h8 : t ≤ 9223372036854775807) :
    Calls Try.prog 24 #[P3 l m r, .int .i64 t] w fun e w' => e = .returned (P3 (lat l m r t) m r) ∧ Below w.heap.size w w' := by
  obtain ⟨h1, h2, h3, h4, h5, h6⟩ := h
  by_cases h5' : 0 < r
  · go_enter Try.func24, Try.ntmps24
    go_wp2
    go_region
    all_goals go_wp2
    all_goals go_returns
    all_goals refine ⟨?_, by go_grown⟩
    · rename_i a
      have := later_a h1 h2 h3 h4 h5' h6 h7 a
      rw [this.2]
    · rename_i a
      have := later_a h1 h2 h3 h4 h5' h6 h7 a
      omega
    · rename_i a
      have := later_b h1 h2 h3 h4 h5' h6 h7 a
      rw [this] at h
      have : lat l m r t = m := by unfold lat; omega
      rw [this]
    · rename_i a
      have := later_b h1 h2 h3 h4 h5' h6 h7 a
      rw [this] at h
      rw [this]
      have : lat l m r t = l + r * t := by unfold lat; omega
      rw [this]
  · obtain rfl : r = 0 := by omega
    have H := Lib.hid (lat_none (t := t) h4)
    go_enter Try.func24, Try.ntmps24
    go_wp2
    go_returns
    exact ⟨by rw [H.out], by go_grown⟩

set_option maxHeartbeats 400000 in
theorem less_yes (l m r n : Int) (w : World) (h1 : 0 ≤ n) (h2 : n ≤ l) (h3 : l ≤ 9223372036854775807) :
    Calls Try.prog 25 #[P3 l m r, .int .i64 n] w fun e w' => e = .returned (P3 (l - n) m r) ∧ Below w.heap.size w w' := by
  go_enter Try.func25, Try.ntmps25
  go_wp2
  go_returns
  exact ⟨rfl, by go_grown⟩

set_option maxHeartbeats 400000 in
theorem less_no (l m r n : Int) (w : World) (h2 : l < n) :
    Calls Try.prog 25 #[P3 l m r, .int .i64 n] w fun e w' => e = .returned (P3 (-1) 0 0) ∧ Below w.heap.size w w' := by
  go_enter Try.func25, Try.ntmps25
  go_wp2
  go_returns
  exact ⟨rfl, by go_grown⟩

abbrev R2 (v : Value) (e : Int) : Ending := .returned (.tuple #[v, .int .i64 e])


end Go.Proofs.Ytefinnlnkilmpaa
