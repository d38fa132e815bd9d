/- The walk of the law PurseBound, its other ways; and its list of calls opened. No condition. -/
import Derived.Test.YtefinnlnkilmpaaI
namespace Go.Proofs.Ytefinnlnkilmpaa
open Go.RowKit

set_option maxRecDepth 100000 in
set_option maxHeartbeats 1000000 in
theorem pBound_no (m r : Int) (v : Value) (w : World) (h : ¬ Rt m m r) :
    Calls Try.prog 6 #[.int .i64 m, .int .i64 r, v] w fun e w' => e = .returned (.bool true) ∧ Below w.heap.size w w' := by
  go_enter Try.func6, Try.ntmps6
  go_wp2_with fail
  refine (new_no m r h _).mono ?_
  rintro e w1 ⟨rfl, hb⟩
  have hb1 := hb
  have hs1 := hb.size
  clear hb
  go_wp2_with fail
  refine (awake_any _).mono ?_
  rintro e w3 ⟨rfl, hb⟩
  have bw3 : Below w.heap.size w w3 := bl (by go_grown) hb
  clear hb
  go_wp2
  go_ret
  exact ⟨rfl, bw3⟩

set_option maxRecDepth 100000 in
set_option maxHeartbeats 1000000 in
theorem pBound_long (m r : Int) (a : Option Addr) (n c : Nat) (w : World) (h : Rt m m r) (hl : 200 < n) (hl2 : n ≤ 9223372036854775807) :
    Calls Try.prog 6 #[.int .i64 m, .int .i64 r, .slice a n c] w fun e w' => e = .returned (.bool true) ∧ Below w.heap.size w w' := by
  go_enter Try.func6, Try.ntmps6
  go_wp2_with fail
  refine (new_yes m r h _).mono ?_
  rintro e w1 ⟨rfl, hb⟩
  have hb1 := hb
  have hs1 := hb.size
  clear hb
  go_wp2_with fail
  refine (awake_any _).mono ?_
  rintro e w3 ⟨rfl, hb⟩
  have bw3 : Below w.heap.size w w3 := bl (by go_grown) hb
  clear hb
  go_wp2
  go_ret
  exact ⟨rfl, bw3⟩

theorem pBound (m r : Int) (a : Option Addr) (c : Nat) (l : List (Bool × Int)) (w : World) (ha : Acts w a l) (hl : l.length ≤ 9223372036854775807) :
    Calls Try.prog 6 #[.int .i64 m, .int .i64 r, .slice a l.length c] w fun e w' => e = .returned (.bool true) ∧ Below w.heap.size w w' := by
  by_cases h : Rt m m r
  · by_cases h2 : l.length ≤ 200
    · exact pBound_yes m r a c l w h ha h2
    · exact pBound_long m r a l.length c w h (by omega) hl
  · exact pBound_no m r _ w h

theorem rows_acts : ∀ (rows : List (List Value)), (∀ r ∈ rows, Conf r [none, some .i64]) → ∃ l : List (Bool × Int), rows = l.map (fun x => [.bool x.1, .int .i64 x.2])
  | [], _ => ⟨[], rfl⟩
  | r :: rs, h => by
    obtain ⟨l, e⟩ := rows_acts rs (fun r hr => h r (by simp [hr]))
    obtain ⟨v, r1, e1, ⟨b, e2⟩, h3⟩ := Conf.cons (h r (by simp))
    obtain ⟨u, r2, e3, ⟨n, e4, _⟩, h4⟩ := Conf.cons h3
    obtain rfl := Conf.nil h4
    subst e e1 e2 e3 e4
    exact ⟨(b, n) :: l, rfl⟩

theorem acts_of_slice {w : World} {a : Option Addr} {len cap : Nat} {rows : List (List Value)} (so : SliceOf w a len cap 2 rows) (cf : ∀ r ∈ rows, Conf r [none, some .i64]) :
    ∃ l : List (Bool × Int), len = l.length ∧ Acts w a l ∧ l.length ≤ 9223372036854775807 := by
  obtain ⟨l, rfl⟩ := rows_acts rows cf
  obtain ⟨h1, h2, h3, _, h5⟩ := so
  have hl : len = l.length := by rw [← h1, List.length_map]
  refine ⟨l, hl, ?_, by simp only [maxLen] at h3; omega⟩
  rcases h5 with h5 | ⟨b, off, h6, h7, h8⟩
  · left; exact List.eq_nil_of_length_eq_zero (by omega)
  · right
    refine ⟨b, off, h6, h7, fun i hi => ?_⟩
    have e : (l.map (fun x => [Value.bool x.1, .int .i64 x.2]))[i]? = some [.bool (l.getD i (false, 0)).1, .int .i64 (l.getD i (false, 0)).2] := by
      simp [List.getD_eq_getElem?_getD, hi]
    exact ⟨by simpa using h8 i 0 _ _ e rfl, by simpa [Nat.add_assoc] using h8 i 1 _ _ e rfl⟩
end Go.Proofs.Ytefinnlnkilmpaa
