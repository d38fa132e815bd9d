/- Opening an argument that is a row of acts. Plain lemmas. -/
import Derived.Test.YtoecclpfgdfpoaaG
import Derived.Test.YtoecclpfgdfpoaaOp
namespace Go.Proofs.Ytoecclpfgdfpoaa
open Go.ChangeShapes Go.WideShapes Go.Deep Go.RowKit

theorem acts_of : ∀ (rows : List (List Value)), (∀ r ∈ rows, Conf r [some .i64, some .i64, some .i64]) → ∃ xs : List Ac, rows = xs.map (fun n => [.int .i64 n.1, .int .i64 n.2.1, .int .i64 n.2.2])
  | [], _ => ⟨[], rfl⟩
  | r :: rs, h => by
    obtain ⟨xs, e⟩ := acts_of rs (fun r hr => h r (by simp [hr]))
    obtain ⟨_, _, e1, ⟨n1, e2, _⟩, h3⟩ := Conf.cons (h r (by simp))
    obtain ⟨_, _, e4, ⟨n2, e5, _⟩, h6⟩ := Conf.cons h3
    obtain ⟨_, _, e7, ⟨n3, e8, _⟩, h9⟩ := Conf.cons h6
    obtain rfl := Conf.nil h9
    subst e e1 e2 e4 e5 e7 e8
    exact ⟨(n1, n2, n3) :: xs, rfl⟩

theorem rowA_of_slice {w : World} {a : Option Addr} {len cap : Nat} {rows : List (List Value)} (so : SliceOf w a len cap 3 rows) (cf : ∀ r ∈ rows, Conf r [some .i64, some .i64, some .i64]) :
    ∃ xs : List Ac, len = xs.length ∧ RowA w a xs ∧ xs.length ≤ 9223372036854775807 := by
  obtain ⟨xs, rfl⟩ := acts_of rows cf
  obtain ⟨h1, h2, h3, _, h5⟩ := so
  have hl : len = xs.length := by rw [← h1, List.length_map]
  refine ⟨xs, hl, ?_, by simp only [maxLen] at h3; omega⟩
  rcases h5 with h5 | ⟨b, off, h6, h7, h8⟩
  · left; exact List.eq_nil_of_length_eq_zero (by omega)
  · right
    refine ⟨b, off, h6, h7, fun i hi => ?_⟩
    have q0 := h8 i 0 [.int .i64 (xs.getD i (0, 0, 0)).1, .int .i64 (xs.getD i (0, 0, 0)).2.1, .int .i64 (xs.getD i (0, 0, 0)).2.2] _ (by simp [List.getD_eq_getElem?_getD, hi]) rfl
    have q1 := h8 i 1 [.int .i64 (xs.getD i (0, 0, 0)).1, .int .i64 (xs.getD i (0, 0, 0)).2.1, .int .i64 (xs.getD i (0, 0, 0)).2.2] _ (by simp [List.getD_eq_getElem?_getD, hi]) rfl
    have q2 := h8 i 2 [.int .i64 (xs.getD i (0, 0, 0)).1, .int .i64 (xs.getD i (0, 0, 0)).2.1, .int .i64 (xs.getD i (0, 0, 0)).2.2] _ (by simp [List.getD_eq_getElem?_getD, hi]) rfl
    simp only [Nat.add_zero] at q0
    rw [← Nat.add_assoc] at q1 q2
    exact ⟨q0, q1, q2⟩
end Go.Proofs.Ytoecclpfgdfpoaa
