/- Rows of keys within their kinds, and rows of numbers, among the arguments; a row of numbers of one's own. -/
import Derived.Test.YtffgjjlamdaajaaM
namespace Go.Proofs.Ytffgjjlamdaajaa
open Go.RowKit Go.Deep Go.ChangeShapes Go.WideShapes

theorem keysF_of : ∀ (rows : List (List Value)), (∀ r ∈ rows, Conf r [some .u64, some .u64, some .i64, some .i64]) → ∃ xs : List Ky, rows = xs.map (fun n => [.int .u64 n.1, .int .u64 n.2.1, .int .i64 n.2.2.1, .int .i64 n.2.2.2]) ∧ ∀ x ∈ xs, FitK x
  | [], _ => ⟨[], rfl, by simp⟩
  | r :: rs, h => by
    obtain ⟨xs, e, hf⟩ := keysF_of rs (fun r hr => h r (by simp [hr]))
    obtain ⟨_, _, e1, ⟨n1, e2, f1⟩, h3⟩ := Conf.cons (h r (by simp))
    obtain ⟨_, _, e4, ⟨n2, e5, f2⟩, h6⟩ := Conf.cons h3
    obtain ⟨_, _, e7, ⟨n3, e8, f3⟩, h9⟩ := Conf.cons h6
    obtain ⟨_, _, e10, ⟨n4, e11, f4⟩, h12⟩ := Conf.cons h9
    obtain rfl := Conf.nil h12
    subst e e1 e2 e4 e5 e7 e8 e10 e11
    refine ⟨(n1, n2, n3, n4) :: xs, rfl, fun x hx => ?_⟩
    rcases List.mem_cons.1 hx with rfl | hx
    · exact ⟨(bounds_u64 f1).2, (bounds_u64 f2).2, (bounds_i64 f3).2, (bounds_i64 f4).2⟩
    · exact hf x hx
theorem rowKF_of_slice {w : World} {a : Option Addr} {len cap : Nat} {rows : List (List Value)} (so : SliceOf w a len cap 4 rows) (cf : ∀ r ∈ rows, Conf r [some .u64, some .u64, some .i64, some .i64]) :
    ∃ xs : List Ky, len = xs.length ∧ RowK w a xs ∧ xs.length ≤ 9223372036854775807 ∧ ∀ x ∈ xs, FitK x := by
  obtain ⟨xs, rfl, hf⟩ := keysF_of rows cf
  obtain ⟨h1, h2, h3, _, h5⟩ := so
  have hl : len = xs.length := by rw [← h1, List.length_map]
  refine ⟨xs, hl, ?_, by simp only [maxLen] at h3; omega, hf⟩
  rcases h5 with h5 | ⟨b, off, h6, h7, h8⟩
  · left; exact List.eq_nil_of_length_eq_zero (by omega)
  · right
    refine ⟨b, off, h6, h7, fun i hi => ?_⟩
    have q := fun j => h8 i j [.int .u64 (xs.getD i (0, 0, 0, 0)).1, .int .u64 (xs.getD i (0, 0, 0, 0)).2.1, .int .i64 (xs.getD i (0, 0, 0, 0)).2.2.1, .int .i64 (xs.getD i (0, 0, 0, 0)).2.2.2]
    have q0 := q 0 _ (by simp [List.getD_eq_getElem?_getD, hi]) rfl
    have q1 := q 1 _ (by simp [List.getD_eq_getElem?_getD, hi]) rfl
    have q2 := q 2 _ (by simp [List.getD_eq_getElem?_getD, hi]) rfl
    have q3 := q 3 _ (by simp [List.getD_eq_getElem?_getD, hi]) rfl
    simp only [Nat.add_zero] at q0
    rw [← Nat.add_assoc] at q1 q2 q3
    exact ⟨q0, q1, q2, q3⟩

/-- A row of numbers. -/
def RowI (w : World) (a : Option Addr) (l : List Int) : Prop :=
  l = [] ∨ ∃ b off, a = some ⟨b, off, none⟩ ∧ b < w.heap.size ∧ ∀ i, i < l.length → w.cell? ⟨b, off + i, none⟩ = some (.int .i64 (l.getD i 0))
theorem RowI.at_ {w w' : World} {a : Option Addr} {l : List Int} (h : RowI w a l) (hb : Below w.heap.size w w') {i : Nat} (hi : i < l.length) :
    ∃ b off, a = some ⟨b, off, none⟩ ∧ b < w.heap.size ∧ w'.cell? ⟨b, off + i, none⟩ = some (.int .i64 (l.getD i 0)) := by
  rcases h with rfl | ⟨b, off, e, hlt, hc⟩
  · simp at hi
  · exact ⟨b, off, e, hlt, (hb.cell hlt).trans (hc i hi)⟩
theorem nums_of : ∀ (rows : List (List Value)), (∀ r ∈ rows, Conf r [some .i64]) → ∃ xs : List Int, rows = xs.map (fun n => [.int .i64 n])
  | [], _ => ⟨[], rfl⟩
  | r :: rs, h => by
    obtain ⟨xs, e⟩ := nums_of rs (fun r hr => h r (by simp [hr]))
    obtain ⟨_, _, e1, ⟨n1, e2, _⟩, h3⟩ := Conf.cons (h r (by simp))
    obtain rfl := Conf.nil h3
    subst e e1 e2
    exact ⟨n1 :: xs, rfl⟩
theorem rowI_of_slice {w : World} {a : Option Addr} {len cap : Nat} {rows : List (List Value)} (so : SliceOf w a len cap 1 rows) (cf : ∀ r ∈ rows, Conf r [some .i64]) :
    ∃ xs : List Int, len = xs.length ∧ RowI w a xs ∧ xs.length ≤ 9223372036854775807 := by
  obtain ⟨xs, rfl⟩ := nums_of rows cf
  obtain ⟨h1, h2, h3, _, h5⟩ := so
  have hl : len = xs.length := by rw [← h1, List.length_map]
  refine ⟨xs, hl, ?_, by simp only [maxLen] at h3; omega⟩
  rcases h5 with h5 | ⟨b, off, h6, h7, h8⟩
  · left; exact List.eq_nil_of_length_eq_zero (by omega)
  · right
    refine ⟨b, off, h6, h7, fun i hi => ?_⟩
    have q0 := h8 i 0 [.int .i64 (xs.getD i 0)] _ (by simp [List.getD_eq_getElem?_getD, hi]) rfl
    simpa using q0

/-- A number laid at a place of a row of one's own. -/
theorem own_put {w : World} {b n cap : Nat} {xs : List Int} (h : Own w 3 1 (.slice (some ⟨b, 0, none⟩) n cap) n (ints xs)) {i : Nat} (hi : i < n) (x : Int) :
    Own (w.setCell ⟨b, i, none⟩ (.int .i64 x)) 3 1 (.slice (some ⟨b, 0, none⟩) n cap) n (ints (xs.set i x)) := by
  obtain ⟨g', cap', cur, e, hb, h1, h2, h3, h4⟩ := h.of_pos (by omega)
  simp only [Value.slice.injEq, Option.some.injEq, Addr.mk.injEq, and_true, true_and] at e
  obtain ⟨rfl, rfl⟩ := e
  refine Own.mk (hb.set_ i _) h1 h2 (by simpa using h3) ?_
  rw [Array.toList_setIfInBounds, List.take_set, h4]
  simp [ints]
theorem own_swap {w : World} {b n cap : Nat} {xs : List Int} (h : Own w 3 1 (.slice (some ⟨b, 0, none⟩) n cap) n (ints xs)) {i k : Nat} (hi : i < n) (hk : k < n) :
    Own ((w.setCell ⟨b, i, none⟩ (.int .i64 (xs.getD k 0))).setCell ⟨b, k, none⟩ (.int .i64 (xs.getD i 0))) 3 1 (.slice (some ⟨b, 0, none⟩) n cap) n (ints (ixS xs i k)) := own_put (own_put h hi _) hk _
end Go.Proofs.Ytffgjjlamdaajaa
