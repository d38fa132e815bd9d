/- Opening an argument that is a row of costs, or a table of them. Plain lemmas. -/
import Derived.Test.YtedijnokbemegaaG
import Derived.Test.YtedijnokbemegaaOp
namespace Go.Proofs.Ytedijnokbemegaa
open Go.ChangeShapes Go.WideShapes Go.Deep Go.RowKit

theorem ub_wf {n : Int} (h : (Lit.int .u64 n).wf = true) : Ub n := by
  have hmin : IntKind.u64.min = 0 := rfl
  have hmax : IntKind.u64.max = 18446744073709551615 := rfl
  simp only [Lit.wf, Bool.and_eq_true, decide_eq_true_eq] at h
  unfold Ub; omega
theorem le_wf {n : Int} (h : (Lit.int .i64 n).wf = true) : n ≤ 9223372036854775807 := by
  have hmax : IntKind.i64.max = 9223372036854775807 := rfl
  simp only [Lit.wf, Bool.and_eq_true, decide_eq_true_eq] at h
  omega

theorem rows_one : ∀ (rows : List (List Value)), (∀ r ∈ rows, Conf r [some .u64]) → ∃ xs : List Int, rows = xs.map (fun n => [.int .u64 n]) ∧ ∀ x ∈ xs, Ub x
  | [], _ => ⟨[], rfl, by simp⟩
  | r :: rs, h => by
    obtain ⟨xs, e, hu⟩ := rows_one rs (fun r hr => h r (by simp [hr]))
    obtain ⟨v, r', e1, ⟨n, e2, hw⟩, h3⟩ := Conf.cons (h r (by simp))
    obtain rfl := Conf.nil h3
    subst e e1 e2
    refine ⟨n :: xs, rfl, fun x hx => ?_⟩
    rcases List.mem_cons.1 hx with rfl | hx
    · exact ub_wf hw
    · exact hu x hx

theorem row_of_slice {w : World} {a : Option Addr} {len cap : Nat} {rows : List (List Value)} (so : SliceOf w a len cap 1 rows) (cf : ∀ r ∈ rows, Conf r [some .u64]) :
    ∃ xs : List Int, len = xs.length ∧ Row w a xs ∧ xs.length ≤ 9223372036854775807 := by
  obtain ⟨xs, rfl, hu⟩ := rows_one rows cf
  obtain ⟨h1, h2, h3, _, h5⟩ := so
  have hl : len = xs.length := by rw [← h1, List.length_map]
  refine ⟨xs, hl, ⟨hu, ?_⟩, by simp only [maxLen] at h3; omega⟩
  rcases h5 with h5 | ⟨b, off, h6, h7, h8⟩
  · left; exact List.eq_nil_of_length_eq_zero (by omega)
  · right
    refine ⟨b, off, h6, h7, fun i hi => ?_⟩
    have := h8 i 0 [.int .u64 (xs.getD i 0)] (.int .u64 (xs.getD i 0)) (by simp [List.getD_eq_getElem?_getD, hi]) rfl
    simpa using this

section
variable {H : Type} {enc : TypeId × Value → H} {P : Program} {w : World} {base : Nat} {spare : Nat → Bool} {held : Bool}

/-- One cell that is a slice of costs. -/
theorem row_of_cell {t e : TypeId} {fuel : Nat} {v : Value} {x : DataW H × List MemPlace} (ht : P.underlying t = some (.slice e)) (hf : flat P 3 e = some [some .u64]) (hc : P.cellsOf e = 1)
    (h : DataW.trod enc P w base spare held fuel t [v] = some x) : ∃ a c, ∃ xs : List Int, v = .slice a xs.length c ∧ Row w a xs ∧ xs.length ≤ 9223372036854775807 := by
  rcases open_slice1 ht hc h with ⟨h0, _⟩ | ⟨a, len, cap, m, n, V, D, Pl, hcs, _, hl, hm, hmm, _, hi⟩
  · simp at h0
    exact ⟨none, 0, [], h0, ⟨by simp, .inl rfl⟩, by simp⟩
  · simp only [List.cons.injEq, and_true] at hcs
    have hlm : len ≤ m := by rw [hmm]; split <;> omega
    have hex : ∀ i, i < len → ∃ n : Int, w.cell? (a.add i) = some (.int .u64 n) ∧ Ub n := by
      intro i hi'
      obtain ⟨h1, h2⟩ := hi i (by omega)
      obtain ⟨v', r', e1, ⟨n', e2, hw⟩, h3⟩ := Conf.cons (flat_conf 3 e _ hf _ _ _ h2)
      simp only [List.cons.injEq] at e1
      exact ⟨n', by rw [h1, e1.1, e2], ub_wf hw⟩
    obtain ⟨g, hg⟩ := choose_lt hex
    refine ⟨some a, cap, (List.range len).map g, by rw [List.length_map, List.length_range]; exact hcs, ⟨fun x hx => ?_, ?_⟩, by rw [List.length_map, List.length_range]; simp only [maxLen] at hm; omega⟩
    · obtain ⟨i, hi', rfl⟩ := List.mem_map.1 hx
      exact (hg i (List.mem_range.1 hi')).2
    · rcases Nat.eq_zero_or_pos len with h0 | h0
      · left; subst h0; rfl
      · right
        obtain ⟨b, off, spot⟩ := a
        have h7 := (hg 0 h0).1
        have hspot : spot = none := by simpa [Addr.add] using World.cell?_spot h7
        subst hspot
        rw [add_eq] at h7
        refine ⟨b, off, rfl, World.block_lt_of_cell? w _ h7, fun i hi' => ?_⟩
        have hi2 : i < len := by simpa using hi'
        have := (hg i hi2).1
        rw [add_eq] at this
        rw [this]
        simp [List.getD_eq_getElem?_getD, hi2]

theorem open_table {r : Reach} {b0 : Nat} {t s e : TypeId} {v : Value} {d : DataW H} {p : List MemPlace} (ht : P.underlying t = some (.slice s)) (hs : P.underlying s = some (.slice e)) (hcs : P.cellsOf s = 1)
    (hf : flat P 3 e = some [some .u64]) (hc : P.cellsOf e = 1) (hv : Value.okWide P w r b0 t v) (h : DataW.Trod enc P w base spare held t v d p) :
    ∃ a c, ∃ xss : List (List Int), v = .slice a xss.length c ∧ Tab w a xss ∧ xss.length ≤ 9223372036854775807 ∧ ∀ i, i < xss.length → (xss.getD i []).length ≤ 9223372036854775807 := by
  obtain ⟨a, len, cap, rfl⟩ := okWide_slice ht hv
  obtain ⟨fuel, hx⟩ := h
  rcases open_slice1 ht hcs hx with ⟨h0, _⟩ | ⟨a', len', cap', m, n, V, D, Pl, hcl, _, hl, hm, hmm, _, hi⟩
  · simp [Value.cells] at h0
    obtain ⟨rfl, rfl, rfl⟩ := h0
    exact ⟨none, 0, [], rfl, .inl rfl, by simp, by simp⟩
  · simp [Value.cells] at hcl
    obtain ⟨rfl, rfl, rfl⟩ := hcl
    have hlm : len ≤ m := by rw [hmm]; split <;> omega
    have hex : ∀ i, i < len → ∃ xs : List Int, (∃ a c, w.cell? (a'.add i) = some (.slice a xs.length c) ∧ Row w a xs) ∧ xs.length ≤ 9223372036854775807 := by
      intro i hi'
      obtain ⟨h1, h2⟩ := hi i (by omega)
      obtain ⟨a, c, xs, h3, h4, h5⟩ := row_of_cell hs hf hc h2
      exact ⟨xs, ⟨a, c, by rw [h1, h3], h4⟩, h5⟩
    obtain ⟨g, hg⟩ := choose_lt hex
    have hgd : ∀ i, i < len → ((List.range len).map g).getD i [] = g i := fun i hi' => by simp [List.getD_eq_getElem?_getD, hi']
    refine ⟨some a', cap, (List.range len).map g, by rw [List.length_map, List.length_range], ?_, by rw [List.length_map, List.length_range]; simp only [maxLen] at hm; omega, fun i hi' => ?_⟩
    · rcases Nat.eq_zero_or_pos len with h0 | h0
      · left; subst h0; rfl
      · right
        obtain ⟨b, off, spot⟩ := a'
        obtain ⟨a0, c0, h7, _⟩ := (hg 0 h0).1
        have hspot : spot = none := by simpa [Addr.add] using World.cell?_spot h7
        subst hspot
        rw [add_eq] at h7
        refine ⟨b, off, rfl, World.block_lt_of_cell? w _ h7, fun i hi' => ?_⟩
        have hi2 : i < len := by simpa using hi'
        obtain ⟨a1, c1, h8, h9⟩ := (hg i hi2).1
        rw [add_eq] at h8
        rw [hgd i hi2]
        exact ⟨a1, c1, h8, h9⟩
    · have hi2 : i < len := by simpa using hi'
      rw [hgd i hi2]
      exact (hg i hi2).2
end
end Go.Proofs.Ytedijnokbemegaa
