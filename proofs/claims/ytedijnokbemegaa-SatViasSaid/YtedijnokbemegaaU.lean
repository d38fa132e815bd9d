/- Tables as lists of slices in memory; and what one row by a table is, whatever comes. -/
import Derived.Test.YtedijnokbemegaaQ
import Derived.Test.YtedijnokbemegaaS
namespace Go.Proofs.Ytedijnokbemegaa
open Go.RowKit

theorem info22 : (Try.prog.info? 22).map (fun i => (i.zero, i.size, i.bytes)) = some (some (.slice none 0 0), 1, 24) := by kernel_rfl

/-- These slices are the rows of a table. -/
def TabV (w : World) (vs : List Value) (xss : List (List Int)) : Prop :=
  vs.length = xss.length ∧ ∀ i, i < xss.length → ∃ a c, vs[i]? = some (.slice a (xss.getD i []).length c) ∧ Row w a (xss.getD i [])

theorem TabV.below {w w' : World} {vs : List Value} {xss : List (List Int)} (h : TabV w vs xss) (hb : Below w.heap.size w w') : TabV w' vs xss :=
  ⟨h.1, fun i hi => by obtain ⟨a, c, h1, h2⟩ := h.2 i hi; exact ⟨a, c, h1, h2.below hb (Nat.le_refl _)⟩⟩

theorem TabV.one {w : World} {vs : List Value} {xss : List (List Int)} (h : TabV w vs xss) : ∀ u ∈ vs, u.oneCell' = true := by
  intro u hu
  obtain ⟨i, hi, rfl⟩ := List.mem_iff_getElem.1 hu
  obtain ⟨a, c, h1, _⟩ := h.2 i (by rw [← h.1]; exact hi)
  rw [List.getElem?_eq_getElem hi] at h1
  rw [Option.some.inj h1]
  rfl

theorem getD_app_left {α : Type} {a b : List α} {d : α} {i : Nat} (h : i < a.length) : (a ++ b).getD i d = a.getD i d := by
  rw [List.getD_eq_getElem?_getD, List.getD_eq_getElem?_getD, List.getElem?_append_left h]
theorem getD_app_right {α : Type} {a b : List α} {d : α} {i : Nat} (h : a.length ≤ i) : (a ++ b).getD i d = b.getD (i - a.length) d := by
  rw [List.getD_eq_getElem?_getD, List.getD_eq_getElem?_getD, List.getElem?_append_right h]

theorem TabV.app {w : World} {vs us : List Value} {xss yss : List (List Int)} (h : TabV w vs xss) (k : TabV w us yss) : TabV w (vs ++ us) (xss ++ yss) := by
  refine ⟨by simp [h.1, k.1], fun i hi => ?_⟩
  rw [List.length_append] at hi
  by_cases e : i < xss.length
  · obtain ⟨a, c, h1, h2⟩ := h.2 i e
    rw [getD_app_left e, List.getElem?_append_left (by rw [h.1]; exact e)]
    exact ⟨a, c, h1, h2⟩
  · obtain ⟨a, c, h1, h2⟩ := k.2 (i - xss.length) (by omega)
    rw [getD_app_right (by omega), List.getElem?_append_right (by rw [h.1]; omega), h.1]
    exact ⟨a, c, h1, h2⟩

theorem TabV.single {w : World} {a : Option Addr} {c : Nat} {xs : List Int} (h : Row w a xs) : TabV w [.slice a xs.length c] [xs] :=
  ⟨rfl, fun i hi => by
    have : i = 0 := by simpa using hi
    subst this
    exact ⟨a, c, rfl, h⟩⟩

theorem TabV.nil (w : World) : TabV w [] [] := ⟨rfl, fun i hi => by simp at hi⟩

theorem Tab.cells {w : World} {t : Option Addr} {xss : List (List Int)} (h : Tab w t xss) (h0 : 0 < xss.length) :
    ∃ b off vs, t = some ⟨b, off, none⟩ ∧ b < w.heap.size ∧ TabV w vs xss ∧ ∀ j u, vs[j]? = some u → w.cell? ((⟨b, off, none⟩ : Addr).add j) = some u := by
  rcases h with rfl | ⟨b, off, h1, h2, h3⟩
  · simp at h0
  · refine ⟨b, off, (List.range xss.length).map (fun i => (w.cell? ⟨b, off + i, none⟩).getD undef), h1, h2, ⟨by simp, fun i hi => ?_⟩, fun j u hu => ?_⟩
    · obtain ⟨a, c, h4, h5⟩ := h3 i hi
      exact ⟨a, c, by simp [hi, h4], h5⟩
    · rw [Addr.add_lit]
      have hj : j < xss.length := by
        have := (List.getElem?_eq_some_iff.1 hu).1
        simpa using this
      obtain ⟨a, c, h4, _⟩ := h3 j hj
      rw [List.getElem?_map, List.getElem?_range hj] at hu
      simp only [Option.map_some, h4, Option.getD_some] at hu
      rw [h4]
      exact hu

theorem Row.cells {w : World} {a : Option Addr} {xs : List Int} (h : Row w a xs) (h0 : 0 < xs.length) :
    ∃ b off, a = some ⟨b, off, none⟩ ∧ b < w.heap.size ∧ ∀ j u, (vals xs)[j]? = some u → w.cell? ((⟨b, off, none⟩ : Addr).add j) = some u := by
  rcases h.2 with rfl | ⟨b, off, h1, h2, h3⟩
  · simp at h0
  · refine ⟨b, off, h1, h2, fun j u hu => ?_⟩
    have hj : j < xs.length := by
      have := (List.getElem?_eq_some_iff.1 hu).1
      simpa [vals] using this
    rw [Addr.add_lit, h3 j hj, ← hu]
    simp [vals, List.getD_eq_getElem?_getD, hj]

theorem tab_of_own {w : World} {base n : Nat} {v : Value} {vs : List Value} {xss : List (List Int)} (h : w.ownsRow base 22 1 v n vs) (ht : TabV w vs xss) :
    ∃ a c, v = .slice a xss.length c ∧ n = xss.length ∧ Tab w a xss := by
  have hn : n = xss.length := by have := h.1; rw [ht.1] at this; omega
  subst hn
  rcases h.2 with ⟨rfl, h0⟩ | ⟨g, cap, cur, rfl, _, hg, hn, hm, hs, htk⟩
  · have : xss = [] := List.eq_nil_of_length_eq_zero h0
    subst this
    exact ⟨none, 0, rfl, rfl, .inl rfl⟩
  · refine ⟨_, _, rfl, rfl, .inr ⟨g, 0, rfl, lt_of_block hg, fun i hi => ?_⟩⟩
    obtain ⟨a, c, h1, h2⟩ := ht.2 i hi
    have e2 : cur[i]? = vs[i]? := by
      rw [← htk, List.getElem?_take, if_pos (by omega), Array.getElem?_toList]
    refine ⟨a, c, ?_, h2⟩
    rw [Nat.zero_add]
    simp [World.cell?, hg, e2, h1]

/-- All rows of a table are as long as its first one. -/
def Even (xss : List (List Int)) : Prop := ∀ i, i < xss.length → (xss.getD i []).length = (xss.getD 0 []).length

/-- One row by a table: where the lengths do not fit. -/
theorem via_bad (a t : Option Addr) (n c d : Nat) (xss : List (List Int)) (w : World) (ht : Tab w t xss) (hs : Small xss) (h : n ≠ xss.length ∨ ¬ Even xss) :
    Calls Try.prog 15 #[.slice a n c, .slice t xss.length d] w fun e w' => e = .returned (.tuple #[.slice none 0 0, .int .i64 12]) ∧ Below w.heap.size w w' := by
  by_cases he : n = xss.length
  · subst he
    have hbad : ∃ i, i < xss.length ∧ (xss.getD i []).length ≠ (xss.getD 0 []).length := by
      rcases h with h | h
      · exact absurd rfl h
      · apply Classical.byContradiction
        intro hc
        exact h (fun i hi => Classical.byContradiction fun e => hc ⟨i, hi, e⟩)
    exact via_ragged a t c d _ xss w ht rfl (by have := hs.1; omega) (fun i hi => by have := hs.2 i hi; omega) hbad
  · exact via_no a t n _ c d w he

/-- .. and where they do. -/
theorem via_ok (n m : Nat) (a t : Option Addr) (c d : Nat) (xs : List Int) (xss : List (List Int)) (w : World) (ha : Row w a xs) (ht : Tab w t xss) (hx : xs.length = n) (hm : xss.length = m) (he : m = n) (h0 : 0 < m)
    (hl : n ≤ 1000000) (hev : Even xss) (hk : (xss.getD 0 []).length ≤ 1000000) :
    Calls Try.prog 15 #[.slice a n c, .slice t m d] w (RetN w (xss.getD 0 []).length (viaL xs xss)) := by
  subst hx hm
  exact (via_yes a t c d xs xss w ha ht he h0 hl hev hk).mono fun e w' ⟨a', c', h1, h2, h3⟩ => ⟨a', c', by rw [h1, viaL_len], h2, h3⟩
end Go.Proofs.Ytedijnokbemegaa
