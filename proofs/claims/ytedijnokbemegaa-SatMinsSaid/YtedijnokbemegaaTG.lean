/- The walk of the law SatMins, all cases together: for every three rows it returns true, and writes to new memory alone; and the opening of its argument. -/
import Derived.Test.YtedijnokbemegaaTA
import Derived.Test.YtedijnokbemegaaTB
import Derived.Test.YtedijnokbemegaaTC
import Derived.Test.YtedijnokbemegaaTD
import Derived.Test.YtedijnokbemegaaTE
import Derived.Test.YtedijnokbemegaaTF
import Derived.Test.YtedijnokbemegaaP
import Derived.Laws.IdiomArrays
namespace Go.Proofs.Ytedijnokbemegaa
open Go.ChangeShapes Go.WideShapes Go.Deep Go.RowKit

theorem wMins (a0 a1 a2 : Option Addr) (c0 c1 c2 : Nat) (xs ys zs : List Int) (w : World) (h0 : Row w a0 xs) (h1 : Row w a1 ys) (h2 : Row w a2 zs)
    (l0 : xs.length ≤ 9223372036854775807) (l1 : ys.length ≤ 9223372036854775807) (l2 : zs.length ≤ 9223372036854775807) :
    Calls Try.prog 6 #[.agg #[.slice a0 xs.length c0, .slice a1 ys.length c1, .slice a2 zs.length c2]] w fun e w' => e = .returned (.bool true) ∧ Below w.heap.size w w' := by
  by_cases hb : 60 < xs.length ∨ 60 < ys.length ∨ 60 < zs.length
  · exact wMins_awake a0 a1 a2 _ _ _ c0 c1 c2 w l0 l1 l2 hb
  · by_cases he : xs.length = ys.length
    · have um := minL_ub h0.1 h1.1
      have hml : (minL xs ys).length = xs.length := minL_len xs ys
      rw [← he]
      by_cases hm : best (minL xs ys) xs.length < 0
      · have hx : best xs xs.length < 0 := by
          have := (best_min h0.1 h1.1 he.symm).2
          by_cases h : best xs xs.length < 0
          · exact h
          · exact absurd (this (.inl (by omega))) (by omega)
        have hy : best ys xs.length < 0 := by
          have := (best_min h0.1 h1.1 he.symm).2
          by_cases h : best ys xs.length < 0
          · exact h
          · exact absurd (this (.inr (by rw [← he]; omega))) (by omega)
        exact wMins_none xs.length zs.length a0 a1 a2 c0 c1 c2 xs ys zs w h0 h1 h2 rfl he.symm rfl (by omega) (by omega) hm hx hy
      · obtain ⟨bi, e1, l1', m1⟩ := best_bd um (by rw [hml]; omega)
        rw [hml] at e1 l1' m1
        have hv : (minL xs ys).getD bi 0 = min (xs.getD bi 0) (ys.getD bi 0) := minL_getD l1'
        have mle : ∀ j, j < xs.length → (minL xs ys).getD bi 0 ≤ xs.getD j 0 ∧ (minL xs ys).getD bi 0 ≤ ys.getD j 0 := fun j hj => by
          have := m1 j hj
          rw [minL_getD hj] at this
          omega
        have hor := (best_min h0.1 h1.1 he.symm).1 (by omega)
        rw [← he] at hor
        by_cases hx : best xs xs.length < 0
        · have hy : 0 ≤ best ys ys.length := by rw [← he]; omega
          obtain ⟨bz, e3, l3, _⟩ := best_bd h1.1 hy
          rw [← he] at e3 l3
          by_cases hq : xs.getD bi 0 = (minL xs ys).getD bi 0
          · exact wMins_nyl xs.length zs.length a0 a1 a2 c0 c1 c2 xs ys zs w h0 h1 h2 rfl he.symm rfl (by omega) (by omega) bi bi bz e1 l1' hx e3 l3 (mle bz l3).2 hq
          · exact wMins_nyr xs.length zs.length a0 a1 a2 c0 c1 c2 xs ys zs w h0 h1 h2 rfl he.symm rfl (by omega) (by omega) bi bi bz e1 l1' hx e3 l3 (mle bz l3).2 (by omega) (fun e => hq e.symm)
        · obtain ⟨bx, e2, l2', _⟩ := best_bd h0.1 (by omega)
          by_cases hy : best ys xs.length < 0
          · by_cases hq : xs.getD bi 0 = (minL xs ys).getD bi 0
            · exact wMins_ynl xs.length zs.length a0 a1 a2 c0 c1 c2 xs ys zs w h0 h1 h2 rfl he.symm rfl (by omega) (by omega) bi bx bi e1 l1' e2 l2' (mle bx l2').1 hy hq
            · exact wMins_ynr xs.length zs.length a0 a1 a2 c0 c1 c2 xs ys zs w h0 h1 h2 rfl he.symm rfl (by omega) (by omega) bi bx bi e1 l1' e2 l2' (mle bx l2').1 hy (by omega) (fun e => hq e.symm)
          · have hy' : 0 ≤ best ys ys.length := by rw [← he]; omega
            obtain ⟨bz, e3, l3, _⟩ := best_bd h1.1 hy'
            rw [← he] at e3 l3
            by_cases hq : xs.getD bi 0 = (minL xs ys).getD bi 0
            · exact wMins_yyl xs.length zs.length a0 a1 a2 c0 c1 c2 xs ys zs w h0 h1 h2 rfl he.symm rfl (by omega) (by omega) bi bx bz e1 l1' e2 l2' (mle bx l2').1 e3 l3 (mle bz l3).2 hq
            · exact wMins_yyr xs.length zs.length a0 a1 a2 c0 c1 c2 xs ys zs w h0 h1 h2 rfl he.symm rfl (by omega) (by omega) bi bx bz e1 l1' e2 l2' (mle bx l2').1 e3 l3 (mle bz l3).2 (by omega) (fun e => hq e.symm)
    · exact wMins_parts a0 a1 a2 _ _ _ c0 c1 c2 w (by omega) (by omega) (by omega) he

section
variable {H : Type} {enc : TypeId × Value → H} {P : Program} {w : World} {base : Nat} {spare : Nat → Bool} {held : Bool}

theorem open_three {r : Reach} {b0 : Nat} {t s e : TypeId} {v : Value} {d : DataW H} {p : List MemPlace} (ht : P.underlying t = some (.array 3 s)) (hct : P.cellsOf t = 3) (hs : P.underlying s = some (.slice e)) (hcs : P.cellsOf s = 1)
    (hf : flat P 3 e = some [some .u64]) (hc : P.cellsOf e = 1) (hv : Value.okWide P w r b0 t v) (h : DataW.Trod enc P w base spare held t v d p) :
    ∃ (a0 a1 a2 : Option Addr) (c0 c1 c2 : Nat) (xs ys zs : List Int), v = .agg #[.slice a0 xs.length c0, .slice a1 ys.length c1, .slice a2 zs.length c2] ∧ Row w a0 xs ∧ Row w a1 ys ∧ Row w a2 zs ∧
      xs.length ≤ 9223372036854775807 ∧ ys.length ≤ 9223372036854775807 ∧ zs.length ≤ 9223372036854775807 := by
  obtain ⟨cs, rfl⟩ : ∃ cs, v = .agg cs := by
    simp only [Value.okWide, ht] at hv; obtain ⟨cs, h1, _⟩ := hv; exact ⟨cs, h1⟩
  obtain ⟨fuel, hx⟩ := h
  have hx2 : DataW.trod enc P w base spare held fuel t cs.toList = some (d, p) := hx
  obtain ⟨_, _, _, _, hlen, _, _⟩ := DataW.trod_array ht hx2
  obtain ⟨k0, k1, k2, hk⟩ : ∃ k0 k1 k2, cs.toList = [k0, k1, k2] := by
    rw [hct] at hlen
    match hcl : cs.toList, hlen with
    | [a, b, c], _ => exact ⟨a, b, c, rfl⟩
    | [], h => simp at h
    | [_], h => simp at h
    | [_, _], h => simp at h
    | _ :: _ :: _ :: _ :: _, h => simp at h
  obtain rfl : cs = #[k0, k1, k2] := by cases cs; simp_all
  obtain ⟨y0, y1, y2, n, _, e0, e1, e2⟩ := trod_array3 ht hcs hx2
  obtain ⟨a0, c0, xs, rfl, r0, q0⟩ := row_of_cell hs hf hc e0
  obtain ⟨a1, c1, ys, rfl, r1, q1⟩ := row_of_cell hs hf hc e1
  obtain ⟨a2, c2, zs, rfl, r2, q2⟩ := row_of_cell hs hf hc e2
  exact ⟨a0, a1, a2, c0, c1, c2, xs, ys, zs, rfl, r0, r1, r2, q0, q1, q2⟩
end
end Go.Proofs.Ytedijnokbemegaa
