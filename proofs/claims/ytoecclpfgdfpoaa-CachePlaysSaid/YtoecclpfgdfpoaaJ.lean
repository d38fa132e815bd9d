/- The law's own helpers: is a number in a row; the last ones of a row, each once; what was put last: what each returns. -/
import Derived.Test.YtoecclpfgdfpoaaI
import Derived.Test.YtoecclpfgdfpoaaH
namespace Go.Proofs.Ytoecclpfgdfpoaa
open Go.RowKit

theorem notin_at {xs : List Int} {x : Int} (h : x ∉ xs) {k : Nat} (hk : k < xs.length) : xs.getD k 0 ≠ x := by
  intro e
  apply h
  rw [← e, List.getD_eq_getElem?_getD, List.getElem?_eq_getElem hk]
  exact List.getElem_mem hk

theorem in_first : ∀ {xs : List Int} {x : Int}, x ∈ xs → ∃ r, r < xs.length ∧ xs.getD r 0 = x ∧ ∀ j, j < r → xs.getD j 0 ≠ x
  | [], _, h => by simp at h
  | y :: r, x, h => by
    by_cases e : y = x
    · exact ⟨0, by simp, by simpa using e, fun j hj => by omega⟩
    · have hr : x ∈ r := (List.mem_cons.1 h).resolve_left (fun e2 => e e2.symm)
      obtain ⟨i, h1, h2, h3⟩ := in_first hr
      refine ⟨i + 1, by simp; omega, by simpa using h2, fun j hj => ?_⟩
      cases j with
      | zero => simpa using e
      | succ j => simpa using h3 j (by omega)

set_option maxHeartbeats 800000 in
theorem in_no (a : Option Addr) (c : Nat) (xs : List Int) (x : Int) (w : World) (ha : RowI w a xs) (hl : xs.length ≤ 1000000) (hx : x ∉ xs) :
    Calls Try.prog 36 #[.slice a xs.length c, .int .i64 x] w fun e w' => e = .returned (.bool false) ∧ w = w' := by
  have HA := Lib.hid ha
  have HX := Lib.hid hx
  clear ha hx
  go_enter Try.func36, Try.ntmps36
  go_wp2
  go_loop [5] (fun i => ∃ k : Nat, k ≤ xs.length ∧ i = .int .i64 k)
    (fun i => xs.length - (intOf i).toNat)
  case atStart => exact ⟨0, by omega, rfl⟩
  case round =>
    obtain ⟨k, hk, rfl⟩ := hrel
    by_cases hlt : k < xs.length
    · obtain ⟨b1, o1, rfl, l1, c1⟩ := HA.out.at_ hlt
      have k0 : (0 : Int) ≤ (k : Int) := by omega
      have k1 : (k : Int) < (xs.length : Int) := by omega
      have hne : (xs.getD k 0 == x) = false := by have := notin_at HX.out hlt; simpa using this
      generalize xs.getD k 0 = y at *
      go_wp2
      go_round
      case rel => exact ⟨k + 1, by omega, by go_num⟩
      case measure => simp [intOf]; omega
    · go_wp2
      go_ret
      exact ⟨rfl, rfl⟩

set_option maxHeartbeats 800000 in
theorem in_yes (a : Option Addr) (c : Nat) (xs : List Int) (x : Int) (w : World) (ha : RowI w a xs) (hl : xs.length ≤ 1000000) (hx : x ∈ xs) :
    Calls Try.prog 36 #[.slice a xs.length c, .int .i64 x] w fun e w' => e = .returned (.bool true) ∧ w = w' := by
  obtain ⟨r, hr, h1, h2⟩ := in_first hx
  have HA := Lib.hid ha
  have HE := Lib.hid h1
  have HN := Lib.hid h2
  clear ha hx h1 h2
  go_enter Try.func36, Try.ntmps36
  go_wp2
  go_loop [5] (fun i => ∃ k : Nat, k ≤ r ∧ i = .int .i64 k)
    (fun i => xs.length - (intOf i).toNat)
  case atStart => exact ⟨0, by omega, rfl⟩
  case round =>
    obtain ⟨k, hk, rfl⟩ := hrel
    obtain ⟨b1, o1, rfl, l1, c1⟩ := HA.out.at_ (show k < xs.length by omega)
    have k0 : (0 : Int) ≤ (k : Int) := by omega
    have k1 : (k : Int) < (xs.length : Int) := by omega
    have hkl : k < xs.length := by omega
    by_cases hlt : k < r
    · have hne : (xs.getD k 0 == x) = false := by have := HN.out k hlt; simpa using this
      generalize xs.getD k 0 = y at *
      go_wp2
      go_round
      case rel => exact ⟨k + 1, by omega, by go_num⟩
      case measure => simp [intOf]; omega
    · obtain rfl : k = r := by omega
      rw [HE.out] at c1
      go_wp2
      go_ret
      exact ⟨rfl, rfl⟩

theorem in_any (n : Nat) (a : Option Addr) (c : Nat) (xs : List Int) (x : Int) (w : World) (ha : RowI w a xs) (hn : xs.length = n) (hl : n ≤ 1000000) :
    Calls Try.prog 36 #[.slice a n c, .int .i64 x] w fun e w' => e = .returned (.bool (decide (x ∈ xs))) ∧ w = w' := by
  subst hn
  by_cases h : x ∈ xs
  · rw [decide_eq_true h]; exact in_yes a c xs x w ha hl h
  · rw [decide_eq_false h]; exact in_no a c xs x w ha hl h

theorem take_rev {α : Type} (l : List α) (m : Nat) (d : α) (h : m < l.length) : (l.take (m + 1)).reverse = l.getD m d :: (l.take m).reverse := by
  rw [List.take_succ_eq_append_getElem h, List.reverse_append]
  simp [List.getD_eq_getElem?_getD, h]

set_option maxHeartbeats 2000000 in
theorem recent_any (n : Nat) (a : Option Addr) (c r : Nat) (xs : List Int) (w : World) (ha : RowI w a xs) (hn : xs.length = n) (hl : n ≤ 1000000) (hr : r ≤ 1000000) :
    Calls Try.prog 22 #[.slice a n c, .int .i64 r] w (NewRow (rcn r xs) w) := by
  obtain ⟨i0, hi0, hz0, hz1, hz2⟩ := info_parts info3
  have HA := Lib.hid ha
  have HR := Lib.hid (gr_rcn r xs)
  have HN := Lib.hid hn
  have HT := Lib.hid (fun m hm => take_rev xs m 0 hm)
  have HT2 := Lib.hid (show xs.take n = xs by rw [← hn, List.take_length])
  clear ha hn
  go_enter Try.func22, Try.ntmps22
  go_wp2
  go_loopw [5, 6] (fun o i wr => ∃ (m : Nat) (out : List Int), m ≤ n ∧ i = .int .i64 ((m : Int) - 1) ∧ gr r out (xs.take m).reverse = rcn r xs ∧ out.length ≤ r ∧ Own wr 3 1 o out.length (ints out) ∧ (∀ b, o.ownBlock = some b → w.heap.size ≤ b) ∧ Below w.heap.size w wr)
    (fun _ i _ => (intOf i + 1).toNat)
  case atStart => exact ⟨n, [], by omega, by go_num, by rw [HT2.out]; exact HR.out, by simp, Own.nil _ _ _, fun b h => by simp [Value.ownBlock] at h, Below.refl _ _⟩
  case round =>
    obtain ⟨m, out, hm, rfl, hg, hlo, ho, hge, hb⟩ := hrel
    have HO := Lib.hid ho
    have HG := Lib.hid hg
    have HGE := Lib.hid hge
    have HB := Lib.hid hb
    clear ho hg hge hb
    obtain ⟨ao, co, rfl⟩ := HO.out.of_any
    by_cases h0 : m = 0
    · subst h0
      have HE := Lib.hid (show out = rcn r xs from HG.out)
      have e1 : ((0 : Nat) : Int) - 1 = -1 := rfl
      rw [e1]
      clear e1
      go_wp2
      go_ret
      exact ⟨_, rfl, by rw [← HE.out]; exact HO.out, HGE.out, HB.out⟩
    · obtain ⟨m, rfl⟩ : ∃ q, m = q + 1 := ⟨m - 1, by omega⟩
      have e1 : ((m + 1 : Nat) : Int) - 1 = (m : Int) := by omega
      rw [e1]
      clear e1
      have hmx : m < n := by omega
      have m0 : (0 : Int) ≤ (m : Int) := by omega
      have m1 : (m : Int) < (n : Int) := by omega
      by_cases hlt : out.length < r
      · obtain ⟨b1, o1, rfl, l1, c1⟩ := HA.out.at_ (show m < xs.length by rw [HN.out]; exact hmx)
        replace c1 := (HB.out.cell (p := ⟨b1, o1 + m, none⟩) l1).trans c1
        have HG2 := Lib.hid (show gr r out (xs.getD m 0 :: (xs.take m).reverse) = rcn r xs by rw [← HT.out m (by rw [HN.out]; exact hmx)]; exact HG.out)
        generalize xs.getD m 0 = x at *
        obtain ⟨ao', co', e2, _, hro⟩ := row_of_own HO.out
        simp only [Value.slice.injEq, true_and] at e2
        obtain ⟨rfl, rfl⟩ := e2
        have RO := Lib.hid hro
        clear hro
        by_cases hx : x ∈ out
        · have HX := Lib.hid (decide_eq_true hx)
          have HG3 := Lib.hid (show gr r out (xs.take m).reverse = rcn r xs by have := HG2.out; unfold gr at this; rw [if_pos hlt, if_pos hx] at this; exact this)
          clear hx
          go_wp2_with fail
          refine (in_any out.length _ co out x _ RO.out rfl (by omega)).mono ?_
          rintro e w1 ⟨rfl, rfl⟩
          rw [HX.out]
          go_wp2_with fail
          go_roundw
          case rel => exact ⟨m, out, by omega, by go_num, HG3.out, hlo, HO.out, HGE.out, HB.out⟩
          case measure => simp [intOf]
        · have HX := Lib.hid (decide_eq_false hx)
          have HG3 := Lib.hid (show gr r (out ++ [x]) (xs.take m).reverse = rcn r xs by have := HG2.out; unfold gr at this; rw [if_pos hlt, if_neg hx] at this; exact this)
          clear hx
          go_wp2_with fail
          refine (in_any out.length _ co out x _ RO.out rfl (by omega)).mono ?_
          rintro e w1 ⟨rfl, rfl⟩
          rw [HX.out]
          go_wp2_with (at_builtin; refine wpList_append_fresh _ rfl _ _ 44 rfl 3 i0 (.int .i64 0) 1 8 Try.underlying44 hi0 hz0 hz1 hz2 rfl (by decide) _ _ _ rfl (HO.out.alloc _) (some ⟨wr.heap.size, 0, none⟩) 1 1 [.int .i64 x] rfl rfl (fun _ => ⟨_, rfl, cell_one_new _ _ _⟩) (by simp [Value.oneCell']) (by simp [maxLen]; omega) (by omega) ?_; intro v' w2 ho2 hg2 hf2)
          have HB2 := Lib.hid ((HB.out.alloc HB.out.size (.cells #[.int .i64 x] 3)).trans (((Kept.refl (fun b => (Value.slice ao out.length co).ownBlock = some b) _).grown hg2 (fun k e => .inl e)).below (fun b _ hb => HGE.out b hb) (by have := HB.out.size; simp only [World.size_alloc]; omega)))
          have HGE2 := Lib.hid (show ∀ b, v'.ownBlock = some b → w.heap.size ≤ b from fun b hb => (hf2 b hb).elim (HGE.out b) (fun e => by have := HB.out.size; simp only [World.size_alloc] at e; omega))
          have HO2 := Lib.hid (show Own w2 3 1 v' (out ++ [x]).length (ints (out ++ [x])) by rw [List.length_append]; simpa [ints] using ho2)
          clear ho2 hg2 hf2
          go_wp2_with fail
          go_roundw
          case rel => exact ⟨m, out ++ [x], by omega, by go_num, HG3.out, by simp; omega, HO2.out, HGE2.out, HB2.out⟩
          case measure => simp [intOf]
      · have HE := Lib.hid (show out = rcn r xs by rw [← HG.out, gr_full (by omega)])
        go_wp2
        go_ret
        exact ⟨_, rfl, by rw [← HE.out]; exact HO.out, HGE.out, HB.out⟩
end Go.Proofs.Ytoecclpfgdfpoaa
