/- The place of a key, and what lets a thing go ahead of all: what each function returns, and what it leaves in memory. -/
import Derived.Test.YtoecclpfgdfpoaaA
namespace Go.Proofs.Ytoecclpfgdfpoaa
open Go.RowKit

theorem asks_key {W0 : World} {q : Nat} {k : Int} (l : List (Int × Int)) (hc : W0.cell? ⟨q, 0, none⟩ = some (.int .i64 k)) (hq : q < W0.heap.size) :
    Asks 47 (.pointer (some ⟨q, 0, none⟩)) W0 l (fun j => (l.getD j (0, 0)).1 == k) := fun _ _ W hW =>
  key_any q k _ _ W ((hW.cell (p := ⟨q, 0, none⟩) hq).trans hc) (Nat.lt_of_lt_of_le hq hW.size)

set_option maxHeartbeats 1000000 in
theorem find_some (p : Nat) (s : Value) (room : Int) (l : List (Int × Int)) (k : Int) (r : Nat) (w : World) (h : Cch w p s room l) (hl : l.length ≤ 1000000) (hr : r < l.length)
    (hf : (l.getD r (0, 0)).1 = k) (hno : ∀ j, j < r → (l.getD j (0, 0)).1 ≠ k) :
    Calls Try.prog 37 #[.pointer (some ⟨p, 0, none⟩), .int .i64 k] w fun e w' => e = .returned (.int .i64 r) ∧ Below w.heap.size w w' := by
  have c1 := h.blk.cell 1
  have hlt := h.blk.lt
  have HO := Lib.hid (h.own.alloc (.cells #[.int .i64 k] 3))
  have HA := Lib.hid (asks_key (W0 := w.alloc (.cells #[.int .i64 k] 3)) (q := w.heap.size) (k := k) l (by simp) (by simp))
  have HF := Lib.hid (show ((l.getD r (0, 0)).1 == k) = true by simpa using hf)
  have HN := Lib.hid (fun j (hj : j < r) => show ((l.getD j (0, 0)).1 == k) = false by simpa using hno j hj)
  simp at c1
  clear h hf hno
  go_enter Try.func37, Try.ntmps37
  go_wp2_with fail
  refine (index_some 47 _ s l _ r _ HO.out hr hl HF.out HN.out (fun v W => calls47 v _ W) HA.out).mono ?_
  rintro e w1 ⟨rfl, hb⟩
  have hb1 : Below w.heap.size w w1 := bl (by go_grown) hb
  clear hb
  go_wp2
  go_ret
  exact ⟨rfl, hb1⟩

set_option maxHeartbeats 1000000 in
theorem find_none (p : Nat) (s : Value) (room : Int) (l : List (Int × Int)) (k : Int) (w : World) (h : Cch w p s room l) (hl : l.length ≤ 1000000)
    (hno : ∀ j, j < l.length → (l.getD j (0, 0)).1 ≠ k) :
    Calls Try.prog 37 #[.pointer (some ⟨p, 0, none⟩), .int .i64 k] w fun e w' => e = .returned (.int .i64 (-1)) ∧ Below w.heap.size w w' := by
  have c1 := h.blk.cell 1
  have hlt := h.blk.lt
  have HO := Lib.hid (h.own.alloc (.cells #[.int .i64 k] 3))
  have HA := Lib.hid (asks_key (W0 := w.alloc (.cells #[.int .i64 k] 3)) (q := w.heap.size) (k := k) l (by simp) (by simp))
  have HN := Lib.hid (fun j (hj : j < l.length) => show ((l.getD j (0, 0)).1 == k) = false by simpa using hno j hj)
  simp at c1
  clear h hno
  go_enter Try.func37, Try.ntmps37
  go_wp2_with fail
  refine (index_none 47 _ s l _ _ HO.out hl HN.out (fun v W => calls47 v _ W) HA.out).mono ?_
  rintro e w1 ⟨rfl, hb⟩
  have hb1 : Below w.heap.size w w1 := bl (by go_grown) hb
  clear hb
  go_wp2
  go_ret
  exact ⟨rfl, hb1⟩

set_option maxHeartbeats 400000 in
theorem find_nil (k : Int) (w : World) :
    Calls Try.prog 37 #[.pointer none, .int .i64 k] w fun e w' => e = .returned (.int .i64 (-1)) ∧ Below w.heap.size w w' := by
  go_enter Try.func37, Try.ntmps37
  go_wp2
  go_ret
  exact ⟨rfl, by go_grown⟩

/-- A thing ahead of those that were ahead of its place, which goes. -/
def lifted (l : List (Int × Int)) (i : Nat) (x : Int × Int) : List (Int × Int) := x :: (l.take i ++ l.drop (i + 1))

theorem flat_take (l : List (Int × Int)) (i : Nat) : flat (l.take i) = (flat l).take (i * 2) := by
  induction l generalizing i with
  | nil => simp [flat]
  | cons x r ih =>
    cases i with
    | zero => rfl
    | succ i => rw [show (i + 1) * 2 = i * 2 + 1 + 1 by omega]; simp only [List.take_succ_cons, flat, ih]
theorem flat_drop (l : List (Int × Int)) (i : Nat) : flat (l.drop i) = (flat l).drop (i * 2) := by
  induction l generalizing i with
  | nil => simp [flat]
  | cons x r ih =>
    cases i with
    | zero => rfl
    | succ i => rw [show (i + 1) * 2 = i * 2 + 1 + 1 by omega]; simp only [List.drop_succ_cons, flat, ih]

theorem lifted_len {l : List (Int × Int)} {i : Nat} {x : Int × Int} (h : i < l.length) : (lifted l i x).length = l.length := by
  simp [lifted]; omega

/-- What lies in the row behind the copy and the store. -/
theorem lift_cells {L : List Value} {l : List (Int × Int)} {i : Nat} {x : Int × Int} (h : L.take (l.length * 2) = flat l) (hi : i < l.length) (hL : l.length * 2 ≤ L.length) :
    (((splice L 2 (flat (l.take i))).set 0 (.int .i64 x.1)).set 1 (.int .i64 x.2)).take (l.length * 2) = flat (lifted l i x) := by
  have hfl := flat_len (l.take i)
  rw [List.length_take, Nat.min_eq_left (by omega)] at hfl
  unfold splice lifted
  obtain ⟨a, b, L', rfl⟩ : ∃ a b L', L = a :: b :: L' := by
    match L, hL with
    | [], hL => simp at hL; omega
    | [_], hL => simp at hL; omega
    | a :: b :: L', _ => exact ⟨a, b, L', rfl⟩
  have e : (((List.take 2 (a :: b :: L') ++ (flat (l.take i) ++ List.drop (2 + (flat (l.take i)).length) (a :: b :: L'))).set 0 (.int .i64 x.1)).set 1 (.int .i64 x.2)) =
      .int .i64 x.1 :: .int .i64 x.2 :: (flat (l.take i) ++ L'.drop (i * 2)) := by
    rw [hfl, show 2 + i * 2 = i * 2 + 1 + 1 by omega]
    simp
  rw [e, show l.length * 2 = (l.length - 1) * 2 + 1 + 1 by omega]
  simp only [List.take_succ_cons, flat]
  congr 2
  rw [flat_app, List.take_append, hfl, List.take_of_length_le (by rw [hfl]; omega)]
  congr 1
  rw [flat_drop, ← h, List.drop_take, show (i + 1) * 2 = i * 2 + 1 + 1 by omega, List.drop_succ_cons, List.drop_succ_cons]
  congr 1
  omega

theorem info77 : (Try.prog.info? 77).map (·.size) = some 2 := by kernel_rfl

/-- What 'lift' leaves: the cache with the list turned; its row is the same array. -/
def LiftPost (p : Nat) (s : Value) (room : Int) (l : List (Int × Int)) (w : World) (e : Ending) (w' : World) : Prop :=
  e = .returned (.tuple #[]) ∧ Cch w' p s room l ∧ Kept (fun b => s.ownBlock = some b) w w'

set_option maxHeartbeats 2000000 in
theorem lift_any (p : Nat) (s : Value) (room : Int) (l : List (Int × Int)) (i : Nat) (x : Int × Int) (w : World) (h : Cch w p s room l) (hl : l.length ≤ 1000000) (hi : i < l.length) :
    Calls Try.prog 38 #[.pointer (some ⟨p, 0, none⟩), .int .i64 i, .agg #[.int .i64 x.1, .int .i64 x.2]] w (LiftPost p s room (lifted l i x) w) := by
  obtain ⟨g, cap, cur, rfl, hb, hc1, hc2, hc3, hc4⟩ := h.own.of_pos (by omega)
  have c1 := h.blk.cell 1
  have hlt := h.blk.lt
  have hne : ¬ g = p := fun e => h.ne (by simp [Value.ownBlock, e])
  have hglt := hb.lt
  simp at c1
  obtain ⟨x1, x2⟩ := x
  have hw0 : IntKind.i64.wrap ((i : Int) + 1) = (i : Int) + 1 := IntWalk.i64_in _ (by omega)
  have hw1 : (1 : Int) ≤ (i : Int) + 1 := by omega
  have hw2 : ((i : Int) + 1).toNat = i + 1 := by omega
  have hw3 : (i : Int) + 1 ≤ (cap : Int) := by omega
  have hw4 : (0 : Int) ≤ (i : Int) + 1 := by omega
  have hw5 : (i : Int) ≤ (cap : Int) := by omega
  have hw6 : (i : Int) ≤ (l.length : Int) := by omega
  have HB := Lib.hid ((hb.alloc (.cells #[.int .i64 x1, .int .i64 x2] 77)).drew)
  have HS := Lib.hid (fun j v (hj : (flat (l.take i))[j]? = some v) => show (w.alloc (.cells #[.int .i64 x1, .int .i64 x2] 77)).drew.cell? ((⟨g, 0, none⟩ : Addr).add j) = some v by
    rw [Addr.add_lit, Nat.zero_add, HB.out.cell, ← Array.getElem?_toList]
    rw [flat_take, ← hc4, List.getElem?_take] at hj
    split at hj
    · rw [List.getElem?_take] at hj
      split at hj
      · exact hj
      · cases hj
    · cases hj)
  have HLn := Lib.hid (show (flat (l.take i)).length = Nat.min i i * 2 by rw [flat_len, List.length_take]; simp; omega)
  have HFit := Lib.hid (show 2 + (flat (l.take i)).length ≤ cur.size by rw [HLn.out, hc3]; simp; omega)
  have HLen := Lib.hid (show 0 < (splice cur.toList 2 (flat (l.take i))).toArray.size by
    have := HFit.out
    rw [List.size_toArray, length_splice _ _ _ (by simpa using this), Array.length_toList]; omega)
  have HLen1 := Lib.hid (show 1 < (splice cur.toList 2 (flat (l.take i))).toArray.size by
    have := HFit.out
    rw [List.size_toArray, length_splice _ _ _ (by simpa using this), Array.length_toList]; omega)
  have hcl : l.length * 2 ≤ cur.toList.length := by
    have : cur.toList.length = cap * 2 := by simpa using hc3
    omega
  have HFin := Lib.hid (lift_cells (x := (x1, x2)) hc4 hi hcl)
  have HC3 := Lib.hid hc3
  have HPB := Lib.hid ((h.blk.alloc (.cells #[.int .i64 x1, .int .i64 x2] 77)).drew)
  have HK0 := Lib.hid (show Kept (fun b => (Value.slice (some ⟨g, 0, none⟩) l.length cap).ownBlock = some b) w (w.alloc (.cells #[.int .i64 x1, .int .i64 x2] 77)).drew from ((Kept.refl _ _).alloc _).drew)
  have HN := Lib.hid (lifted_len (x := (x1, x2)) hi)
  clear hc3 hc4 hb h hcl
  by_cases hcap : cap = 1
  · subst hcap
    obtain rfl : i = 0 := by omega
    have hw7 : IntKind.i64.wrap ((0 : Int) + 1) = 1 := rfl
    have hw8 : IntKind.i64.wrap 1 = 1 := rfl
    have e0 : ((0 : Nat) : Int) = 0 := rfl
    rw [e0]
    clear hw0 hw1 hw2 hw3 hw4 hw5 hw6 e0
    go_enter Try.func38, Try.ntmps38
    go_wp2_with fail
    go_region_law (refine step_copy_any _ rfl (.tmp 12) (.tmp 18) 70 70 rfl 77 2 Try.underlying70 info77 (some ⟨g, 0, none⟩) (some ⟨g, 0, none⟩) 2 0 0 0 1 g (by simp [Act.eval, Act.put]) (by simp [Act.eval, Act.put]) cur 77 HB.out (flat (l.take 0)) HLn.out (fun h => absurd h (by simp)) HFit.out (flat_one _) ?_; intro w2 hB2 hK2)
    all_goals
      have kb := Lib.hid (hK2.blk HPB.out (fun e => hne e.symm))
      have k1 : w2.cell? ⟨p, 1, none⟩ = some (.slice (some ⟨g, 0, none⟩) l.length 1) := kb.out.cell 1
      have k5 : w2.cell? ⟨w.heap.size, 0, none⟩ = some (.int .i64 x1) := (hK2.cell (by simp) (by omega)).trans (by simp)
      have k6 : w2.cell? ⟨w.heap.size, 1, none⟩ = some (.int .i64 x2) := (hK2.cell (by simp) (by omega)).trans (by simp)
      obtain ⟨y0, hy0⟩ : ∃ y0, w2.cell? ⟨g, 0, none⟩ = some y0 := ⟨_, (hB2.out.cell 0).trans (Array.getElem?_eq_getElem (HLen.out))⟩
      obtain ⟨y1, hy1⟩ : ∃ y1, w2.cell? ⟨g, 1, none⟩ = some y1 := ⟨_, (hB2.out.cell 1).trans (Array.getElem?_eq_getElem (HLen1.out))⟩
      have f0 := hB2.out.frozen 0
      have f1 := hB2.out.frozen 1
      have HK := Lib.hid hK2
      clear hK2
      go_wp2_with fail
      go_region
      go_wp2_with fail
      go_returns
      refine ⟨rfl, ⟨?_, ?_, ?_⟩, ?_⟩
      · exact (((kb.out.far (p := ⟨g, 0, none⟩) (fun e => hne e.symm) _).far (p := ⟨g, 1, none⟩) (fun e => hne e.symm) _).drew)
      · rw [HN.out]
        refine Own.mk ((((hB2.out).set_ 0 _).set_ 1 _).drew) hc1 hc2 ?_ ?_
        · simp only [Array.size_setIfInBounds]
          rw [List.size_toArray, length_splice _ _ _ (by simpa using HFit.out), Array.length_toList]
          exact HC3.out
        · simpa using HFin.out
      · simp [Value.ownBlock]; exact hne
      · exact ((((HK0.out.trans HK.out (fun b e => .inl (by rw [e]; rfl))).setCell (p := ⟨g, 0, none⟩) (.inl rfl) _).setCell (p := ⟨g, 1, none⟩) (.inl rfl) _).drew)
  · go_enter Try.func38, Try.ntmps38
    go_wp2_with fail
    go_region_law (refine step_copy_any _ rfl (.tmp 12) (.tmp 18) 70 70 rfl 77 2 Try.underlying70 info77 (some ⟨g, 2, none⟩) (some ⟨g, 0, none⟩) 2 i (cap - 1) i cap g (by simp [Act.eval, Act.put]) (by simp [Act.eval, Act.put]) cur 77 HB.out (flat (l.take i)) HLn.out (fun _ => ⟨rfl, _, rfl, HS.out⟩) HFit.out (flat_one _) ?_; intro w2 hB2 hK2)
    all_goals
      have kb := Lib.hid (hK2.blk HPB.out (fun e => hne e.symm))
      have k1 : w2.cell? ⟨p, 1, none⟩ = some (.slice (some ⟨g, 0, none⟩) l.length cap) := kb.out.cell 1
      have k5 : w2.cell? ⟨w.heap.size, 0, none⟩ = some (.int .i64 x1) := (hK2.cell (by simp) (by omega)).trans (by simp)
      have k6 : w2.cell? ⟨w.heap.size, 1, none⟩ = some (.int .i64 x2) := (hK2.cell (by simp) (by omega)).trans (by simp)
      obtain ⟨y0, hy0⟩ : ∃ y0, w2.cell? ⟨g, 0, none⟩ = some y0 := ⟨_, (hB2.out.cell 0).trans (Array.getElem?_eq_getElem (HLen.out))⟩
      obtain ⟨y1, hy1⟩ : ∃ y1, w2.cell? ⟨g, 1, none⟩ = some y1 := ⟨_, (hB2.out.cell 1).trans (Array.getElem?_eq_getElem (HLen1.out))⟩
      have f0 := hB2.out.frozen 0
      have f1 := hB2.out.frozen 1
      have HK := Lib.hid hK2
      clear hK2
      go_wp2_with fail
      go_region
      go_wp2_with fail
      go_returns
      refine ⟨rfl, ⟨?_, ?_, ?_⟩, ?_⟩
      · exact (((kb.out.far (p := ⟨g, 0, none⟩) (fun e => hne e.symm) _).far (p := ⟨g, 1, none⟩) (fun e => hne e.symm) _).drew)
      · rw [HN.out]
        refine Own.mk ((((hB2.out).set_ 0 _).set_ 1 _).drew) hc1 hc2 ?_ ?_
        · simp only [Array.size_setIfInBounds]
          rw [List.size_toArray, length_splice _ _ _ (by simpa using HFit.out), Array.length_toList]
          exact HC3.out
        · simpa using HFin.out
      · simp [Value.ownBlock]; exact hne
      · exact ((((HK0.out.trans HK.out (fun b e => .inl (by rw [e]; rfl))).setCell (p := ⟨g, 0, none⟩) (.inl rfl) _).setCell (p := ⟨g, 1, none⟩) (.inl rfl) _).drew)
end Go.Proofs.Ytoecclpfgdfpoaa
