/- The reference's Pop: what it returns and leaves. -/
import Derived.Test.YtffgjjlamdaajaaX
import Derived.Test.YtffgjjlamdaajaaHl
namespace Go.Proofs.Ytffgjjlamdaajaa
open Go.RowKit

theorem r2_facts {w : World} {r bi ci bk ck n : Nat} {I : List Int} {K : List Ky} (h : R2 w r (.slice (some ⟨bi, 0, none⟩) n ci) (.slice (some ⟨bk, 0, none⟩) n ck) I K) (hn : I.length = n) (hk : K.length = n) {y b : Nat} (hy : y < n) (hb : b < n) :
    w.cell? ⟨r, 0, none⟩ = some (.slice (some ⟨bi, 0, none⟩) n ci) ∧ w.cell? ⟨r, 1, none⟩ = some (.slice (some ⟨bk, 0, none⟩) n ck) ∧ w.cell? ⟨bi, y, none⟩ = some (.int .i64 (I.getD y 0)) ∧ w.cell? ⟨bi, b, none⟩ = some (.int .i64 (I.getD b 0)) ∧ w.cell? ⟨bk, y * 4, none⟩ = some (.int .u64 (K.getD y (0, 0, 0, 0)).1) ∧ w.cell? ⟨bk, y * 4 + 1, none⟩ = some (.int .u64 (K.getD y (0, 0, 0, 0)).2.1) ∧ w.cell? ⟨bk, y * 4 + 2, none⟩ = some (.int .i64 (K.getD y (0, 0, 0, 0)).2.2.1) ∧ w.cell? ⟨bk, y * 4 + 3, none⟩ = some (.int .i64 (K.getD y (0, 0, 0, 0)).2.2.2) ∧ w.cell? ⟨bk, b * 4, none⟩ = some (.int .u64 (K.getD b (0, 0, 0, 0)).1) ∧ w.cell? ⟨bk, b * 4 + 1, none⟩ = some (.int .u64 (K.getD b (0, 0, 0, 0)).2.1) ∧ w.cell? ⟨bk, b * 4 + 2, none⟩ = some (.int .i64 (K.getD b (0, 0, 0, 0)).2.2.1) ∧ w.cell? ⟨bk, b * 4 + 3, none⟩ = some (.int .i64 (K.getD b (0, 0, 0, 0)).2.2.2) := by
  have f0 := h.blk.cell 0
  have f1 := h.blk.cell 1
  simp at f0 f1
  have oi := h.oi
  have ok := h.ok
  rw [hn] at oi
  rw [hk] at ok
  obtain ⟨p0, p1, p2, p3⟩ := own_keyE ok (j := y) (by omega)
  obtain ⟨q0, q1, q2, q3⟩ := own_keyE ok (j := b) (by omega)
  exact ⟨f0, f1, own_int oi (by omega), own_int oi (by omega), p0, p1, p2, p3, q0, q1, q2, q3⟩
theorem r2_drew {w w' : World} {r : Nat} {si sk : Value} {I : List Int} {K : List Ky} (h : R2 w r si sk I K) (hb : Below w.drew.heap.size w.drew w') : R2 w' r si sk I K := h.fresh (bl (show Below w.heap.size w w.drew by go_grown) hb)
theorem take_src {w : World} {b g n c m : Nat} {I : List Int} (h : Own w 3 1 (.slice (some ⟨g, 0, none⟩) n c) m (ints I)) : ∀ j u, (ints (I.take b))[j]? = some u → w.cell? ((⟨g, 0, none⟩ : Addr).add j) = some u := fun j u hu => by
  refine World.ownsRow.cells h (g := g) rfl j u ?_
  have e : ints (I.take b) = (ints I).take b := by simp [ints]
  rw [e, List.getElem?_take] at hu
  split at hu
  · exact hu
  · cases hu
theorem take_srck {w : World} {b g n c m : Nat} {K : List Ky} (h : Own w 28 4 (.slice (some ⟨g, 0, none⟩) n c) m (kflat K)) : ∀ j u, (kflat (K.take b))[j]? = some u → w.cell? ((⟨g, 0, none⟩ : Addr).add j) = some u := fun j u hu => by
  refine World.ownsRow.cells h (g := g) rfl j u ?_
  rw [← List.take_append_drop b K, kflat_app, List.getElem?_append_left (List.getElem?_eq_some_iff.1 hu).1]
  exact hu
theorem drop_src {w : World} {b g n c m : Nat} {I : List Int} (h : Own w 3 1 (.slice (some ⟨g, 0, none⟩) n c) m (ints I)) : ∀ j u, (ints (I.drop b))[j]? = some u → w.cell? ((⟨g, b, none⟩ : Addr).add j) = some u := fun j u hu => by
  have e : ints (I.drop b) = (ints I).drop b := by simp [ints]
  rw [e, List.getElem?_drop] at hu
  have := World.ownsRow.cells h (g := g) rfl _ u hu
  rw [Addr.add_lit, Nat.zero_add] at this
  rw [Addr.add_lit]
  exact this
theorem drop_srck {w : World} {b g n c m : Nat} {K : List Ky} (h : Own w 28 4 (.slice (some ⟨g, 0, none⟩) n c) m (kflat K)) : ∀ j u, (kflat (K.drop b))[j]? = some u → w.cell? ((⟨g, b * 4, none⟩ : Addr).add j) = some u := fun j u hu => by
  by_cases hb : b ≤ K.length
  · have hl : (kflat (K.take b)).length = b * 4 := by rw [kflat_len, List.length_take, Nat.min_eq_left hb]
    have e : (kflat K)[b * 4 + j]? = some u := by
      rw [← List.take_append_drop b K, kflat_app, List.getElem?_append_right (by rw [hl]; omega), hl, Nat.add_sub_cancel_left]
      exact hu
    have := World.ownsRow.cells h (g := g) rfl _ u e
    rw [Addr.add_lit, Nat.zero_add] at this
    rw [Addr.add_lit]
    exact this
  · rw [List.drop_of_length_le (by omega)] at hu
    simp [kflat] at hu
def bestI (R : List Th) (y : Nat) : Int := if y = 0 then -1 else best R y

/-- What Pop leaves. -/
def RPop (r : Nat) (si sk : Value) (V : Value) (I' : List Int) (K' : List Ky) (w : World) (e : Ending) (w' : World) : Prop :=
  ∃ si' sk', e = .returned V ∧ R2 w' r si' sk' I' K' ∧ Kept (OR r si sk) w w' ∧ FreshR w r si sk si' sk'

set_option maxHeartbeats 8000000 in
set_option maxRecDepth 100000 in
theorem rpop_some (r : Nat) (si sk : Value) (I : List Int) (K : List Ky) (R : List Th) (n : Nat) (w : World) (h : R2 w r si sk I K) (hI : I = ids R) (hK : K = kys R) (hn : R.length = n) (h0 : 0 < n) (hl : n ≤ 1000000) :
    Calls Try.prog 21 #[.pointer (some ⟨r, 0, none⟩)] w (RPop r si sk (.tuple #[.int .i64 (g R (best R n)).1, kyV (g R (best R n)).2, .bool true]) (I.take (best R n) ++ I.drop (best R n + 1)) (K.take (best R n) ++ K.drop (best R n + 1)) w) := by
  obtain ⟨i0, hi0, hz0, hz1, hz2⟩ := info_parts info3z
  obtain ⟨i1, ji0, jz0, jz1, jz2⟩ := info_parts info28z
  have hIn : I.length = n := by rw [hI]; simp [hn]
  have hKn : K.length = n := by rw [hK]; simp [hn]
  have HIa := Lib.hid (show ∀ i, I.getD i 0 = (g R i).1 from fun i => by rw [hI, ids_at])
  have HKa := Lib.hid (show ∀ i, K.getD i (0, 0, 0, 0) = (g R i).2 from fun i => by rw [hK, kys_at])
  obtain ⟨bi, ci, _, eb, _, hci, _⟩ := h.oi.of_pos (by omega)
  obtain ⟨bk, ck, _, ec, _, hck, _⟩ := h.ok.of_pos (by omega)
  rw [hIn] at eb
  rw [hKn] at ec
  subst eb ec
  have HCi := Lib.hid (show (n : Int) ≤ (ci : Int) by omega)
  have HCk := Lib.hid (show (n : Int) ≤ (ck : Int) by omega)
  have HIn := Lib.hid hIn
  have HKn := Lib.hid hKn
  have HR := Lib.hid h
  have c0 := h.blk.cell 0
  have c1 := h.blk.cell 1
  simp at c0 c1
  have hrlt := h.blk.lt
  clear h hI hK hIn hKn hn hci hck
  go_enter Try.func21, Try.ntmps21
  go_wp2_with fail
  have HB1 := Lib.hid (show Below w.heap.size w (w.alloc (.cells #[.int .u64 0, .int .u64 0, .int .i64 0, .int .i64 0] 28)) by go_grown)
  have HZ1 := Lib.hid (Blk.new w 28 #[.int .u64 0, .int .u64 0, .int .i64 0, .int .i64 0])
  go_loopw [5, 6] (fun bs i wr => ∃ (y : Nat), i = .int .i64 y ∧ y ≤ n ∧ bs = .int .i64 (bestI R y) ∧ Hid (Below w.heap.size w wr) ∧ Hid (Blk wr w.heap.size 28 #[.int .u64 0, .int .u64 0, .int .i64 0, .int .i64 0]))
    (fun _ i _ => n - (intOf i).toNat)
  case atStart => exact ⟨0, rfl, by omega, rfl, HB1, HZ1⟩
  case round =>
    obtain ⟨y, rfl, hy, rfl, HB, HZ⟩ := hrel
    have HR2 := Lib.hid (HR.out.fresh HB.out)
    by_cases hyl : y < n
    · have t2 : (0 : Int) ≤ (y : Int) := by omega
      have t3 : (y : Int) < (n : Int) := by omega
      have d0 := HR2.out.blk.cell 0
      have d1 := HR2.out.blk.cell 1
      simp at d0 d1
      have HZw := Lib.hid (fun (w' : World) (h : Below wr.heap.size wr w') => HZ.out.below h HZ.out.lt)
      have HBw := Lib.hid (fun (w' : World) (h : Below wr.heap.size wr w') => bl HB.out h)
      by_cases hy0 : y = 0
      · subst hy0
        have e0 : bestI R 0 = -1 := rfl
        have e1 : bestI R (0 + 1) = 0 := rfl
        rw [e0]
        go_wp2_with fail
        go_quiet (fail)
        go_wp2_with fail
        go_roundw
        case rel => exact ⟨0 + 1, by go_num, by omega, by rw [e1]; rfl, Lib.hid (HBw.out _ (below_drewN (Below.refl _ _) _)), Lib.hid (HZw.out _ (below_drewN (Below.refl _ _) _))⟩
        case measure => simp [intOf]; omega
      · have hb := best_lt R y (by omega)
        have hbs : bestI R y = (best R y : Int) := if_neg hy0
        have hbs1 : bestI R (y + 1) = ((if ahead (g R y) (g R (best R y)) then y else best R y : Nat) : Int) := by
          unfold bestI
          rw [if_neg (by omega)]
          rw [show best R (y + 1) = if y = 0 then 0 else if ahead (g R y) (g R (best R y)) then y else best R y from rfl, if_neg hy0]
        rw [hbs]
        have HF := Lib.hid (fun (w' : World) (h' : R2 w' r (.slice (some ⟨bi, 0, none⟩) n ci) (.slice (some ⟨bk, 0, none⟩) n ck) I K) => r2_facts h' HIn.out HKn.out hyl (show best R y < n by omega))
        rw [HIa.out y, HIa.out (best R y), HKa.out y, HKa.out (best R y)] at HF
        generalize g R (best R y) = z at *
        generalize best R y = b at *
        generalize g R y = x at *
        obtain ⟨xi, x1, x2, x3, x4⟩ := x
        obtain ⟨zi, z1, z2, z3, z4⟩ := z
        have HS1 := Lib.hid hbs1
        clear hbs1 hbs d0 d1
        (try dsimp only at HF)
        obtain ⟨f0, f1, fi, fj, p0, p1, p2, p3, q0, q1, q2, q3⟩ := HF.out _ HR2.out
        have u1 : ¬ (b : Int) < 0 := by omega
        have u1d : decide ((b : Int) < 0) = false := decide_eq_false u1
        have u2 : (0 : Int) ≤ (b : Int) := by omega
        have u3 : (b : Int) < (n : Int) := by omega
        cases hxz : ltK (x1, x2, x3, x4) (z1, z2, z3, z4)
        · cases hzx : ltK (z1, z2, z3, z4) (x1, x2, x3, x4)
          · have hk : (x1, x2, x3, x4) = (z1, z2, z3, z4) := by
              rcases ltP_tri (x1, x2, x3, x4) (z1, z2, z3, z4) with q | q | q
              · rw [ltK_true q] at hxz; cases hxz
              · exact q
              · rw [ltK_true q] at hzx; cases hzx
            go_wp2_with fail
            refine wp_region_noPanic ?_
            refine wp_region_held_lex (fun W => W.cell? ⟨r, 0, none⟩ = some (.slice (some ⟨bi, 0, none⟩) n ci) ∧ W.cell? ⟨r, 1, none⟩ = some (.slice (some ⟨bk, 0, none⟩) n ck) ∧ W.cell? ⟨bi, y, none⟩ = some (.int .i64 xi) ∧ W.cell? ⟨bi, b, none⟩ = some (.int .i64 zi) ∧ W.cell? ⟨bk, y * 4, none⟩ = some (.int .u64 x1) ∧ W.cell? ⟨bk, y * 4 + 1, none⟩ = some (.int .u64 x2) ∧ W.cell? ⟨bk, y * 4 + 2, none⟩ = some (.int .i64 x3) ∧ W.cell? ⟨bk, y * 4 + 3, none⟩ = some (.int .i64 x4) ∧ W.cell? ⟨bk, b * 4, none⟩ = some (.int .u64 z1) ∧ W.cell? ⟨bk, b * 4 + 1, none⟩ = some (.int .u64 z2) ∧ W.cell? ⟨bk, b * 4 + 2, none⟩ = some (.int .i64 z3) ∧ W.cell? ⟨bk, b * 4 + 3, none⟩ = some (.int .i64 z4)) [false, false, false, false, false, false, false, false, false, false, false, false, false, false, false, false, false, true, false, false, false, false, false, false, false, false, false, false, false, false, false, false, false, false, true, false, false, false, false, false, false, false, false, false, false, false, false, false, false, false, false, false, false, false] (by kernel_rfl) (by kernel_rfl) (fun _ _ _ _ _ h => h) ⟨f0, f1, fi, fj, p0, p1, p2, p3, q0, q1, q2, q3⟩ ?_
            refine held_take (v := ?_) (by rfl) ?_ ?_
            rotate_left
            focus (intro W hSw; (try dsimp only at hSw); go_simp; (try with_reducible rfl))
            (try simp only [Act.put, List.setIfInBounds_toArray, List.set_cons_zero, List.set_cons_succ])
            refine held_take (v := ?_) (by rfl) ?_ ?_
            rotate_left
            focus (intro W hSw; (try dsimp only at hSw); go_simp; (try with_reducible rfl))
            (try simp only [Act.put, List.setIfInBounds_toArray, List.set_cons_zero, List.set_cons_succ])
            refine held_take (v := ?_) (by rfl) ?_ ?_
            rotate_left
            focus (intro W hSw; (try dsimp only at hSw); go_simp; (try with_reducible rfl))
            (try simp only [Act.put, List.setIfInBounds_toArray, List.set_cons_zero, List.set_cons_succ])
            refine held_take (v := ?_) (by rfl) ?_ ?_
            rotate_left
            focus (intro W hSw; (try dsimp only at hSw); go_simp; (try with_reducible rfl))
            (try simp only [Act.put, List.setIfInBounds_toArray, List.set_cons_zero, List.set_cons_succ])
            refine held_take (v := ?_) (by rfl) ?_ ?_
            rotate_left
            focus (intro W hSw; (try dsimp only at hSw); go_simp; (try with_reducible rfl))
            (try simp only [Act.put, List.setIfInBounds_toArray, List.set_cons_zero, List.set_cons_succ])
            refine held_take (v := ?_) (by rfl) ?_ ?_
            rotate_left
            focus (intro W hSw; (try dsimp only at hSw); go_simp; (try with_reducible rfl))
            (try simp only [Act.put, List.setIfInBounds_toArray, List.set_cons_zero, List.set_cons_succ])
            refine held_take (v := ?_) (by rfl) ?_ ?_
            rotate_left
            focus (intro W hSw; (try dsimp only at hSw); go_simp; (try with_reducible rfl))
            (try simp only [Act.put, List.setIfInBounds_toArray, List.set_cons_zero, List.set_cons_succ])
            refine held_take (v := ?_) (by rfl) ?_ ?_
            rotate_left
            focus (intro W hSw; (try dsimp only at hSw); go_simp; (try with_reducible rfl))
            (try simp only [Act.put, List.setIfInBounds_toArray, List.set_cons_zero, List.set_cons_succ])
            refine held_take (v := ?_) (by rfl) ?_ ?_
            rotate_left
            focus (intro W hSw; (try dsimp only at hSw); go_simp; (try with_reducible rfl))
            (try simp only [Act.put, List.setIfInBounds_toArray, List.set_cons_zero, List.set_cons_succ])
            refine held_take (v := ?_) (by rfl) ?_ ?_
            rotate_left
            focus (intro W hSw; (try dsimp only at hSw); go_simp; (try with_reducible rfl))
            (try simp only [Act.put, List.setIfInBounds_toArray, List.set_cons_zero, List.set_cons_succ])
            refine held_take (v := ?_) (by rfl) ?_ ?_
            rotate_left
            focus (intro W hSw; (try dsimp only at hSw); go_simp; (try with_reducible rfl))
            (try simp only [Act.put, List.setIfInBounds_toArray, List.set_cons_zero, List.set_cons_succ])
            refine held_take (v := ?_) (by rfl) ?_ ?_
            rotate_left
            focus (intro W hSw; (try dsimp only at hSw); go_simp; (try with_reducible rfl))
            (try simp only [Act.put, List.setIfInBounds_toArray, List.set_cons_zero, List.set_cons_succ])
            refine held_take (v := ?_) (by rfl) ?_ ?_
            rotate_left
            focus (intro W hSw; (try dsimp only at hSw); go_simp; (try with_reducible rfl))
            (try simp only [Act.put, List.setIfInBounds_toArray, List.set_cons_zero, List.set_cons_succ])
            refine held_take (v := ?_) (by rfl) ?_ ?_
            rotate_left
            focus (intro W hSw; (try dsimp only at hSw); go_simp; (try with_reducible rfl))
            (try simp only [Act.put, List.setIfInBounds_toArray, List.set_cons_zero, List.set_cons_succ])
            refine held_take (v := ?_) (by rfl) ?_ ?_
            rotate_left
            focus (intro W hSw; (try dsimp only at hSw); go_simp; (try with_reducible rfl))
            (try simp only [Act.put, List.setIfInBounds_toArray, List.set_cons_zero, List.set_cons_succ])
            refine held_take (v := ?_) (by rfl) ?_ ?_
            rotate_left
            focus (intro W hSw; (try dsimp only at hSw); go_simp; (try with_reducible rfl))
            (try simp only [Act.put, List.setIfInBounds_toArray, List.set_cons_zero, List.set_cons_succ])
            refine held_take (v := ?_) (by rfl) ?_ ?_
            rotate_left
            focus (intro W hSw; (try dsimp only at hSw); go_simp; (try with_reducible rfl))
            (try simp only [Act.put, List.setIfInBounds_toArray, List.set_cons_zero, List.set_cons_succ])
            refine held_call (by rfl) (fun K' hK => ?_)
            go_simp
            go_at_call 10; refine (refLess_any (_, _, _, _) (_, _, _, _) _).mono ?_; rintro e w5 ⟨rfl, hb5⟩; (first | rw [hxz]); have HR2 := Lib.hid (show R2 w5 r (.slice (some ⟨bi, 0, none⟩) n ci) (.slice (some ⟨bk, 0, none⟩) n ck) I K from by first | exact HR2.out.fresh hb5 | exact r2_drew HR2.out hb5); have HB := Lib.hid (show Below w.heap.size w w5 by first | exact bl HB.out hb5 | exact bl HB.out.drew hb5); obtain ⟨f0, f1, fi, fj, p0, p1, p2, p3, q0, q1, q2, q3⟩ := HF.out _ HR2.out; have HZ := Lib.hid (show Blk w5 w.heap.size 28 #[.int .u64 0, .int .u64 0, .int .i64 0, .int .i64 0] by first | exact Blk.below HZ.out hb5 HZ.out.lt | exact Blk.below HZ.out.drew hb5 HZ.out.lt); clear hb5
            refine hK.out _ _ ⟨f0, f1, fi, fj, p0, p1, p2, p3, q0, q1, q2, q3⟩ ?_
            clear hK K'
            (try simp only [Act.put, List.setIfInBounds_toArray, List.set_cons_zero, List.set_cons_succ])
            refine held_take (v := ?_) (by rfl) ?_ ?_
            rotate_left
            focus (intro W hSw; (try dsimp only at hSw); go_simp; (try with_reducible rfl))
            (try simp only [Act.put, List.setIfInBounds_toArray, List.set_cons_zero, List.set_cons_succ])
            refine held_take (v := ?_) (by rfl) ?_ ?_
            rotate_left
            focus (intro W hSw; (try dsimp only at hSw); go_simp; (try with_reducible rfl))
            (try simp only [Act.put, List.setIfInBounds_toArray, List.set_cons_zero, List.set_cons_succ])
            refine held_take (v := ?_) (by rfl) ?_ ?_
            rotate_left
            focus (intro W hSw; (try dsimp only at hSw); go_simp; (try with_reducible rfl))
            (try simp only [Act.put, List.setIfInBounds_toArray, List.set_cons_zero, List.set_cons_succ])
            refine held_take (v := ?_) (by rfl) ?_ ?_
            rotate_left
            focus (intro W hSw; (try dsimp only at hSw); go_simp; (try with_reducible rfl))
            (try simp only [Act.put, List.setIfInBounds_toArray, List.set_cons_zero, List.set_cons_succ])
            refine held_take (v := ?_) (by rfl) ?_ ?_
            rotate_left
            focus (intro W hSw; (try dsimp only at hSw); go_simp; (try with_reducible rfl))
            (try simp only [Act.put, List.setIfInBounds_toArray, List.set_cons_zero, List.set_cons_succ])
            refine held_take (v := ?_) (by rfl) ?_ ?_
            rotate_left
            focus (intro W hSw; (try dsimp only at hSw); go_simp; (try with_reducible rfl))
            (try simp only [Act.put, List.setIfInBounds_toArray, List.set_cons_zero, List.set_cons_succ])
            refine held_take (v := ?_) (by rfl) ?_ ?_
            rotate_left
            focus (intro W hSw; (try dsimp only at hSw); go_simp; (try with_reducible rfl))
            (try simp only [Act.put, List.setIfInBounds_toArray, List.set_cons_zero, List.set_cons_succ])
            refine held_take (v := ?_) (by rfl) ?_ ?_
            rotate_left
            focus (intro W hSw; (try dsimp only at hSw); go_simp; (try with_reducible rfl))
            (try simp only [Act.put, List.setIfInBounds_toArray, List.set_cons_zero, List.set_cons_succ])
            refine held_take (v := ?_) (by rfl) ?_ ?_
            rotate_left
            focus (intro W hSw; (try dsimp only at hSw); go_simp; (try with_reducible rfl))
            (try simp only [Act.put, List.setIfInBounds_toArray, List.set_cons_zero, List.set_cons_succ])
            refine held_take (v := ?_) (by rfl) ?_ ?_
            rotate_left
            focus (intro W hSw; (try dsimp only at hSw); go_simp; (try with_reducible rfl))
            (try simp only [Act.put, List.setIfInBounds_toArray, List.set_cons_zero, List.set_cons_succ])
            refine held_take (v := ?_) (by rfl) ?_ ?_
            rotate_left
            focus (intro W hSw; (try dsimp only at hSw); go_simp; (try with_reducible rfl))
            (try simp only [Act.put, List.setIfInBounds_toArray, List.set_cons_zero, List.set_cons_succ])
            refine held_take (v := ?_) (by rfl) ?_ ?_
            rotate_left
            focus (intro W hSw; (try dsimp only at hSw); go_simp; (try with_reducible rfl))
            (try simp only [Act.put, List.setIfInBounds_toArray, List.set_cons_zero, List.set_cons_succ])
            refine held_take (v := ?_) (by rfl) ?_ ?_
            rotate_left
            focus (intro W hSw; (try dsimp only at hSw); go_simp; (try with_reducible rfl))
            (try simp only [Act.put, List.setIfInBounds_toArray, List.set_cons_zero, List.set_cons_succ])
            refine held_take (v := ?_) (by rfl) ?_ ?_
            rotate_left
            focus (intro W hSw; (try dsimp only at hSw); go_simp; (try with_reducible rfl))
            (try simp only [Act.put, List.setIfInBounds_toArray, List.set_cons_zero, List.set_cons_succ])
            refine held_take (v := ?_) (by rfl) ?_ ?_
            rotate_left
            focus (intro W hSw; (try dsimp only at hSw); go_simp; (try with_reducible rfl))
            (try simp only [Act.put, List.setIfInBounds_toArray, List.set_cons_zero, List.set_cons_succ])
            refine held_take (v := ?_) (by rfl) ?_ ?_
            rotate_left
            focus (intro W hSw; (try dsimp only at hSw); go_simp; (try with_reducible rfl))
            (try simp only [Act.put, List.setIfInBounds_toArray, List.set_cons_zero, List.set_cons_succ])
            refine held_call (by rfl) (fun K' hK => ?_)
            go_simp
            go_at_call 10; refine (refLess_any (_, _, _, _) (_, _, _, _) _).mono ?_; rintro e w5 ⟨rfl, hb5⟩; (first | rw [hzx]); have HR2 := Lib.hid (show R2 w5 r (.slice (some ⟨bi, 0, none⟩) n ci) (.slice (some ⟨bk, 0, none⟩) n ck) I K from by first | exact HR2.out.fresh hb5 | exact r2_drew HR2.out hb5); have HB := Lib.hid (show Below w.heap.size w w5 by first | exact bl HB.out hb5 | exact bl HB.out.drew hb5); obtain ⟨f0, f1, fi, fj, p0, p1, p2, p3, q0, q1, q2, q3⟩ := HF.out _ HR2.out; have HZ := Lib.hid (show Blk w5 w.heap.size 28 #[.int .u64 0, .int .u64 0, .int .i64 0, .int .i64 0] by first | exact Blk.below HZ.out hb5 HZ.out.lt | exact Blk.below HZ.out.drew hb5 HZ.out.lt); clear hb5
            refine hK.out _ _ ⟨f0, f1, fi, fj, p0, p1, p2, p3, q0, q1, q2, q3⟩ ?_
            clear hK K'
            (try simp only [Act.put, List.setIfInBounds_toArray, List.set_cons_zero, List.set_cons_succ])
            refine held_take (v := ?_) (by rfl) ?_ ?_
            rotate_left
            focus (intro W hSw; (try dsimp only at hSw); go_simp; (try with_reducible rfl))
            (try simp only [Act.put, List.setIfInBounds_toArray, List.set_cons_zero, List.set_cons_succ])
            refine held_take (v := ?_) (by rfl) ?_ ?_
            rotate_left
            focus (intro W hSw; (try dsimp only at hSw); go_simp; (try with_reducible rfl))
            (try simp only [Act.put, List.setIfInBounds_toArray, List.set_cons_zero, List.set_cons_succ])
            refine held_take (v := ?_) (by rfl) ?_ ?_
            rotate_left
            focus (intro W hSw; (try dsimp only at hSw); go_simp; (try with_reducible rfl))
            (try simp only [Act.put, List.setIfInBounds_toArray, List.set_cons_zero, List.set_cons_succ])
            refine held_take (v := ?_) (by rfl) ?_ ?_
            rotate_left
            focus (intro W hSw; (try dsimp only at hSw); go_simp; (try with_reducible rfl))
            (try simp only [Act.put, List.setIfInBounds_toArray, List.set_cons_zero, List.set_cons_succ])
            refine held_take (v := ?_) (by rfl) ?_ ?_
            rotate_left
            focus (intro W hSw; (try dsimp only at hSw); go_simp; (try with_reducible rfl))
            (try simp only [Act.put, List.setIfInBounds_toArray, List.set_cons_zero, List.set_cons_succ])
            refine held_take (v := ?_) (by rfl) ?_ ?_
            rotate_left
            focus (intro W hSw; (try dsimp only at hSw); go_simp; (try with_reducible rfl))
            (try simp only [Act.put, List.setIfInBounds_toArray, List.set_cons_zero, List.set_cons_succ])
            refine held_take (v := ?_) (by rfl) ?_ ?_
            rotate_left
            focus (intro W hSw; (try dsimp only at hSw); go_simp; (try with_reducible rfl))
            (try simp only [Act.put, List.setIfInBounds_toArray, List.set_cons_zero, List.set_cons_succ])
            refine held_take (v := ?_) (by rfl) ?_ ?_
            rotate_left
            focus (intro W hSw; (try dsimp only at hSw); go_simp; (try with_reducible rfl))
            (try simp only [Act.put, List.setIfInBounds_toArray, List.set_cons_zero, List.set_cons_succ])
            refine held_take (v := ?_) (by rfl) ?_ ?_
            rotate_left
            focus (intro W hSw; (try dsimp only at hSw); go_simp; (try with_reducible rfl))
            (try simp only [Act.put, List.setIfInBounds_toArray, List.set_cons_zero, List.set_cons_succ])
            refine held_take (v := ?_) (by rfl) ?_ ?_
            rotate_left
            focus (intro W hSw; (try dsimp only at hSw); go_simp; (try with_reducible rfl))
            (try simp only [Act.put, List.setIfInBounds_toArray, List.set_cons_zero, List.set_cons_succ])
            refine held_take (v := ?_) (by rfl) ?_ ?_
            rotate_left
            focus (intro W hSw; (try dsimp only at hSw); go_simp; (try with_reducible rfl))
            (try simp only [Act.put, List.setIfInBounds_toArray, List.set_cons_zero, List.set_cons_succ])
            refine held_take (v := ?_) (by rfl) ?_ ?_
            rotate_left
            focus (intro W hSw; (try dsimp only at hSw); go_simp; (try with_reducible rfl))
            (try simp only [Act.put, List.setIfInBounds_toArray, List.set_cons_zero, List.set_cons_succ])
            refine held_take (v := ?_) (by rfl) ?_ ?_
            rotate_left
            focus (intro W hSw; (try dsimp only at hSw); go_simp; (try with_reducible rfl))
            (try simp only [Act.put, List.setIfInBounds_toArray, List.set_cons_zero, List.set_cons_succ])
            refine held_take (v := ?_) (by rfl) ?_ ?_
            rotate_left
            focus (intro W hSw; (try dsimp only at hSw); go_simp; (try with_reducible rfl))
            (try simp only [Act.put, List.setIfInBounds_toArray, List.set_cons_zero, List.set_cons_succ])
            refine held_take (v := ?_) (by rfl) ?_ ?_
            rotate_left
            focus (intro W hSw; (try dsimp only at hSw); go_simp; (try with_reducible rfl))
            (try simp only [Act.put, List.setIfInBounds_toArray, List.set_cons_zero, List.set_cons_succ])
            refine held_take (v := ?_) (by rfl) ?_ ?_
            rotate_left
            focus (intro W hSw; (try dsimp only at hSw); go_simp; (try with_reducible rfl))
            (try simp only [Act.put, List.setIfInBounds_toArray, List.set_cons_zero, List.set_cons_succ])
            refine held_take (v := ?_) (by rfl) ?_ ?_
            rotate_left
            focus (intro W hSw; (try dsimp only at hSw); go_simp; (try with_reducible rfl))
            (try simp only [Act.put, List.setIfInBounds_toArray, List.set_cons_zero, List.set_cons_succ])
            refine held_take (v := ?_) (by rfl) ?_ ?_
            rotate_left
            focus (intro W hSw; (try dsimp only at hSw); go_simp; (try with_reducible rfl))
            (try simp only [Act.put, List.setIfInBounds_toArray, List.set_cons_zero, List.set_cons_succ])
            refine held_take (v := ?_) (by rfl) ?_ ?_
            rotate_left
            focus (intro W hSw; (try dsimp only at hSw); go_simp; (try with_reducible rfl))
            (try simp only [Act.put, List.setIfInBounds_toArray, List.set_cons_zero, List.set_cons_succ])
            refine held_end ?_
            refine NoPanic.normal ?_
            by_cases hi : xi < zi
            · have hid : decide (xi < zi) = true := decide_eq_true hi
              have HA := Lib.hid (show ahead (xi, x1, x2, x3, x4) (zi, z1, z2, z3, z4) = true by unfold ahead; rw [if_pos hk]; simpa using hi)
              clear hk
              go_wp2_with fail
              go_roundw
              case rel => exact ⟨y + 1, by go_num, by omega, by rw [HS1.out, if_pos HA.out], HB, HZ⟩
              case measure => simp [intOf]; omega
            · have hid : decide (xi < zi) = false := decide_eq_false hi
              have HA := Lib.hid (show ahead (xi, x1, x2, x3, x4) (zi, z1, z2, z3, z4) = false by unfold ahead; rw [if_pos hk]; simpa using hi)
              clear hk
              go_wp2_with fail
              go_roundw
              case rel => exact ⟨y + 1, by go_num, by omega, by rw [HS1.out, if_neg (by rw [HA.out]; simp)], HB, HZ⟩
              case measure => simp [intOf]; omega
          · have HA := Lib.hid (show ahead (xi, x1, x2, x3, x4) (zi, z1, z2, z3, z4) = false by
              unfold ahead
              rw [if_neg (show ¬ (x1, x2, x3, x4) = (z1, z2, z3, z4) from fun q => by rw [q, ltK_irr] at hzx; cases hzx)]
              exact hxz)
            go_wp2_with fail
            refine wp_region_noPanic ?_
            refine wp_region_held_lex (fun W => W.cell? ⟨r, 0, none⟩ = some (.slice (some ⟨bi, 0, none⟩) n ci) ∧ W.cell? ⟨r, 1, none⟩ = some (.slice (some ⟨bk, 0, none⟩) n ck) ∧ W.cell? ⟨bi, y, none⟩ = some (.int .i64 xi) ∧ W.cell? ⟨bi, b, none⟩ = some (.int .i64 zi) ∧ W.cell? ⟨bk, y * 4, none⟩ = some (.int .u64 x1) ∧ W.cell? ⟨bk, y * 4 + 1, none⟩ = some (.int .u64 x2) ∧ W.cell? ⟨bk, y * 4 + 2, none⟩ = some (.int .i64 x3) ∧ W.cell? ⟨bk, y * 4 + 3, none⟩ = some (.int .i64 x4) ∧ W.cell? ⟨bk, b * 4, none⟩ = some (.int .u64 z1) ∧ W.cell? ⟨bk, b * 4 + 1, none⟩ = some (.int .u64 z2) ∧ W.cell? ⟨bk, b * 4 + 2, none⟩ = some (.int .i64 z3) ∧ W.cell? ⟨bk, b * 4 + 3, none⟩ = some (.int .i64 z4)) [false, false, false, false, false, false, false, false, false, false, false, false, false, false, false, false, false, true, false, false, false, false, false, false, false, false, false, false, false, false, false, false, false, false, true, false, false, false, false, false, false, false, false, false, false, false, false, false, false, false, false, false, false, false] (by kernel_rfl) (by kernel_rfl) (fun _ _ _ _ _ h => h) ⟨f0, f1, fi, fj, p0, p1, p2, p3, q0, q1, q2, q3⟩ ?_
            refine held_take (v := ?_) (by rfl) ?_ ?_
            rotate_left
            focus (intro W hSw; (try dsimp only at hSw); go_simp; (try with_reducible rfl))
            (try simp only [Act.put, List.setIfInBounds_toArray, List.set_cons_zero, List.set_cons_succ])
            refine held_take (v := ?_) (by rfl) ?_ ?_
            rotate_left
            focus (intro W hSw; (try dsimp only at hSw); go_simp; (try with_reducible rfl))
            (try simp only [Act.put, List.setIfInBounds_toArray, List.set_cons_zero, List.set_cons_succ])
            refine held_take (v := ?_) (by rfl) ?_ ?_
            rotate_left
            focus (intro W hSw; (try dsimp only at hSw); go_simp; (try with_reducible rfl))
            (try simp only [Act.put, List.setIfInBounds_toArray, List.set_cons_zero, List.set_cons_succ])
            refine held_take (v := ?_) (by rfl) ?_ ?_
            rotate_left
            focus (intro W hSw; (try dsimp only at hSw); go_simp; (try with_reducible rfl))
            (try simp only [Act.put, List.setIfInBounds_toArray, List.set_cons_zero, List.set_cons_succ])
            refine held_take (v := ?_) (by rfl) ?_ ?_
            rotate_left
            focus (intro W hSw; (try dsimp only at hSw); go_simp; (try with_reducible rfl))
            (try simp only [Act.put, List.setIfInBounds_toArray, List.set_cons_zero, List.set_cons_succ])
            refine held_take (v := ?_) (by rfl) ?_ ?_
            rotate_left
            focus (intro W hSw; (try dsimp only at hSw); go_simp; (try with_reducible rfl))
            (try simp only [Act.put, List.setIfInBounds_toArray, List.set_cons_zero, List.set_cons_succ])
            refine held_take (v := ?_) (by rfl) ?_ ?_
            rotate_left
            focus (intro W hSw; (try dsimp only at hSw); go_simp; (try with_reducible rfl))
            (try simp only [Act.put, List.setIfInBounds_toArray, List.set_cons_zero, List.set_cons_succ])
            refine held_take (v := ?_) (by rfl) ?_ ?_
            rotate_left
            focus (intro W hSw; (try dsimp only at hSw); go_simp; (try with_reducible rfl))
            (try simp only [Act.put, List.setIfInBounds_toArray, List.set_cons_zero, List.set_cons_succ])
            refine held_take (v := ?_) (by rfl) ?_ ?_
            rotate_left
            focus (intro W hSw; (try dsimp only at hSw); go_simp; (try with_reducible rfl))
            (try simp only [Act.put, List.setIfInBounds_toArray, List.set_cons_zero, List.set_cons_succ])
            refine held_take (v := ?_) (by rfl) ?_ ?_
            rotate_left
            focus (intro W hSw; (try dsimp only at hSw); go_simp; (try with_reducible rfl))
            (try simp only [Act.put, List.setIfInBounds_toArray, List.set_cons_zero, List.set_cons_succ])
            refine held_take (v := ?_) (by rfl) ?_ ?_
            rotate_left
            focus (intro W hSw; (try dsimp only at hSw); go_simp; (try with_reducible rfl))
            (try simp only [Act.put, List.setIfInBounds_toArray, List.set_cons_zero, List.set_cons_succ])
            refine held_take (v := ?_) (by rfl) ?_ ?_
            rotate_left
            focus (intro W hSw; (try dsimp only at hSw); go_simp; (try with_reducible rfl))
            (try simp only [Act.put, List.setIfInBounds_toArray, List.set_cons_zero, List.set_cons_succ])
            refine held_take (v := ?_) (by rfl) ?_ ?_
            rotate_left
            focus (intro W hSw; (try dsimp only at hSw); go_simp; (try with_reducible rfl))
            (try simp only [Act.put, List.setIfInBounds_toArray, List.set_cons_zero, List.set_cons_succ])
            refine held_take (v := ?_) (by rfl) ?_ ?_
            rotate_left
            focus (intro W hSw; (try dsimp only at hSw); go_simp; (try with_reducible rfl))
            (try simp only [Act.put, List.setIfInBounds_toArray, List.set_cons_zero, List.set_cons_succ])
            refine held_take (v := ?_) (by rfl) ?_ ?_
            rotate_left
            focus (intro W hSw; (try dsimp only at hSw); go_simp; (try with_reducible rfl))
            (try simp only [Act.put, List.setIfInBounds_toArray, List.set_cons_zero, List.set_cons_succ])
            refine held_take (v := ?_) (by rfl) ?_ ?_
            rotate_left
            focus (intro W hSw; (try dsimp only at hSw); go_simp; (try with_reducible rfl))
            (try simp only [Act.put, List.setIfInBounds_toArray, List.set_cons_zero, List.set_cons_succ])
            refine held_take (v := ?_) (by rfl) ?_ ?_
            rotate_left
            focus (intro W hSw; (try dsimp only at hSw); go_simp; (try with_reducible rfl))
            (try simp only [Act.put, List.setIfInBounds_toArray, List.set_cons_zero, List.set_cons_succ])
            refine held_call (by rfl) (fun K' hK => ?_)
            go_simp
            go_at_call 10; refine (refLess_any (_, _, _, _) (_, _, _, _) _).mono ?_; rintro e w5 ⟨rfl, hb5⟩; (first | rw [hxz]); have HR2 := Lib.hid (show R2 w5 r (.slice (some ⟨bi, 0, none⟩) n ci) (.slice (some ⟨bk, 0, none⟩) n ck) I K from by first | exact HR2.out.fresh hb5 | exact r2_drew HR2.out hb5); have HB := Lib.hid (show Below w.heap.size w w5 by first | exact bl HB.out hb5 | exact bl HB.out.drew hb5); obtain ⟨f0, f1, fi, fj, p0, p1, p2, p3, q0, q1, q2, q3⟩ := HF.out _ HR2.out; have HZ := Lib.hid (show Blk w5 w.heap.size 28 #[.int .u64 0, .int .u64 0, .int .i64 0, .int .i64 0] by first | exact Blk.below HZ.out hb5 HZ.out.lt | exact Blk.below HZ.out.drew hb5 HZ.out.lt); clear hb5
            refine hK.out _ _ ⟨f0, f1, fi, fj, p0, p1, p2, p3, q0, q1, q2, q3⟩ ?_
            clear hK K'
            (try simp only [Act.put, List.setIfInBounds_toArray, List.set_cons_zero, List.set_cons_succ])
            refine held_take (v := ?_) (by rfl) ?_ ?_
            rotate_left
            focus (intro W hSw; (try dsimp only at hSw); go_simp; (try with_reducible rfl))
            (try simp only [Act.put, List.setIfInBounds_toArray, List.set_cons_zero, List.set_cons_succ])
            refine held_take (v := ?_) (by rfl) ?_ ?_
            rotate_left
            focus (intro W hSw; (try dsimp only at hSw); go_simp; (try with_reducible rfl))
            (try simp only [Act.put, List.setIfInBounds_toArray, List.set_cons_zero, List.set_cons_succ])
            refine held_take (v := ?_) (by rfl) ?_ ?_
            rotate_left
            focus (intro W hSw; (try dsimp only at hSw); go_simp; (try with_reducible rfl))
            (try simp only [Act.put, List.setIfInBounds_toArray, List.set_cons_zero, List.set_cons_succ])
            refine held_take (v := ?_) (by rfl) ?_ ?_
            rotate_left
            focus (intro W hSw; (try dsimp only at hSw); go_simp; (try with_reducible rfl))
            (try simp only [Act.put, List.setIfInBounds_toArray, List.set_cons_zero, List.set_cons_succ])
            refine held_take (v := ?_) (by rfl) ?_ ?_
            rotate_left
            focus (intro W hSw; (try dsimp only at hSw); go_simp; (try with_reducible rfl))
            (try simp only [Act.put, List.setIfInBounds_toArray, List.set_cons_zero, List.set_cons_succ])
            refine held_take (v := ?_) (by rfl) ?_ ?_
            rotate_left
            focus (intro W hSw; (try dsimp only at hSw); go_simp; (try with_reducible rfl))
            (try simp only [Act.put, List.setIfInBounds_toArray, List.set_cons_zero, List.set_cons_succ])
            refine held_take (v := ?_) (by rfl) ?_ ?_
            rotate_left
            focus (intro W hSw; (try dsimp only at hSw); go_simp; (try with_reducible rfl))
            (try simp only [Act.put, List.setIfInBounds_toArray, List.set_cons_zero, List.set_cons_succ])
            refine held_take (v := ?_) (by rfl) ?_ ?_
            rotate_left
            focus (intro W hSw; (try dsimp only at hSw); go_simp; (try with_reducible rfl))
            (try simp only [Act.put, List.setIfInBounds_toArray, List.set_cons_zero, List.set_cons_succ])
            refine held_take (v := ?_) (by rfl) ?_ ?_
            rotate_left
            focus (intro W hSw; (try dsimp only at hSw); go_simp; (try with_reducible rfl))
            (try simp only [Act.put, List.setIfInBounds_toArray, List.set_cons_zero, List.set_cons_succ])
            refine held_take (v := ?_) (by rfl) ?_ ?_
            rotate_left
            focus (intro W hSw; (try dsimp only at hSw); go_simp; (try with_reducible rfl))
            (try simp only [Act.put, List.setIfInBounds_toArray, List.set_cons_zero, List.set_cons_succ])
            refine held_take (v := ?_) (by rfl) ?_ ?_
            rotate_left
            focus (intro W hSw; (try dsimp only at hSw); go_simp; (try with_reducible rfl))
            (try simp only [Act.put, List.setIfInBounds_toArray, List.set_cons_zero, List.set_cons_succ])
            refine held_take (v := ?_) (by rfl) ?_ ?_
            rotate_left
            focus (intro W hSw; (try dsimp only at hSw); go_simp; (try with_reducible rfl))
            (try simp only [Act.put, List.setIfInBounds_toArray, List.set_cons_zero, List.set_cons_succ])
            refine held_take (v := ?_) (by rfl) ?_ ?_
            rotate_left
            focus (intro W hSw; (try dsimp only at hSw); go_simp; (try with_reducible rfl))
            (try simp only [Act.put, List.setIfInBounds_toArray, List.set_cons_zero, List.set_cons_succ])
            refine held_take (v := ?_) (by rfl) ?_ ?_
            rotate_left
            focus (intro W hSw; (try dsimp only at hSw); go_simp; (try with_reducible rfl))
            (try simp only [Act.put, List.setIfInBounds_toArray, List.set_cons_zero, List.set_cons_succ])
            refine held_take (v := ?_) (by rfl) ?_ ?_
            rotate_left
            focus (intro W hSw; (try dsimp only at hSw); go_simp; (try with_reducible rfl))
            (try simp only [Act.put, List.setIfInBounds_toArray, List.set_cons_zero, List.set_cons_succ])
            refine held_take (v := ?_) (by rfl) ?_ ?_
            rotate_left
            focus (intro W hSw; (try dsimp only at hSw); go_simp; (try with_reducible rfl))
            (try simp only [Act.put, List.setIfInBounds_toArray, List.set_cons_zero, List.set_cons_succ])
            refine held_call (by rfl) (fun K' hK => ?_)
            go_simp
            go_at_call 10; refine (refLess_any (_, _, _, _) (_, _, _, _) _).mono ?_; rintro e w5 ⟨rfl, hb5⟩; (first | rw [hzx]); have HR2 := Lib.hid (show R2 w5 r (.slice (some ⟨bi, 0, none⟩) n ci) (.slice (some ⟨bk, 0, none⟩) n ck) I K from by first | exact HR2.out.fresh hb5 | exact r2_drew HR2.out hb5); have HB := Lib.hid (show Below w.heap.size w w5 by first | exact bl HB.out hb5 | exact bl HB.out.drew hb5); obtain ⟨f0, f1, fi, fj, p0, p1, p2, p3, q0, q1, q2, q3⟩ := HF.out _ HR2.out; have HZ := Lib.hid (show Blk w5 w.heap.size 28 #[.int .u64 0, .int .u64 0, .int .i64 0, .int .i64 0] by first | exact Blk.below HZ.out hb5 HZ.out.lt | exact Blk.below HZ.out.drew hb5 HZ.out.lt); clear hb5
            refine hK.out _ _ ⟨f0, f1, fi, fj, p0, p1, p2, p3, q0, q1, q2, q3⟩ ?_
            clear hK K'
            (try simp only [Act.put, List.setIfInBounds_toArray, List.set_cons_zero, List.set_cons_succ])
            refine held_take (v := ?_) (by rfl) ?_ ?_
            rotate_left
            focus (intro W hSw; (try dsimp only at hSw); go_simp; (try with_reducible rfl))
            (try simp only [Act.put, List.setIfInBounds_toArray, List.set_cons_zero, List.set_cons_succ])
            refine held_take (v := ?_) (by rfl) ?_ ?_
            rotate_left
            focus (intro W hSw; (try dsimp only at hSw); go_simp; (try with_reducible rfl))
            (try simp only [Act.put, List.setIfInBounds_toArray, List.set_cons_zero, List.set_cons_succ])
            refine held_skip (by kernel_rfl) ?_
            (try simp only [Act.put, List.setIfInBounds_toArray, List.set_cons_zero, List.set_cons_succ])
            refine held_skip (by kernel_rfl) ?_
            (try simp only [Act.put, List.setIfInBounds_toArray, List.set_cons_zero, List.set_cons_succ])
            refine held_skip (by kernel_rfl) ?_
            (try simp only [Act.put, List.setIfInBounds_toArray, List.set_cons_zero, List.set_cons_succ])
            refine held_skip (by kernel_rfl) ?_
            (try simp only [Act.put, List.setIfInBounds_toArray, List.set_cons_zero, List.set_cons_succ])
            refine held_skip (by kernel_rfl) ?_
            (try simp only [Act.put, List.setIfInBounds_toArray, List.set_cons_zero, List.set_cons_succ])
            refine held_skip (by kernel_rfl) ?_
            (try simp only [Act.put, List.setIfInBounds_toArray, List.set_cons_zero, List.set_cons_succ])
            refine held_skip (by kernel_rfl) ?_
            (try simp only [Act.put, List.setIfInBounds_toArray, List.set_cons_zero, List.set_cons_succ])
            refine held_skip (by kernel_rfl) ?_
            (try simp only [Act.put, List.setIfInBounds_toArray, List.set_cons_zero, List.set_cons_succ])
            refine held_skip (by kernel_rfl) ?_
            (try simp only [Act.put, List.setIfInBounds_toArray, List.set_cons_zero, List.set_cons_succ])
            refine held_skip (by kernel_rfl) ?_
            (try simp only [Act.put, List.setIfInBounds_toArray, List.set_cons_zero, List.set_cons_succ])
            refine held_skip (by kernel_rfl) ?_
            (try simp only [Act.put, List.setIfInBounds_toArray, List.set_cons_zero, List.set_cons_succ])
            refine held_skip (by kernel_rfl) ?_
            (try simp only [Act.put, List.setIfInBounds_toArray, List.set_cons_zero, List.set_cons_succ])
            refine held_skip (by kernel_rfl) ?_
            (try simp only [Act.put, List.setIfInBounds_toArray, List.set_cons_zero, List.set_cons_succ])
            refine held_skip (by kernel_rfl) ?_
            (try simp only [Act.put, List.setIfInBounds_toArray, List.set_cons_zero, List.set_cons_succ])
            refine held_skip (by kernel_rfl) ?_
            (try simp only [Act.put, List.setIfInBounds_toArray, List.set_cons_zero, List.set_cons_succ])
            refine held_take (v := ?_) (by rfl) ?_ ?_
            rotate_left
            focus (intro W hSw; (try dsimp only at hSw); go_simp; (try with_reducible rfl))
            (try simp only [Act.put, List.setIfInBounds_toArray, List.set_cons_zero, List.set_cons_succ])
            refine held_take (v := ?_) (by rfl) ?_ ?_
            rotate_left
            focus (intro W hSw; (try dsimp only at hSw); go_simp; (try with_reducible rfl))
            (try simp only [Act.put, List.setIfInBounds_toArray, List.set_cons_zero, List.set_cons_succ])
            refine held_end ?_
            refine NoPanic.normal ?_
            go_wp2_with fail
            go_roundw
            case rel => exact ⟨y + 1, by go_num, by omega, by rw [HS1.out, if_neg (by rw [HA.out]; simp)], HB, HZ⟩
            case measure => simp [intOf]; omega
        · have HA := Lib.hid (show ahead (xi, x1, x2, x3, x4) (zi, z1, z2, z3, z4) = true by
            unfold ahead
            rw [if_neg (show ¬ (x1, x2, x3, x4) = (z1, z2, z3, z4) from fun q => by rw [q, ltK_irr] at hxz; cases hxz)]
            exact hxz)
          go_wp2_with fail
          refine wp_region_noPanic ?_
          refine wp_region_held_lex (fun W => W.cell? ⟨r, 0, none⟩ = some (.slice (some ⟨bi, 0, none⟩) n ci) ∧ W.cell? ⟨r, 1, none⟩ = some (.slice (some ⟨bk, 0, none⟩) n ck) ∧ W.cell? ⟨bi, y, none⟩ = some (.int .i64 xi) ∧ W.cell? ⟨bi, b, none⟩ = some (.int .i64 zi) ∧ W.cell? ⟨bk, y * 4, none⟩ = some (.int .u64 x1) ∧ W.cell? ⟨bk, y * 4 + 1, none⟩ = some (.int .u64 x2) ∧ W.cell? ⟨bk, y * 4 + 2, none⟩ = some (.int .i64 x3) ∧ W.cell? ⟨bk, y * 4 + 3, none⟩ = some (.int .i64 x4) ∧ W.cell? ⟨bk, b * 4, none⟩ = some (.int .u64 z1) ∧ W.cell? ⟨bk, b * 4 + 1, none⟩ = some (.int .u64 z2) ∧ W.cell? ⟨bk, b * 4 + 2, none⟩ = some (.int .i64 z3) ∧ W.cell? ⟨bk, b * 4 + 3, none⟩ = some (.int .i64 z4)) [false, false, false, false, false, false, false, false, false, false, false, false, false, false, false, false, false, true, false, false, false, false, false, false, false, false, false, false, false, false, false, false, false, false, false, false, false, false, false, false, false, false, false, false, false, false, false, false, false, false, false, false, false, false] (by kernel_rfl) (by kernel_rfl) (fun _ _ _ _ _ h => h) ⟨f0, f1, fi, fj, p0, p1, p2, p3, q0, q1, q2, q3⟩ ?_
          refine held_take (v := ?_) (by rfl) ?_ ?_
          rotate_left
          focus (intro W hSw; (try dsimp only at hSw); go_simp; (try with_reducible rfl))
          (try simp only [Act.put, List.setIfInBounds_toArray, List.set_cons_zero, List.set_cons_succ])
          refine held_take (v := ?_) (by rfl) ?_ ?_
          rotate_left
          focus (intro W hSw; (try dsimp only at hSw); go_simp; (try with_reducible rfl))
          (try simp only [Act.put, List.setIfInBounds_toArray, List.set_cons_zero, List.set_cons_succ])
          refine held_take (v := ?_) (by rfl) ?_ ?_
          rotate_left
          focus (intro W hSw; (try dsimp only at hSw); go_simp; (try with_reducible rfl))
          (try simp only [Act.put, List.setIfInBounds_toArray, List.set_cons_zero, List.set_cons_succ])
          refine held_take (v := ?_) (by rfl) ?_ ?_
          rotate_left
          focus (intro W hSw; (try dsimp only at hSw); go_simp; (try with_reducible rfl))
          (try simp only [Act.put, List.setIfInBounds_toArray, List.set_cons_zero, List.set_cons_succ])
          refine held_take (v := ?_) (by rfl) ?_ ?_
          rotate_left
          focus (intro W hSw; (try dsimp only at hSw); go_simp; (try with_reducible rfl))
          (try simp only [Act.put, List.setIfInBounds_toArray, List.set_cons_zero, List.set_cons_succ])
          refine held_take (v := ?_) (by rfl) ?_ ?_
          rotate_left
          focus (intro W hSw; (try dsimp only at hSw); go_simp; (try with_reducible rfl))
          (try simp only [Act.put, List.setIfInBounds_toArray, List.set_cons_zero, List.set_cons_succ])
          refine held_take (v := ?_) (by rfl) ?_ ?_
          rotate_left
          focus (intro W hSw; (try dsimp only at hSw); go_simp; (try with_reducible rfl))
          (try simp only [Act.put, List.setIfInBounds_toArray, List.set_cons_zero, List.set_cons_succ])
          refine held_take (v := ?_) (by rfl) ?_ ?_
          rotate_left
          focus (intro W hSw; (try dsimp only at hSw); go_simp; (try with_reducible rfl))
          (try simp only [Act.put, List.setIfInBounds_toArray, List.set_cons_zero, List.set_cons_succ])
          refine held_take (v := ?_) (by rfl) ?_ ?_
          rotate_left
          focus (intro W hSw; (try dsimp only at hSw); go_simp; (try with_reducible rfl))
          (try simp only [Act.put, List.setIfInBounds_toArray, List.set_cons_zero, List.set_cons_succ])
          refine held_take (v := ?_) (by rfl) ?_ ?_
          rotate_left
          focus (intro W hSw; (try dsimp only at hSw); go_simp; (try with_reducible rfl))
          (try simp only [Act.put, List.setIfInBounds_toArray, List.set_cons_zero, List.set_cons_succ])
          refine held_take (v := ?_) (by rfl) ?_ ?_
          rotate_left
          focus (intro W hSw; (try dsimp only at hSw); go_simp; (try with_reducible rfl))
          (try simp only [Act.put, List.setIfInBounds_toArray, List.set_cons_zero, List.set_cons_succ])
          refine held_take (v := ?_) (by rfl) ?_ ?_
          rotate_left
          focus (intro W hSw; (try dsimp only at hSw); go_simp; (try with_reducible rfl))
          (try simp only [Act.put, List.setIfInBounds_toArray, List.set_cons_zero, List.set_cons_succ])
          refine held_take (v := ?_) (by rfl) ?_ ?_
          rotate_left
          focus (intro W hSw; (try dsimp only at hSw); go_simp; (try with_reducible rfl))
          (try simp only [Act.put, List.setIfInBounds_toArray, List.set_cons_zero, List.set_cons_succ])
          refine held_take (v := ?_) (by rfl) ?_ ?_
          rotate_left
          focus (intro W hSw; (try dsimp only at hSw); go_simp; (try with_reducible rfl))
          (try simp only [Act.put, List.setIfInBounds_toArray, List.set_cons_zero, List.set_cons_succ])
          refine held_take (v := ?_) (by rfl) ?_ ?_
          rotate_left
          focus (intro W hSw; (try dsimp only at hSw); go_simp; (try with_reducible rfl))
          (try simp only [Act.put, List.setIfInBounds_toArray, List.set_cons_zero, List.set_cons_succ])
          refine held_take (v := ?_) (by rfl) ?_ ?_
          rotate_left
          focus (intro W hSw; (try dsimp only at hSw); go_simp; (try with_reducible rfl))
          (try simp only [Act.put, List.setIfInBounds_toArray, List.set_cons_zero, List.set_cons_succ])
          refine held_take (v := ?_) (by rfl) ?_ ?_
          rotate_left
          focus (intro W hSw; (try dsimp only at hSw); go_simp; (try with_reducible rfl))
          (try simp only [Act.put, List.setIfInBounds_toArray, List.set_cons_zero, List.set_cons_succ])
          refine held_call (by rfl) (fun K' hK => ?_)
          go_simp
          go_at_call 10; refine (refLess_any (_, _, _, _) (_, _, _, _) _).mono ?_; rintro e w5 ⟨rfl, hb5⟩; (first | rw [hxz]); have HR2 := Lib.hid (show R2 w5 r (.slice (some ⟨bi, 0, none⟩) n ci) (.slice (some ⟨bk, 0, none⟩) n ck) I K from by first | exact HR2.out.fresh hb5 | exact r2_drew HR2.out hb5); have HB := Lib.hid (show Below w.heap.size w w5 by first | exact bl HB.out hb5 | exact bl HB.out.drew hb5); obtain ⟨f0, f1, fi, fj, p0, p1, p2, p3, q0, q1, q2, q3⟩ := HF.out _ HR2.out; have HZ := Lib.hid (show Blk w5 w.heap.size 28 #[.int .u64 0, .int .u64 0, .int .i64 0, .int .i64 0] by first | exact Blk.below HZ.out hb5 HZ.out.lt | exact Blk.below HZ.out.drew hb5 HZ.out.lt); clear hb5
          refine hK.out _ _ ⟨f0, f1, fi, fj, p0, p1, p2, p3, q0, q1, q2, q3⟩ ?_
          clear hK K'
          (try simp only [Act.put, List.setIfInBounds_toArray, List.set_cons_zero, List.set_cons_succ])
          refine held_take (v := ?_) (by rfl) ?_ ?_
          rotate_left
          focus (intro W hSw; (try dsimp only at hSw); go_simp; (try with_reducible rfl))
          (try simp only [Act.put, List.setIfInBounds_toArray, List.set_cons_zero, List.set_cons_succ])
          refine held_take (v := ?_) (by rfl) ?_ ?_
          rotate_left
          focus (intro W hSw; (try dsimp only at hSw); go_simp; (try with_reducible rfl))
          (try simp only [Act.put, List.setIfInBounds_toArray, List.set_cons_zero, List.set_cons_succ])
          refine held_skip (by kernel_rfl) ?_
          (try simp only [Act.put, List.setIfInBounds_toArray, List.set_cons_zero, List.set_cons_succ])
          refine held_skip (by kernel_rfl) ?_
          (try simp only [Act.put, List.setIfInBounds_toArray, List.set_cons_zero, List.set_cons_succ])
          refine held_skip (by kernel_rfl) ?_
          (try simp only [Act.put, List.setIfInBounds_toArray, List.set_cons_zero, List.set_cons_succ])
          refine held_skip (by kernel_rfl) ?_
          (try simp only [Act.put, List.setIfInBounds_toArray, List.set_cons_zero, List.set_cons_succ])
          refine held_skip (by kernel_rfl) ?_
          (try simp only [Act.put, List.setIfInBounds_toArray, List.set_cons_zero, List.set_cons_succ])
          refine held_skip (by kernel_rfl) ?_
          (try simp only [Act.put, List.setIfInBounds_toArray, List.set_cons_zero, List.set_cons_succ])
          refine held_skip (by kernel_rfl) ?_
          (try simp only [Act.put, List.setIfInBounds_toArray, List.set_cons_zero, List.set_cons_succ])
          refine held_skip (by kernel_rfl) ?_
          (try simp only [Act.put, List.setIfInBounds_toArray, List.set_cons_zero, List.set_cons_succ])
          refine held_skip (by kernel_rfl) ?_
          (try simp only [Act.put, List.setIfInBounds_toArray, List.set_cons_zero, List.set_cons_succ])
          refine held_skip (by kernel_rfl) ?_
          (try simp only [Act.put, List.setIfInBounds_toArray, List.set_cons_zero, List.set_cons_succ])
          refine held_skip (by kernel_rfl) ?_
          (try simp only [Act.put, List.setIfInBounds_toArray, List.set_cons_zero, List.set_cons_succ])
          refine held_skip (by kernel_rfl) ?_
          (try simp only [Act.put, List.setIfInBounds_toArray, List.set_cons_zero, List.set_cons_succ])
          refine held_skip (by kernel_rfl) ?_
          (try simp only [Act.put, List.setIfInBounds_toArray, List.set_cons_zero, List.set_cons_succ])
          refine held_skip (by kernel_rfl) ?_
          (try simp only [Act.put, List.setIfInBounds_toArray, List.set_cons_zero, List.set_cons_succ])
          refine held_skip (by kernel_rfl) ?_
          (try simp only [Act.put, List.setIfInBounds_toArray, List.set_cons_zero, List.set_cons_succ])
          refine held_skip (by kernel_rfl) ?_
          (try simp only [Act.put, List.setIfInBounds_toArray, List.set_cons_zero, List.set_cons_succ])
          refine held_skip (by kernel_rfl) ?_
          (try simp only [Act.put, List.setIfInBounds_toArray, List.set_cons_zero, List.set_cons_succ])
          refine held_skip (by kernel_rfl) ?_
          (try simp only [Act.put, List.setIfInBounds_toArray, List.set_cons_zero, List.set_cons_succ])
          refine held_skip (by kernel_rfl) ?_
          (try simp only [Act.put, List.setIfInBounds_toArray, List.set_cons_zero, List.set_cons_succ])
          refine held_skip (by kernel_rfl) ?_
          (try simp only [Act.put, List.setIfInBounds_toArray, List.set_cons_zero, List.set_cons_succ])
          refine held_skip (by kernel_rfl) ?_
          (try simp only [Act.put, List.setIfInBounds_toArray, List.set_cons_zero, List.set_cons_succ])
          refine held_skip (by kernel_rfl) ?_
          (try simp only [Act.put, List.setIfInBounds_toArray, List.set_cons_zero, List.set_cons_succ])
          refine held_skip (by kernel_rfl) ?_
          (try simp only [Act.put, List.setIfInBounds_toArray, List.set_cons_zero, List.set_cons_succ])
          refine held_skip (by kernel_rfl) ?_
          (try simp only [Act.put, List.setIfInBounds_toArray, List.set_cons_zero, List.set_cons_succ])
          refine held_skip (by kernel_rfl) ?_
          (try simp only [Act.put, List.setIfInBounds_toArray, List.set_cons_zero, List.set_cons_succ])
          refine held_skip (by kernel_rfl) ?_
          (try simp only [Act.put, List.setIfInBounds_toArray, List.set_cons_zero, List.set_cons_succ])
          refine held_skip (by kernel_rfl) ?_
          (try simp only [Act.put, List.setIfInBounds_toArray, List.set_cons_zero, List.set_cons_succ])
          refine held_skip (by kernel_rfl) ?_
          (try simp only [Act.put, List.setIfInBounds_toArray, List.set_cons_zero, List.set_cons_succ])
          refine held_skip (by kernel_rfl) ?_
          (try simp only [Act.put, List.setIfInBounds_toArray, List.set_cons_zero, List.set_cons_succ])
          refine held_skip (by kernel_rfl) ?_
          (try simp only [Act.put, List.setIfInBounds_toArray, List.set_cons_zero, List.set_cons_succ])
          refine held_skip (by kernel_rfl) ?_
          (try simp only [Act.put, List.setIfInBounds_toArray, List.set_cons_zero, List.set_cons_succ])
          refine held_skip (by kernel_rfl) ?_
          (try simp only [Act.put, List.setIfInBounds_toArray, List.set_cons_zero, List.set_cons_succ])
          refine held_skip (by kernel_rfl) ?_
          (try simp only [Act.put, List.setIfInBounds_toArray, List.set_cons_zero, List.set_cons_succ])
          refine held_take (v := ?_) (by rfl) ?_ ?_
          rotate_left
          focus (intro W hSw; (try dsimp only at hSw); go_simp; (try with_reducible rfl))
          (try simp only [Act.put, List.setIfInBounds_toArray, List.set_cons_zero, List.set_cons_succ])
          refine held_end ?_
          refine NoPanic.normal ?_
          go_wp2_with fail
          go_roundw
          case rel => exact ⟨y + 1, by go_num, by omega, by rw [HS1.out, if_pos HA.out], HB, HZ⟩
          case measure => simp [intOf]; omega
    · obtain rfl : y = n := by omega
      have t3 : ¬ (y : Int) < (y : Int) := by omega
      have hb := best_lt R y h0
      have hbs : bestI R y = (best R y : Int) := if_neg (by omega)
      rw [hbs]
      have HF := Lib.hid (fun (w' : World) (h' : R2 w' r (.slice (some ⟨bi, 0, none⟩) y ci) (.slice (some ⟨bk, 0, none⟩) y ck) I K) => r2_facts h' HIn.out HKn.out hb hb)
      rw [HIa.out (best R y), HKa.out (best R y)] at HF
      generalize g R (best R y) = z at *
      generalize best R y = b at *
      obtain ⟨zi, z1, z2, z3, z4⟩ := z
      clear hbs
      (try dsimp only at HF)
      obtain ⟨f0, f1, fi, _, q0, q1, q2, q3, _, _, _, _⟩ := HF.out _ HR2.out
      have u1 : ¬ (b : Int) < 0 := by omega
      have u2 : (0 : Int) ≤ (b : Int) := by omega
      have u3 : (b : Int) < (y : Int) := by omega
      have u4 : (b : Int) ≤ (ci : Int) := by have := HCi.out; omega
      have u5 : (b : Int) + 1 ≤ (y : Int) := by omega
      have u6 : (0 : Int) ≤ (b : Int) + 1 := by omega
      have u7 : (y : Int) ≤ (ci : Int) := HCi.out
      have u8 : (y : Int) ≤ (ck : Int) := HCk.out
      have u9 : (b : Int) ≤ (ck : Int) := by omega
      have lr := HR2.out.blk.lt
      have lbi := HR2.out.oi.lt (b := bi) rfl
      have lbk := HR2.out.ok.lt (b := bk) rfl
      have P0 := Lib.hid (show PC w (wr.alloc (.cells (kcells (z1, z2, z3, z4)) 28)) r (.slice (some ⟨bi, 0, none⟩) y ci) (.slice (some ⟨bk, 0, none⟩) y ck) r (.slice (some ⟨bi, 0, none⟩) y ci) (.slice (some ⟨bk, 0, none⟩) y ck) I K (.slice none 0 0) (.slice none 0 0) [] [] w.heap.size wr.heap.size (z1, z2, z3, z4) from by
        have hw := HB.out.size
        have hlt := HZ.out.lt
        refine ⟨HR2.out.fresh (by go_grown), Own.nil _ _ _, Own.nil _ _ _, fun c e => by simp [Value.ownBlock] at e, fun c e => by simp [Value.ownBlock] at e, fun c e => by simp [Value.ownBlock] at e, fun c e => ?_, HZ.out.alloc _, Blk.new wr 28 _, Kept.of_fresh (bl HB.out (by go_grown)) _, fun c e => .inl e, rfl, Nat.le_refl _⟩
        have := HR.out.lt e
        exact ⟨by omega, by omega⟩)
      have P1 := Lib.hid (by have h := P0.out.empty_i; rw [World.size_alloc] at h; exact h)
      have LI := HIn.out
      have LK := HKn.out
      have lta : (I.take b).length = b := by rw [List.length_take]; omega
      have ltd : (I.drop (b + 1)).length = y - (b + 1) := by rw [List.length_drop]; omega
      have lka : (K.take b).length = b := by rw [List.length_take]; omega
      have lkd : (K.drop (b + 1)).length = y - (b + 1) := by rw [List.length_drop]; omega
      have HSI := Lib.hid (fun (w' : World) (o : Own w' 3 1 (.slice (some ⟨bi, 0, none⟩) y ci) I.length (ints I)) => take_src o (b := b))
      have HSK := Lib.hid (fun (w' : World) (o : Own w' 28 4 (.slice (some ⟨bk, 0, none⟩) y ck) K.length (kflat K)) => take_srck o (b := b))
      have HDI := Lib.hid (fun (w' : World) (o : Own w' 3 1 (.slice (some ⟨bi, 0, none⟩) y ci) I.length (ints I)) => drop_src o (b := b + 1))
      have HDK := Lib.hid (fun (w' : World) (o : Own w' 28 4 (.slice (some ⟨bk, 0, none⟩) y ck) K.length (kflat K)) => drop_srck o (b := b + 1))
      clear LI LK
      go_wp2_with (first | (at_builtin; refine wpList_append_fresh _ rfl (.tmp 92) (.tmp 98) 37 rfl 3 i0 (.int .i64 0) 1 8 Try.underlying37 hi0 hz0 hz1 hz2 rfl (by decide) _ _ _ rfl (show Own _ 3 1 _ 0 (ints []) from P1.out.ri) (some ⟨bi, 0, none⟩) b _ (ints (I.take b)) rfl (by rw [ints_len, Nat.mul_one]; exact lta) (fun _ => ⟨_, rfl, HSI.out _ P1.out.r2.oi⟩) (ints_one _) (by simp [maxLen]; omega) (by omega) ?_; intro v1 wa ho hg hf; rw [Nat.zero_add] at ho; have P2 := Lib.hid (by have h := P1.out.app_i (X := I.take b) ho (by simp [lta]) hg hf; rw [List.nil_append] at h; exact h); obtain ⟨av, cv, rfl⟩ := ho.of_any; have P3 := Lib.hid (P2.out.empty_k); clear ho hg hf; have lr := P2.out.r2.blk.lt; have lbi := P2.out.r2.oi.lt (b := bi) rfl; have lbk := P2.out.r2.ok.lt (b := bk) rfl; have e0 := P2.out.r2.blk.cell 0; have e1 := P2.out.r2.blk.cell 1; simp at e0 e1) | (at_builtin; refine wpList_append_fresh _ rfl (.tmp 100) (.tmp 106) 45 rfl 28 i1 (.agg #[.int .u64 0, .int .u64 0, .int .i64 0, .int .i64 0]) 4 32 Try.underlying45 ji0 jz0 jz1 jz2 rfl (by decide) _ _ _ rfl (show Own _ 28 4 _ 0 (kflat []) from P3.out.rk) (some ⟨bk, 0, none⟩) b _ (kflat (K.take b)) rfl (by rw [kflat_len]; rw [lka]) (fun _ => ⟨_, rfl, HSK.out _ P3.out.r2.ok⟩) (kflat_one _) (by simp [maxLen]; omega) (by omega) ?_; intro v2 wb ho hg hf; rw [Nat.zero_add] at ho; have P4 := Lib.hid (by have h := P3.out.app_k (Y := K.take b) ho (by simp [lka]) hg hf; rw [List.nil_append] at h; exact h); obtain ⟨aw, cw, rfl⟩ := ho.of_any; clear ho hg hf; have lr2 := P4.out.r2.blk.lt; have lbi2 := P4.out.r2.oi.lt (b := bi) rfl; have lbk2 := P4.out.r2.ok.lt (b := bk) rfl; have e2 := P4.out.r2.blk.cell 0; have e3 := P4.out.r2.blk.cell 1; simp at e2 e3) | (at_builtin; refine wpList_append_fresh _ rfl (.tmp 109) (.tmp 116) 37 rfl 3 i0 (.int .i64 0) 1 8 Try.underlying37 hi0 hz0 hz1 hz2 rfl (by decide) _ _ _ rfl (show Own _ 3 1 _ b (ints (I.take b)) from by have h := P4.out.ri; rwa [lta] at h) _ (y - (b + 1)) _ (ints (I.drop (b + 1))) rfl (by rw [ints_len, Nat.mul_one]; exact ltd) (fun hm => ⟨⟨bi, b + 1, none⟩, (by first | rfl | (rw [if_neg (by omega)]; rfl) | (simp; omega)), HDI.out _ P4.out.r2.oi⟩) (ints_one _) (by simp [maxLen]; omega) (by omega) ?_; intro v3 wc ho hg hf; obtain ⟨ax, cx, rfl⟩ := ho.of_any; have P5 := Lib.hid (P4.out.app_i (X := I.drop (b + 1)) ho (by rw [lta, ltd]) hg hf); have P6 := Lib.hid P5.out.store_i; clear ho hg hf; have lr3 := P5.out.r2.blk.lt; have lbi3 := P5.out.r2.oi.lt (b := bi) rfl; have lbk3 := P5.out.r2.ok.lt (b := bk) rfl; have e4 := P5.out.r2.blk.cell 0; have e5 := P5.out.r2.blk.cell 1; simp at e4 e5; have e4f := P5.out.r2.blk.frozen) | (at_builtin; refine wpList_append_fresh _ rfl (.tmp 121) (.tmp 128) 45 rfl 28 i1 (.agg #[.int .u64 0, .int .u64 0, .int .i64 0, .int .i64 0]) 4 32 Try.underlying45 ji0 jz0 jz1 jz2 rfl (by decide) _ _ _ rfl (show Own _ 28 4 _ b (kflat (K.take b)) from by have h := P6.out.rk; rwa [lka] at h) _ (y - (b + 1)) _ (kflat (K.drop (b + 1))) rfl (by rw [kflat_len, lkd]) (fun hm => ⟨⟨bk, (b + 1) * 4, none⟩, (by first | rfl | (rw [if_neg (by omega)]; rfl) | (simp; omega)), HDK.out _ P6.out.r2.ok⟩) (kflat_one _) (by simp [maxLen]; omega) (by omega) ?_; intro v4 wd ho hg hf; obtain ⟨ay, cy, rfl⟩ := ho.of_any; have P7 := Lib.hid (P6.out.app_k (Y := K.drop (b + 1)) ho (by rw [lka, lkd]) hg hf); have P8 := Lib.hid P7.out.store_k; clear ho hg hf; have e6 := P7.out.r2.blk.cell 0; have e7 := P7.out.r2.blk.cell 1; have e6f := P7.out.r2.blk.frozen; have lr4 := P7.out.r2.blk.lt; simp at e6 e7))
      all_goals
        generalize hwz : World.setCell wd _ _ = wz at *
        clear hwz
        have g0 := P8.out.b8.cell 0
        have g1 := P8.out.b8.cell 1
        have g2 := P8.out.b8.cell 2
        have g3 := P8.out.b8.cell 3
        have m0 := P8.out.b3.cell 0
        have m1 := P8.out.b3.cell 1
        have m2 := P8.out.b3.cell 2
        have m3 := P8.out.b3.cell 3
        have mf := P8.out.b3.frozen
        simp at g0 g1 g2 g3 m0 m1 m2 m3
        clear e6 e7 e6f e4 e5 e4f
        go_region
        all_goals
          go_wp2_with fail
          refine bodyPost_ret (by rw [results_tct rfl]; go_simp; first | rfl | (go_simp; rfl)) rfl ?_
          have hk := (kept_layK wz w.heap.size 0 (z1, z2, z3, z4)).drew
          exact ⟨_, _, rfl, P8.out.r2.kept hk (fun q e1 e2 => (P8.out.nr q e1).1 e2), P8.out.kept.trans hk (fun q e => .inr (by rw [e]; exact Nat.le_refl _)), P8.out.fresh⟩
end Go.Proofs.Ytffgjjlamdaajaa
