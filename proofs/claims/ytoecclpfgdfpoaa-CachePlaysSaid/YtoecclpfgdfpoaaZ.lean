/- The reference's Drop and Keys: what each returns, and what the cache holds then. -/
import Derived.Test.YtoecclpfgdfpoaaW
namespace Go.Proofs.Ytoecclpfgdfpoaa
open Go.RowKit

set_option maxHeartbeats 2000000 in
theorem rkeys_any (p : Nat) (s : Value) (room : Int) (l : List Th) (w : World) (h : Rch w p s room l) (hl : l.length ≤ 1000000) :
    Calls Try.prog 34 #[.pointer (some ⟨p, 0, none⟩)] w (NewRow (keys l) w) := by
  obtain ⟨i0, hi0, hz0, hz1, hz2⟩ := info_parts info3
  obtain ⟨a, cap, rfl⟩ := h.own.of_any
  have q1 := h.blk.cell 1
  simp at q1
  have hp := h.blk.lt
  have HO := Lib.hid h.own
  have HS := Lib.hid (fun k (hk : k < l.length) => show keys (l.take (k + 1)) = keys (l.take k) ++ [(l.getD k (0, 0)).1] by
    rw [List.take_succ_eq_append_getElem hk]; simp only [keys, List.map_append, List.map_cons, List.map_nil, List.getD_eq_getElem?_getD, List.getElem?_eq_getElem hk, Option.getD_some])
  have HT := Lib.hid (show keys (l.take l.length) = keys l by rw [List.take_length])
  clear h
  go_enter Try.func34, Try.ntmps34
  go_wp2
  go_loopw [3, 4] (fun o j wr => ∃ k : Nat, k ≤ l.length ∧ j = .int .i64 k ∧ Own wr 3 1 o (keys (l.take k)).length (ints (keys (l.take k))) ∧ (∀ b, o.ownBlock = some b → w.heap.size ≤ b) ∧ Below w.heap.size w wr)
    (fun _ j _ => l.length - (intOf j).toNat)
  case atStart => exact ⟨0, by omega, rfl, Own.nil _ _ _, fun b h => by simp [Value.ownBlock] at h, Below.refl _ _⟩
  case round =>
    obtain ⟨k, hk, rfl, ho, hge, hb⟩ := hrel
    have OO := Lib.hid ho
    have HGE := Lib.hid hge
    have HB := Lib.hid hb
    have q1' := (hb.cell (p := ⟨p, 1, none⟩) hp).trans q1
    clear ho hge hb
    by_cases hlt : k < l.length
    · obtain ⟨g, rfl, hg, c1, _⟩ := rown_at HO.out hlt
      replace c1 := (HB.out.cell (p := ⟨g, k * 2, none⟩) hg).trans c1
      have k0 : (0 : Int) ≤ (k : Int) := by omega
      have k1 : (k : Int) < (l.length : Int) := by omega
      have HSk := Lib.hid (HS.out k hlt)
      have HLn := Lib.hid (show (keys (l.take k)).length ≤ 1000000 by rw [keys_len, List.length_take]; omega)
      generalize (l.getD k (0, 0)).1 = x at *
      obtain ⟨ao, co, rfl⟩ := OO.out.of_any
      go_wp2_with (at_builtin; refine wpList_append_fresh _ rfl _ _ 44 rfl 3 i0 (.int .i64 0) 1 8 Try.underlying44 hi0 hz0 hz1 hz2 rfl (by decide) _ _ _ rfl (OO.out.alloc _) (some ⟨wr.heap.size, 0, none⟩) 1 1 [.int .i64 x] rfl rfl (fun _ => ⟨_, rfl, cell_one_new _ _ _⟩) (by simp [Value.oneCell']) (by have := HLn.out; simp only [maxLen]; omega) (by have := HLn.out; omega) ?_; intro v' w2 ho2 hg2 hf2)
      have HB2 := Lib.hid ((HB.out.alloc HB.out.size (.cells #[.int .i64 x] 3)).trans (((Kept.refl (fun b => (Value.slice ao (keys (l.take k)).length co).ownBlock = some b) _).grown hg2 (fun k e => .inl e)).below (fun b _ hb => HGE.out b hb) (by have := HB.out.size; simp only [World.size_alloc]; omega)))
      have HGE2 := Lib.hid (show ∀ b, v'.ownBlock = some b → w.heap.size ≤ b from fun b hb => (hf2 b hb).elim (HGE.out b) (fun e => by have := HB.out.size; simp only [World.size_alloc] at e; omega))
      have HO2 := Lib.hid (show Own w2 3 1 v' (keys (l.take (k + 1))).length (ints (keys (l.take (k + 1)))) by rw [HSk.out, List.length_append]; simpa [ints] using ho2)
      clear ho2 hg2 hf2
      go_wp2_with fail
      go_roundw
      case rel => exact ⟨k + 1, by omega, by go_num, HO2.out, HGE2.out, HB2.out⟩
      case measure => simp [intOf]; omega
    · obtain rfl : k = l.length := by omega
      rw [HT.out] at OO
      go_wp2
      go_ret
      exact ⟨_, rfl, OO.out, HGE.out, HB.out⟩

set_option maxHeartbeats 4000000 in
theorem rdrop_any (p : Nat) (s : Value) (room : Int) (l : List Th) (d left : Int) (w : World) (h : Rch w p s room l) (hl : l.length ≤ 1000000) (h1 : 1 ≤ d) (h2 : d ≤ 5) :
    Calls Try.prog 32 #[.pointer (some ⟨p, 0, none⟩), .int .i64 d, .int .i64 left] w (RPost p s room (stay (fun x => rmd x d == left) l) (.int .i64 ((l.length : Int) - ((stay (fun x => rmd x d == left) l).length : Int))) w) := by
  obtain ⟨i0, hi0, hz0, hz1, hz2⟩ := info_parts info62z
  obtain ⟨a, cap, rfl⟩ := h.own.of_any
  have q1 := h.blk.cell 1
  simp at q1
  have hp := h.blk.lt
  have HPB := Lib.hid h.blk
  have HO := Lib.hid h.own
  have HS := Lib.hid (fun k (hk : k < l.length) => stay_step (fun x => rmd x d == left) l k hk)
  have HSL := Lib.hid (fun k => show (stay (fun x => rmd x d == left) (l.take k)).length ≤ 1000000 by have := stay_len (fun x => rmd x d == left) (l.take k); rw [List.length_take] at this; omega)
  have HT := Lib.hid (show l.take l.length = l from List.take_length)
  have hne : ¬ d = 0 := by omega
  have hne2 : ¬ d = -1 := by omega
  clear h
  go_enter Try.func32, Try.ntmps32
  go_wp2
  go_loopw [7, 8, 9] (fun o n j wr => ∃ k : Nat, k ≤ l.length ∧ j = .int .i64 k ∧ n = .int .i64 ((k : Int) - ((stay (fun x => rmd x d == left) (l.take k)).length : Int)) ∧ (stay (fun x => rmd x d == left) (l.take k)).length ≤ k ∧
      Own wr 62 2 o (stay (fun x => rmd x d == left) (l.take k)).length (flat (stay (fun x => rmd x d == left) (l.take k))) ∧ (∀ b, o.ownBlock = some b → w.heap.size ≤ b) ∧ Below w.heap.size w wr)
    (fun _ _ j _ => l.length - (intOf j).toNat)
  case atStart => exact ⟨0, by omega, rfl, rfl, by simp [stay], Own.nil _ _ _, fun b h => by simp [Value.ownBlock] at h, Below.refl _ _⟩
  case round =>
    obtain ⟨k, hk, rfl, rfl, hnk, ho, hge, hb⟩ := hrel
    have OO := Lib.hid ho
    have HGE := Lib.hid hge
    have HB := Lib.hid hb
    have q1' := (hb.cell (p := ⟨p, 1, none⟩) hp).trans q1
    clear ho hge hb
    by_cases hlt : k < l.length
    · obtain ⟨g, rfl, hg, c1, c2⟩ := rown_at HO.out hlt
      replace c1 := (HB.out.cell (p := ⟨g, k * 2, none⟩) hg).trans c1
      replace c2 := (HB.out.cell (p := ⟨g, k * 2 + 1, none⟩) hg).trans c2
      have k0 : (0 : Int) ≤ (k : Int) := by omega
      have k1 : (k : Int) < (l.length : Int) := by omega
      have HSk := Lib.hid (HS.out k hlt)
      have HLn := Lib.hid (HSL.out k)
      generalize l.getD k (0, 0) = x at *
      obtain ⟨xk, xv⟩ := x
      simp only at c1 c2
      generalize hN : (stay (fun x => rmd x d == left) (l.take k)).length = N at *
      have HN := Lib.hid hN
      clear hN
      obtain ⟨t1, t2, t3, t4, t5, t6⟩ := rmd_bd xk h1
      have HZ := Lib.hid (rmd_mod xk h1)
      generalize hq : xk.tmod d = q at *
      have hwq : IntKind.i64.wrap (q + d) = q + d := IntWalk.i64_in _ (by omega)
      have E1 := Lib.hid (show (q + d) % d = q % d by rw [Int.add_emod_right])
      have hwn : IntKind.i64.wrap ((k : Int) - (N : Int) + 1) = (k : Int) - (N : Int) + 1 := IntWalk.i64_in _ (by omega)
      obtain ⟨ao, co, rfl⟩ := OO.out.of_any
      cases hf : (rmd xk d == left)
      · have g1 : (q % d == left) = false := by rw [HZ.out] at hf; exact hf
        have g2 : ((q + d) % d == left) = false := by rw [E1.out]; exact g1
        have HS2 := Lib.hid (show stay (fun x => rmd x d == left) (l.take (k + 1)) = stay (fun x => rmd x d == left) (l.take k) ++ [(xk, xv)] by rw [HSk.out]; simp only [hf]; rfl)
        clear hf t3 t4
        go_wp2_with (at_builtin; refine wpList_append_fresh _ rfl _ _ 57 rfl 62 i0 (.agg #[.int .i64 0, .int .i64 0]) 2 16 Try.underlying57 hi0 hz0 hz1 hz2 rfl (by decide) _ _ _ rfl (OO.out.alloc _) (some ⟨wr.heap.size, 0, none⟩) 1 1 [.int .i64 xk, .int .i64 xv] rfl rfl (fun _ => ⟨_, rfl, cells_two _ _ _ _⟩) (by simp [Value.oneCell']) (by have := HLn.out; simp only [maxLen]; omega) (by have := HLn.out; omega) ?_; intro v' w2 ho2 hg2 hf2)
        have HB2 := Lib.hid ((HB.out.alloc HB.out.size (.cells #[.int .i64 xk, .int .i64 xv] 62)).trans (((Kept.refl (fun b => (Value.slice ao N co).ownBlock = some b) _).grown hg2 (fun k e => .inl e)).below (fun b _ hb => HGE.out b hb) (by have := HB.out.size; simp only [World.size_alloc]; omega)))
        have HGE2 := Lib.hid (show ∀ b, v'.ownBlock = some b → w.heap.size ≤ b from fun b hb => (hf2 b hb).elim (HGE.out b) (fun e => by have := HB.out.size; simp only [World.size_alloc] at e; omega))
        have HN2 := Lib.hid (show (stay (fun x => rmd x d == left) (l.take (k + 1))).length = N + 1 by rw [HS2.out, List.length_append, HN.out]; rfl)
        have HO2 := Lib.hid (show Own w2 62 2 v' (N + 1) (flat (stay (fun x => rmd x d == left) (l.take (k + 1)))) by rw [HS2.out, ← flat_snoc]; exact ho2)
        clear ho2 hg2 hf2 hq hwq g1 g2 hwn t1 t2 t5 t6
        go_wp2_with fail
        go_roundw
        case rel => exact ⟨k + 1, by omega, by go_num, by rw [HN2.out]; congr 1; omega, by rw [HN2.out]; omega, by rw [HN2.out]; exact HO2.out, HGE2.out, HB2.out⟩
        case measure => simp [intOf]; omega
      · have g1 : (q % d == left) = true := by rw [HZ.out] at hf; exact hf
        have g2 : ((q + d) % d == left) = true := by rw [E1.out]; exact g1
        have HS2 := Lib.hid (show stay (fun x => rmd x d == left) (l.take (k + 1)) = stay (fun x => rmd x d == left) (l.take k) by rw [HSk.out]; simp only [hf]; rfl)
        clear hf t3 t4
        go_wp2_with fail
        clear hq hwq g1 g2 hwn t1 t2 t5 t6
        go_roundw
        case rel => exact ⟨k + 1, by omega, by go_num, by rw [HS2.out, HN.out]; congr 1; omega, by rw [HS2.out, HN.out]; omega, by rw [HS2.out, HN.out]; exact OO.out, HGE.out, HB.out⟩
        case measure => simp [intOf]; omega
    · obtain rfl : k = l.length := by omega
      rw [HT.out] at OO hnk ⊢
      obtain ⟨ao, co, rfl⟩ := OO.out.of_any
      have kb := HPB.out.below HB.out hp
      have f1 := kb.frozen 1
      have KB := Lib.hid kb
      clear kb
      have hne3 : (Value.slice ao (stay (fun x => rmd x d == left) l).length co).ownBlock ≠ some p := fun e => by have := HGE.out p e; omega
      have HNE := Lib.hid hne3
      clear hne3 hlt
      go_wp2_with fail
      go_ret
      refine ⟨.slice ao (stay (fun x => rmd x d == left) l).length co, rfl, ⟨by simpa using KB.out.set_ 1 _, ?_, HNE.out⟩, (Kept.of_fresh HB.out (O p _)).setCell (p := ⟨p, 1, none⟩) (.inl (.inl rfl)) _, fun b hb => .inr (HGE.out b hb)⟩
      exact OO.out.kept (S := fun b => b = p) ((Kept.refl (fun b => b = p) wr).setCell (p := ⟨p, 1, none⟩) (.inl rfl) _) (fun b hb e => HNE.out (e ▸ hb))
end Go.Proofs.Ytoecclpfgdfpoaa
