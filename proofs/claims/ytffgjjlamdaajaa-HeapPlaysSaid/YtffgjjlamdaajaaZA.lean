/- What each call answers, and which keys things have: the law's loop, a round's first half. -/
import Derived.Test.YtffgjjlamdaajaaZ
import Derived.Test.YtffgjjlamdaajaaHm
import Derived.Deep.DeepCutAuto
import Derived.Deep.CutBlock
namespace Go.Proofs.Ytffgjjlamdaajaa
open Go.RowKit

theorem cellsA {W : World} {b : Nat} {d id x1 x2 x3 x4 : Int} (h : Blk W b 49 #[.int .i64 d, .int .i64 id, .int .u64 x1, .int .u64 x2, .int .i64 x3, .int .i64 x4]) :
    W.cell? ⟨b, 1, none⟩ = some (.int .i64 id) ∧ W.cell? ⟨b, 2, none⟩ = some (.int .u64 x1) ∧ W.cell? ⟨b, 3, none⟩ = some (.int .u64 x2) ∧ W.cell? ⟨b, 4, none⟩ = some (.int .i64 x3) ∧ W.cell? ⟨b, 5, none⟩ = some (.int .i64 x4) := ⟨h.cell 1, h.cell 2, h.cell 3, h.cell 4, h.cell 5⟩
theorem popV_any (S : List Th) : ∃ v z1 z2 z3 z4 b, popV S = .tuple #[.int .i64 v, .agg #[.int .u64 z1, .int .u64 z2, .int .i64 z3, .int .i64 z4], .bool b] ∧ (b = true ↔ S ≠ []) := by
  cases S with
  | nil => exact ⟨0, 0, 0, 0, 0, false, rfl, by simp⟩
  | cons x t => exact ⟨x.1, x.2.1, x.2.2.1, x.2.2.2.1, x.2.2.2.2, true, rfl, by simp⟩

theorem cells22 {W : World} {r ci bk ck n q b13 : Nat} {I : List Int} {K : List Ky} {z1 z2 z3 z4 : Int} {si0 : Option Addr} (h : R2 W r (.slice si0 n ci) (.slice (some ⟨bk, 0, none⟩) n ck) I K) (hk : K.length = n) (hq : q < n)
    (hz : K.getD q (0, 0, 0, 0) = (z1, z2, z3, z4)) (hb : Blk W b13 24 #[.int .u64 z1, .int .u64 z2, .int .i64 z3, .int .i64 z4]) :
    W.cell? ⟨r, 0, none⟩ = some (.slice si0 n ci) ∧ W.cell? ⟨r, 1, none⟩ = some (.slice (some ⟨bk, 0, none⟩) n ck) ∧ W.cell? ⟨bk, q * 4, none⟩ = some (.int .u64 z1) ∧ W.cell? ⟨bk, q * 4 + 1, none⟩ = some (.int .u64 z2) ∧ W.cell? ⟨bk, q * 4 + 2, none⟩ = some (.int .i64 z3) ∧ W.cell? ⟨bk, q * 4 + 3, none⟩ = some (.int .i64 z4) ∧ W.cell? ⟨b13, 0, none⟩ = some (.int .u64 z1) ∧ W.cell? ⟨b13, 1, none⟩ = some (.int .u64 z2) ∧ W.cell? ⟨b13, 2, none⟩ = some (.int .i64 z3) ∧ W.cell? ⟨b13, 3, none⟩ = some (.int .i64 z4) := by
  have f0 := h.blk.cell 0
  have f1 := h.blk.cell 1
  simp at f0 f1
  have ok := h.ok
  rw [hk] at ok
  obtain ⟨p0, p1, p2, p3⟩ := own_keyE ok (j := q) (by omega)
  rw [hz] at p0 p1 p2 p3
  exact ⟨f0, f1, p0, p1, p2, p3, hb.cell 0, hb.cell 1, hb.cell 2, hb.cell 3⟩
theorem cells22n {W : World} {r ci n b13 : Nat} {I : List Int} {K : List Ky} {si0 : Option Addr} {sk : Value} {z1 z2 z3 z4 : Int} (h : R2 W r (.slice si0 n ci) sk I K) (hb : Blk W b13 24 #[.int .u64 z1, .int .u64 z2, .int .i64 z3, .int .i64 z4]) :
    W.cell? ⟨r, 0, none⟩ = some (.slice si0 n ci) ∧ W.cell? ⟨b13, 0, none⟩ = some (.int .u64 z1) ∧ W.cell? ⟨b13, 1, none⟩ = some (.int .u64 z2) ∧ W.cell? ⟨b13, 2, none⟩ = some (.int .i64 z3) ∧ W.cell? ⟨b13, 3, none⟩ = some (.int .i64 z4) := by
  have f0 := h.blk.cell 0
  simp at f0
  exact ⟨f0, hb.cell 0, hb.cell 1, hb.cell 2, hb.cell 3⟩
theorem keyV_yes {S : List Th} {id : Int} {z1 z2 z3 z4 : Int} (h : hasS S id = true) (hz : keyS S id = (z1, z2, z3, z4)) : keyV S id = .tuple #[.agg #[.int .u64 z1, .int .u64 z2, .int .i64 z3, .int .i64 z4], .bool true] := by
  unfold keyV
  rw [h, if_pos rfl, hz]
theorem keyV_no {S : List Th} {id : Int} (h : hasS S id = false) : keyV S id = .tuple #[.agg #[.int .u64 0, .int .u64 0, .int .i64 0, .int .i64 0], .bool false] := by
  unfold keyV
  rw [h, if_neg (by simp)]

set_option maxHeartbeats 8000000 in
set_option maxRecDepth 100000 in
theorem wPlays (a : Option Addr) (cap : Nat) (l : List Ac) (w : World) (hA : RowA w a l) (hL : l.length ≤ 9223372036854775807) :
    Calls Try.prog 6 #[.slice a l.length cap] w fun e w' => e = .returned (.bool true) ∧ Below w.heap.size w w' := by
  have HA := Lib.hid hA
  clear hA
  by_cases hg : 150 < l.length
  · have t1 : (150 : Int) < (l.length : Int) := by omega
    go_enter Try.func6, Try.ntmps6
    go_wp2_with fail
    refine (awake_true _).mono ?_
    rintro e w5 ⟨rfl, hb⟩
    have HB5 := Lib.hid hb
    clear hb
    go_wp2_with fail
    go_ret
    exact ⟨rfl, HB5.out⟩
  · have t1 : ¬ (150 : Int) < (l.length : Int) := by omega
    have hl : l.length ≤ 150 := by omega
    go_enter Try.func6, Try.ntmps6
    go_wp2_with fail
    clear t1 hg
    refine (sys_new (Sys.nil w)).mono ?_
    rintro e w1 ⟨p, m, rfl, hs1, _⟩
    have S1 := Lib.hid hs1
    clear hs1
    go_wp2_with fail
    have H1 := Lib.hid (show HP w (w1.alloc (.cells #[.slice none 0 0, .slice none 0 0] 47)) p (.slice none 0 0) m (srt []) w1.heap.size (.slice none 0 0) (.slice none 0 0) [] from
      ⟨S1.out.mono ((Below.refl _ _).alloc (Nat.le_refl _) _), ⟨Blk.new _ _ _, Own.nil _ _ _, Own.nil _ _ _, by simp [Value.ownBlock], by simp [Value.ownBlock], by simp [Value.ownBlock]⟩, List.Pairwise.nil,
        fun b hb => by simp [OR, Value.ownBlock] at hb; subst hb; exact S1.out.below.size, fun b hb => by simp [OR, Value.ownBlock] at hb; subst hb; exact S1.out.out (Nat.le_refl _)⟩)
    obtain ⟨r, hr⟩ : ∃ r, r = w1.heap.size := ⟨_, rfl⟩
    rw [← hr] at H1 ⊢
    clear hr
    go_loopw [5] (fun i wr => ∃ (y : Nat) (s si sk : Value) (R : List Th), i = .int .i64 y ∧ y ≤ l.length ∧ R.length ≤ y ∧ Hid (HP w wr p s m (srt R) r si sk R))
      (fun i _ => l.length - (intOf i).toNat)
    case atStart => exact ⟨0, _, _, _, [], rfl, by omega, by simp, H1⟩
    case round =>
      obtain ⟨y, s, si, sk, R, rfl, hy, hRy, HG⟩ := hrel
      by_cases hyl : y < l.length
      · obtain ⟨b, off, rfl, hb, c0, c1, c2, c3, c4, c5⟩ := HA.out.at_ HG.out.sys.below hyl
        generalize l.getD y ac0 = x at *
        obtain ⟨d, id, x1, x2, x3, x4⟩ := x
        (try dsimp only at c0 c1 c2 c3 c4 c5)
        have t2 : (0 : Int) ≤ (y : Int) := by omega
        have t3 : (y : Int) < (l.length : Int) := by omega
        have HO := Lib.hid HG.out.once
        have HL := Lib.hid (show (srt R).length ≤ 999999 by rw [srt_len]; omega)
        have HL2 := Lib.hid (show (srt R).length ≤ 1000000 by rw [srt_len]; omega)
        have HL3 := Lib.hid (show R.length ≤ 999999 by omega)
        have H0 := Lib.hid (HG.out.mono ((Below.refl wr.heap.size wr).alloc (Nat.le_refl _) (.cells #[.int .i64 d, .int .i64 id, .int .u64 x1, .int .u64 x2, .int .i64 x3, .int .i64 x4] 49)))
        have K0 := Lib.hid (Blk.new wr 49 #[.int .i64 d, .int .i64 id, .int .u64 x1, .int .u64 x2, .int .i64 x3, .int .i64 x4])
        have NO := Lib.hid (HG.out.far (Nat.le_refl wr.heap.size))
        clear H1 S1
        go_upto_block 2 with fail
        go_cut [7, 8, 9, 10, 11, 12] (fun _ _ _ _ _ _ wx => ∃ s' si' sk' R', R'.length ≤ y + 1 ∧ Hid (HP w wx p s' m (srt R') r si' sk' R') ∧ Hid (Blk wx wr.heap.size 49 #[.int .i64 d, .int .i64 id, .int .u64 x1, .int .u64 x2, .int .i64 x3, .int .i64 x4]))
        case first =>
          by_cases d0 : d = 0
          · subst d0
            obtain ⟨E, hE⟩ : ∃ E, (if hasS (srt R) id = true then (15 : Int) else 0) = E := ⟨_, rfl⟩
            have HLR := Lib.hid (pushR_len R id (x1, x2, x3, x4))
            have H0d := Lib.hid (H0.out.mono (w' := (wr.alloc (.cells #[.int .i64 0, .int .i64 id, .int .u64 x1, .int .u64 x2, .int .i64 x3, .int .i64 x4] 49)).drew) (by go_grown))
            have K0d := Lib.hid K0.out.drew
            go_wp2_with fail
            refine wp_region_noPanic ?_
            refine wp_region_ord (fun W => W.cell? ⟨wr.heap.size, 1, none⟩ = some (.int .i64 id) ∧ W.cell? ⟨wr.heap.size, 2, none⟩ = some (.int .u64 x1) ∧ W.cell? ⟨wr.heap.size, 3, none⟩ = some (.int .u64 x2) ∧ W.cell? ⟨wr.heap.size, 4, none⟩ = some (.int .i64 x3) ∧ W.cell? ⟨wr.heap.size, 5, none⟩ = some (.int .i64 x4)) [(false, 0), (false, 1), (false, 2), (false, 3), (false, 4), (false, 6), (false, 7), (false, 8), (false, 9), (false, 10), (true, 5), (true, 11), (true, 12), (false, 13)] (by kernel_rfl) (by kernel_rfl) (fun _ _ _ _ _ h => h) (cellsA K0d.out) ?_
            refine ord_take (v := ?_) (by rfl) (by rfl) ?_ ?_
            rotate_left
            focus (intro W hSw; (try dsimp only at hSw); go_simp; (try with_reducible rfl))
            (try simp only [Act.put, List.setIfInBounds_toArray, List.set_cons_zero, List.set_cons_succ])
            refine ord_take (v := ?_) (by rfl) (by rfl) ?_ ?_
            rotate_left
            focus (intro W hSw; (try dsimp only at hSw); go_simp; (try with_reducible rfl))
            (try simp only [Act.put, List.setIfInBounds_toArray, List.set_cons_zero, List.set_cons_succ])
            refine ord_take (v := ?_) (by rfl) (by rfl) ?_ ?_
            rotate_left
            focus (intro W hSw; (try dsimp only at hSw); go_simp; (try with_reducible rfl))
            (try simp only [Act.put, List.setIfInBounds_toArray, List.set_cons_zero, List.set_cons_succ])
            refine ord_take (v := ?_) (by rfl) (by rfl) ?_ ?_
            rotate_left
            focus (intro W hSw; (try dsimp only at hSw); go_simp; (try with_reducible rfl))
            (try simp only [Act.put, List.setIfInBounds_toArray, List.set_cons_zero, List.set_cons_succ])
            refine ord_take (v := ?_) (by rfl) (by rfl) ?_ ?_
            rotate_left
            focus (intro W hSw; (try dsimp only at hSw); go_simp; (try with_reducible rfl))
            (try simp only [Act.put, List.setIfInBounds_toArray, List.set_cons_zero, List.set_cons_succ])
            refine ord_take (v := ?_) (by rfl) (by rfl) ?_ ?_
            rotate_left
            focus (intro W hSw; (try dsimp only at hSw); go_simp; (try with_reducible rfl))
            (try simp only [Act.put, List.setIfInBounds_toArray, List.set_cons_zero, List.set_cons_succ])
            refine ord_take (v := ?_) (by rfl) (by rfl) ?_ ?_
            rotate_left
            focus (intro W hSw; (try dsimp only at hSw); go_simp; (try with_reducible rfl))
            (try simp only [Act.put, List.setIfInBounds_toArray, List.set_cons_zero, List.set_cons_succ])
            refine ord_take (v := ?_) (by rfl) (by rfl) ?_ ?_
            rotate_left
            focus (intro W hSw; (try dsimp only at hSw); go_simp; (try with_reducible rfl))
            (try simp only [Act.put, List.setIfInBounds_toArray, List.set_cons_zero, List.set_cons_succ])
            refine ord_take (v := ?_) (by rfl) (by rfl) ?_ ?_
            rotate_left
            focus (intro W hSw; (try dsimp only at hSw); go_simp; (try with_reducible rfl))
            (try simp only [Act.put, List.setIfInBounds_toArray, List.set_cons_zero, List.set_cons_succ])
            refine ord_take (v := ?_) (by rfl) (by rfl) ?_ ?_
            rotate_left
            focus (intro W hSw; (try dsimp only at hSw); go_simp; (try with_reducible rfl))
            (try simp only [Act.put, List.setIfInBounds_toArray, List.set_cons_zero, List.set_cons_succ])
            refine ord_call (by rfl) (by rfl) (fun K' hK => ?_)
            go_simp
            go_at_call 14
            refine (sys_push H0d.out.sys HL.out id (x1, x2, x3, x4) hE (pushR_srt R id (x1, x2, x3, x4))).mono ?_
            rintro e w3 ⟨s3, rfl, hs, hf⟩
            have H3 := Lib.hid (H0d.out.heap hs hf)
            have K3 := Lib.hid (hf.blk K0d.out NO.out.1)
            clear hs hf
            refine hK.out _ _ (cellsA K3.out) ?_
            clear hK K'
            (try simp only [Act.put, List.setIfInBounds_toArray, List.set_cons_zero, List.set_cons_succ])
            refine ord_call (by rfl) (by rfl) (fun K' hK => ?_)
            go_simp
            go_at_call 11
            refine (plain_any (x1, x2, x3, x4) _).mono ?_
            rintro e w4 ⟨rfl, hb⟩
            have H4 := Lib.hid (H3.out.mono hb)
            have K4 := Lib.hid (K3.out.below hb K3.out.lt)
            clear hb
            refine hK.out _ _ (cellsA K4.out) ?_
            clear hK K'
            (try simp only [Act.put, List.setIfInBounds_toArray, List.set_cons_zero, List.set_cons_succ])
            refine ord_call (by rfl) (by rfl) (fun K' hK => ?_)
            go_simp
            go_at_call 19
            refine (rpush_any r si sk R id (x1, x2, x3, x4) HL3.out hE w4 H4.out.r2).mono ?_
            rintro e wz ⟨si', sk', rfl, h2, hk, hf⟩
            have HZ := Lib.hid (H4.out.ref h2 hk hf (pushR_once HO.out id (x1, x2, x3, x4)))
            have KZ := Lib.hid (hk.blk K4.out NO.out.2)
            clear h2 hk hf
            refine hK.out _ _ (cellsA KZ.out) ?_
            clear hK K'
            (try simp only [Act.put, List.setIfInBounds_toArray, List.set_cons_zero, List.set_cons_succ])
            refine ord_take (v := ?_) (by rfl) (by rfl) ?_ ?_
            rotate_left
            focus (intro W hSw; (try dsimp only at hSw); go_simp; (try with_reducible rfl))
            (try simp only [Act.put, List.setIfInBounds_toArray, List.set_cons_zero, List.set_cons_succ])
            refine ord_end ?_
            refine NoPanic.normal ?_
            go_wp2_with fail
            go_meet
            exact ⟨_, _, _, _, by have := HLR.out; omega, HZ, KZ⟩
          · by_cases d1 : d = 1
            · subst d1
              obtain ⟨R', ho2, hlow, hlen, hcall⟩ := rlower_any R HG.out.once id (x1, x2, x3, x4) (by omega)
              obtain ⟨E, hE⟩ : ∃ E, lowerE (srt R) id (x1, x2, x3, x4) = E := ⟨_, rfl⟩
              rw [hE] at hcall
              have HO2 := Lib.hid ho2
              have HR2 := Lib.hid hlow
              have HRC := Lib.hid hcall
              clear ho2 hlow hcall d0
              have H0d := Lib.hid (H0.out.mono (w' := (wr.alloc (.cells #[.int .i64 1, .int .i64 id, .int .u64 x1, .int .u64 x2, .int .i64 x3, .int .i64 x4] 49)).drew) (by go_grown))
              have K0d := Lib.hid K0.out.drew
              go_wp2_with fail
              refine wp_region_noPanic ?_
              refine wp_region_ord (fun W => W.cell? ⟨wr.heap.size, 1, none⟩ = some (.int .i64 id) ∧ W.cell? ⟨wr.heap.size, 2, none⟩ = some (.int .u64 x1) ∧ W.cell? ⟨wr.heap.size, 3, none⟩ = some (.int .u64 x2) ∧ W.cell? ⟨wr.heap.size, 4, none⟩ = some (.int .i64 x3) ∧ W.cell? ⟨wr.heap.size, 5, none⟩ = some (.int .i64 x4)) [(false, 0), (false, 1), (false, 2), (false, 3), (false, 4), (false, 6), (false, 7), (false, 8), (false, 9), (false, 10), (true, 5), (true, 11), (true, 12), (false, 13)] (by kernel_rfl) (by kernel_rfl) (fun _ _ _ _ _ h => h) (cellsA K0d.out) ?_
              refine ord_take (v := ?_) (by rfl) (by rfl) ?_ ?_
              rotate_left
              focus (intro W hSw; (try dsimp only at hSw); go_simp; (try with_reducible rfl))
              (try simp only [Act.put, List.setIfInBounds_toArray, List.set_cons_zero, List.set_cons_succ])
              refine ord_take (v := ?_) (by rfl) (by rfl) ?_ ?_
              rotate_left
              focus (intro W hSw; (try dsimp only at hSw); go_simp; (try with_reducible rfl))
              (try simp only [Act.put, List.setIfInBounds_toArray, List.set_cons_zero, List.set_cons_succ])
              refine ord_take (v := ?_) (by rfl) (by rfl) ?_ ?_
              rotate_left
              focus (intro W hSw; (try dsimp only at hSw); go_simp; (try with_reducible rfl))
              (try simp only [Act.put, List.setIfInBounds_toArray, List.set_cons_zero, List.set_cons_succ])
              refine ord_take (v := ?_) (by rfl) (by rfl) ?_ ?_
              rotate_left
              focus (intro W hSw; (try dsimp only at hSw); go_simp; (try with_reducible rfl))
              (try simp only [Act.put, List.setIfInBounds_toArray, List.set_cons_zero, List.set_cons_succ])
              refine ord_take (v := ?_) (by rfl) (by rfl) ?_ ?_
              rotate_left
              focus (intro W hSw; (try dsimp only at hSw); go_simp; (try with_reducible rfl))
              (try simp only [Act.put, List.setIfInBounds_toArray, List.set_cons_zero, List.set_cons_succ])
              refine ord_take (v := ?_) (by rfl) (by rfl) ?_ ?_
              rotate_left
              focus (intro W hSw; (try dsimp only at hSw); go_simp; (try with_reducible rfl))
              (try simp only [Act.put, List.setIfInBounds_toArray, List.set_cons_zero, List.set_cons_succ])
              refine ord_take (v := ?_) (by rfl) (by rfl) ?_ ?_
              rotate_left
              focus (intro W hSw; (try dsimp only at hSw); go_simp; (try with_reducible rfl))
              (try simp only [Act.put, List.setIfInBounds_toArray, List.set_cons_zero, List.set_cons_succ])
              refine ord_take (v := ?_) (by rfl) (by rfl) ?_ ?_
              rotate_left
              focus (intro W hSw; (try dsimp only at hSw); go_simp; (try with_reducible rfl))
              (try simp only [Act.put, List.setIfInBounds_toArray, List.set_cons_zero, List.set_cons_succ])
              refine ord_take (v := ?_) (by rfl) (by rfl) ?_ ?_
              rotate_left
              focus (intro W hSw; (try dsimp only at hSw); go_simp; (try with_reducible rfl))
              (try simp only [Act.put, List.setIfInBounds_toArray, List.set_cons_zero, List.set_cons_succ])
              refine ord_take (v := ?_) (by rfl) (by rfl) ?_ ?_
              rotate_left
              focus (intro W hSw; (try dsimp only at hSw); go_simp; (try with_reducible rfl))
              (try simp only [Act.put, List.setIfInBounds_toArray, List.set_cons_zero, List.set_cons_succ])
              refine ord_call (by rfl) (by rfl) (fun K' hK => ?_)
              go_simp
              go_at_call 16
              refine (sys_lower H0d.out.sys HL2.out id (x1, x2, x3, x4) hE HR2.out).mono ?_
              rintro e w3 ⟨rfl, hs, hf⟩
              have H3 := Lib.hid (H0d.out.heap hs hf)
              have K3 := Lib.hid (hf.blk K0d.out NO.out.1)
              clear hs hf
              refine hK.out _ _ (cellsA K3.out) ?_
              clear hK K'
              (try simp only [Act.put, List.setIfInBounds_toArray, List.set_cons_zero, List.set_cons_succ])
              refine ord_call (by rfl) (by rfl) (fun K' hK => ?_)
              go_simp
              go_at_call 11
              refine (plain_any (x1, x2, x3, x4) _).mono ?_
              rintro e w4 ⟨rfl, hb⟩
              have H4 := Lib.hid (H3.out.mono hb)
              have K4 := Lib.hid (K3.out.below hb K3.out.lt)
              clear hb
              refine hK.out _ _ (cellsA K4.out) ?_
              clear hK K'
              (try simp only [Act.put, List.setIfInBounds_toArray, List.set_cons_zero, List.set_cons_succ])
              refine ord_call (by rfl) (by rfl) (fun K' hK => ?_)
              go_simp
              go_at_call 20
              refine (HRC.out r si sk w4 H4.out.r2).mono ?_
              rintro e wz ⟨si', sk', rfl, h2, hk, hf⟩
              have HZ := Lib.hid (H4.out.ref h2 hk hf HO2.out)
              have KZ := Lib.hid (hk.blk K4.out NO.out.2)
              clear h2 hk hf
              refine hK.out _ _ (cellsA KZ.out) ?_
              clear hK K'
              (try simp only [Act.put, List.setIfInBounds_toArray, List.set_cons_zero, List.set_cons_succ])
              refine ord_take (v := ?_) (by rfl) (by rfl) ?_ ?_
              rotate_left
              focus (intro W hSw; (try dsimp only at hSw); go_simp; (try with_reducible rfl))
              (try simp only [Act.put, List.setIfInBounds_toArray, List.set_cons_zero, List.set_cons_succ])
              refine ord_end ?_
              refine NoPanic.normal ?_
              go_wp2_with fail
              go_meet
              exact ⟨_, _, _, _, by omega, HZ, KZ⟩
            · have e0 : (d == 0) = false := by simpa using d0
              have e1 : (d == 1) = false := by simpa using d1
              clear d0 d1
              obtain ⟨R', ho2, htail, hlen, hcall⟩ := rpop_any R HG.out.once (by omega)
              obtain ⟨v, z1, z2, z3, z4, bb, hV, _⟩ := popV_any (srt R)
              rw [hV] at hcall
              have HV := Lib.hid hV
              have HO2 := Lib.hid ho2
              have HR2 := Lib.hid htail
              have HRC := Lib.hid hcall
              have HSm := Lib.hid (same_any (z1, z2, z3, z4))
              clear ho2 htail hcall hV
              go_wp2_with fail
              refine (sys_pop H0.out.sys HL2.out HV.out HR2.out).mono ?_
              rintro e w3 ⟨s3, rfl, hs, hf⟩
              have H3 := Lib.hid (H0.out.heap hs hf)
              have K3 := Lib.hid (hf.blk K0.out NO.out.1)
              clear hs hf
              go_wp2_with fail
              have H4 := Lib.hid (H3.out.mono ((Below.refl _ _).alloc (Nat.le_refl _) (.cells #[.int .u64 z1, .int .u64 z2, .int .i64 z3, .int .i64 z4] 24)))
              have K4 := Lib.hid (K3.out.alloc (.cells #[.int .u64 z1, .int .u64 z2, .int .i64 z3, .int .i64 z4] 24))
              have Q4 := Lib.hid (Blk.new w3 24 #[.int .u64 z1, .int .u64 z2, .int .i64 z3, .int .i64 z4])
              have NQ := Lib.hid (H3.out.far (Nat.le_refl _)).2
              refine (HRC.out r si sk _ H4.out.r2).mono ?_
              rintro e w5 ⟨si', sk', rfl, h2, hk, hf⟩
              have HZ := Lib.hid (H4.out.ref h2 hk hf HO2.out)
              have KZ := Lib.hid (hk.blk K4.out NO.out.2)
              have q5 := hk.blk Q4.out NQ.out
              have u0 := q5.cell 0
              have u1 := q5.cell 1
              have u2 := q5.cell 2
              have u3 := q5.cell 3
              simp at u0 u1 u2 u3
              have hlt5 := q5.lt
              clear h2 hk hf q5
              go_wp2_with fail
              refine (HSm.out _).mono ?_
              rintro e w6 ⟨rfl, hb⟩
              have hb' := ((Below.refl w5.heap.size w5).alloc (Nat.le_refl _) (.cells #[.int .u64 z1, .int .u64 z2, .int .i64 z3, .int .i64 z4] 28)).trans (hb.mono (by simp))
              have HZ6 := Lib.hid (HZ.out.mono hb')
              have KZ6 := Lib.hid (KZ.out.below hb' KZ.out.lt)
              clear hb hb'
              go_wp2_with fail
              go_meet
              exact ⟨_, _, _, _, by omega, HZ6, KZ6⟩
        case rest =>
          obtain ⟨s', si', sk', R', hlR, HZ, KZ⟩ := hcut
          have HLk := Lib.hid (show (srt R').length ≤ 1000000 by rw [srt_len]; omega)
          cases hh : hasS R' id
          · have HV := Lib.hid (keyV_no (S := srt R') (by rw [hasS_srt]; exact hh))
            have HF := Lib.hid (fun W (hW : R2 W r si' sk' (ids R') (kys R')) => find_no r si' sk' (ids R') (kys R') id W hW (by simp [ids]; omega) (ids_no hh))
            obtain ⟨si0, ci, ei⟩ := HZ.out.r2.oi.of_any
            obtain ⟨n, hn⟩ : ∃ n, n = R'.length := ⟨_, rfl⟩
            have en1 : (ids R').length = n := by rw [hn]; simp [ids]
            rw [en1] at ei
            subst ei
            have HLn := Lib.hid (show (srt R').length = n by rw [srt_len, hn])
            have hneq : ∀ W : World, (binOp .neq 24 (.agg #[.int .u64 0, .int .u64 0, .int .i64 0, .int .i64 0]) (.agg #[.int .u64 0, .int .u64 0, .int .i64 0, .int .i64 0])).run Try.prog W = .ok (.bool false) W := fun W => by
              have := neKey (0, 0, 0, 0) (0, 0, 0, 0) W
              simpa using this
            have heqi : ∀ W : World, (Op.equalIn 10000 24 (.agg #[.int .u64 0, .int .u64 0, .int .i64 0, .int .i64 0]) (.agg #[.int .u64 0, .int .u64 0, .int .i64 0, .int .i64 0])).run Try.prog W = .ok true W := fun W => by
              have := inKey (0, 0, 0, 0) (0, 0, 0, 0) W
              simpa using this
            have HnR := Lib.hid (show R'.length = n from hn.symm)
            have k1 := KZ.out.cell 1
            simp at k1
            clear hh hn en1
            go_wp2_with fail
            refine (sys_key HZ.out.sys HLk.out id HV.out).mono ?_
            rintro e w3 ⟨rfl, _, hb⟩
            have H3 := Lib.hid (HZ.out.mono hb)
            have K3 := Lib.hid (KZ.out.below hb KZ.out.lt)
            clear hb
            have k2 := K3.out.cell 1
            simp at k2
            have H4 := Lib.hid (H3.out.mono ((Below.refl _ _).alloc (Nat.le_refl _) (.cells #[.int .u64 0, .int .u64 0, .int .i64 0, .int .i64 0] 24)))
            have Q4 := Lib.hid (Blk.new w3 24 #[.int .u64 0, .int .u64 0, .int .i64 0, .int .i64 0])
            have k3 := (K3.out.alloc (.cells #[.int .u64 0, .int .u64 0, .int .i64 0, .int .i64 0] 24)).cell 1
            simp at k3
            have hl3 := K3.out.lt
            go_wp2_with fail
            refine (HF.out _ H4.out.r2).mono ?_
            rintro e w5 ⟨rfl, rfl⟩
            have Hd := Lib.hid (H4.out.mono (w' := (w3.alloc (.cells #[.int .u64 0, .int .u64 0, .int .i64 0, .int .i64 0] 24)).drew) (by go_grown))
            have Qd := Lib.hid Q4.out.drew
            clear k1 k2 k3 hl3
            go_wp2_with fail
            refine wp_region_noPanic ?_
            refine wp_region_ord (fun W => W.cell? ⟨r, 0, none⟩ = some (.slice si0 n ci) ∧ W.cell? ⟨w3.heap.size, 0, none⟩ = some (.int .u64 0) ∧ W.cell? ⟨w3.heap.size, 1, none⟩ = some (.int .u64 0) ∧ W.cell? ⟨w3.heap.size, 2, none⟩ = some (.int .i64 0) ∧ W.cell? ⟨w3.heap.size, 3, none⟩ = some (.int .i64 0)) [(false, 0), (false, 2), (false, 3), (false, 4), (false, 5), (false, 6), (true, 1), (false, 7), (false, 8), (false, 9), (false, 10), (false, 11), (false, 12), (false, 13), (false, 14), (false, 15), (false, 16), (false, 17), (false, 18), (false, 19), (false, 20), (false, 21), (false, 22), (false, 23), (false, 24), (false, 25), (false, 26), (false, 27), (false, 28), (false, 29), (false, 30), (false, 31), (false, 32), (false, 33), (false, 34), (false, 35), (false, 36), (false, 37)] (by kernel_rfl) (by kernel_rfl) (fun _ _ _ _ _ h => h) (cells22n Hd.out.r2 Qd.out) ?_
            refine ord_take (v := ?_) (by rfl) (by rfl) ?_ ?_
            rotate_left
            focus (intro W hSw; (try dsimp only at hSw); go_simp; (try with_reducible rfl))
            (try simp only [Act.put, List.setIfInBounds_toArray, List.set_cons_zero, List.set_cons_succ])
            refine ord_take (v := ?_) (by rfl) (by rfl) ?_ ?_
            rotate_left
            focus (intro W hSw; (try dsimp only at hSw); go_simp; (try with_reducible rfl))
            (try simp only [Act.put, List.setIfInBounds_toArray, List.set_cons_zero, List.set_cons_succ])
            refine ord_take (v := ?_) (by rfl) (by rfl) ?_ ?_
            rotate_left
            focus (intro W hSw; (try dsimp only at hSw); go_simp; (try with_reducible rfl))
            (try simp only [Act.put, List.setIfInBounds_toArray, List.set_cons_zero, List.set_cons_succ])
            refine ord_take (v := ?_) (by rfl) (by rfl) ?_ ?_
            rotate_left
            focus (intro W hSw; (try dsimp only at hSw); go_simp; (try with_reducible rfl))
            (try simp only [Act.put, List.setIfInBounds_toArray, List.set_cons_zero, List.set_cons_succ])
            refine ord_take (v := ?_) (by rfl) (by rfl) ?_ ?_
            rotate_left
            focus (intro W hSw; (try dsimp only at hSw); go_simp; (try with_reducible rfl))
            (try simp only [Act.put, List.setIfInBounds_toArray, List.set_cons_zero, List.set_cons_succ])
            refine ord_take (v := ?_) (by rfl) (by rfl) ?_ ?_
            rotate_left
            focus (intro W hSw; (try dsimp only at hSw); go_simp; (try with_reducible rfl))
            (try simp only [Act.put, List.setIfInBounds_toArray, List.set_cons_zero, List.set_cons_succ])
            refine ord_call (by rfl) (by rfl) (fun K' hK => ?_)
            go_simp
            go_at_call 25
            refine (sys_len Hd.out.sys).mono ?_
            rintro e w9 ⟨rfl, hww⟩
            subst hww
            rw [HLn.out]
            refine hK.out _ _ (cells22n Hd.out.r2 Qd.out) ?_
            clear hK K'
            (try simp only [Act.put, List.setIfInBounds_toArray, List.set_cons_zero, List.set_cons_succ])
            refine ord_take (v := ?_) (by rfl) (by rfl) ?_ ?_
            rotate_left
            focus (intro W hSw; (try dsimp only at hSw); go_simp; (try with_reducible rfl))
            (try simp only [Act.put, List.setIfInBounds_toArray, List.set_cons_zero, List.set_cons_succ])
            refine ord_take (v := ?_) (by rfl) (by rfl) ?_ ?_
            rotate_left
            focus (intro W hSw; (try dsimp only at hSw); go_simp; (try with_reducible rfl))
            (try simp only [Act.put, List.setIfInBounds_toArray, List.set_cons_zero, List.set_cons_succ])
            refine ord_take (v := ?_) (by rfl) (by rfl) ?_ ?_
            rotate_left
            focus (intro W hSw; (try dsimp only at hSw); go_simp; (try with_reducible rfl))
            (try simp only [Act.put, List.setIfInBounds_toArray, List.set_cons_zero, List.set_cons_succ])
            refine ord_take (v := ?_) (by rfl) (by rfl) ?_ ?_
            rotate_left
            focus (intro W hSw; (try dsimp only at hSw); go_simp; (try with_reducible rfl))
            (try simp only [Act.put, List.setIfInBounds_toArray, List.set_cons_zero, List.set_cons_succ])
            refine ord_take (v := ?_) (by rfl) (by rfl) ?_ ?_
            rotate_left
            focus (intro W hSw; (try dsimp only at hSw); go_simp; (try with_reducible rfl))
            (try simp only [Act.put, List.setIfInBounds_toArray, List.set_cons_zero, List.set_cons_succ])
            refine ord_take (v := ?_) (by rfl) (by rfl) ?_ ?_
            rotate_left
            focus (intro W hSw; (try dsimp only at hSw); go_simp; (try with_reducible rfl))
            (try simp only [Act.put, List.setIfInBounds_toArray, List.set_cons_zero, List.set_cons_succ])
            refine ord_take (v := ?_) (by rfl) (by rfl) ?_ ?_
            rotate_left
            focus (intro W hSw; (try dsimp only at hSw); go_simp; (try with_reducible rfl))
            (try simp only [Act.put, List.setIfInBounds_toArray, List.set_cons_zero, List.set_cons_succ])
            refine ord_take (v := ?_) (by rfl) (by rfl) ?_ ?_
            rotate_left
            focus (intro W hSw; (try dsimp only at hSw); go_simp; (try with_reducible rfl))
            (try simp only [Act.put, List.setIfInBounds_toArray, List.set_cons_zero, List.set_cons_succ])
            refine ord_take (v := ?_) (by rfl) (by rfl) ?_ ?_
            rotate_left
            focus (intro W hSw; (try dsimp only at hSw); go_simp; (try with_reducible rfl))
            (try simp only [Act.put, List.setIfInBounds_toArray, List.set_cons_zero, List.set_cons_succ])
            refine ord_take (v := ?_) (by rfl) (by rfl) ?_ ?_
            rotate_left
            focus (intro W hSw; (try dsimp only at hSw); go_simp; (try with_reducible rfl))
            (try simp only [Act.put, List.setIfInBounds_toArray, List.set_cons_zero, List.set_cons_succ])
            refine ord_skip (by rfl) (by kernel_rfl) ?_
            (try simp only [Act.put, List.setIfInBounds_toArray, List.set_cons_zero, List.set_cons_succ])
            refine ord_skip (by rfl) (by kernel_rfl) ?_
            (try simp only [Act.put, List.setIfInBounds_toArray, List.set_cons_zero, List.set_cons_succ])
            refine ord_skip (by rfl) (by kernel_rfl) ?_
            (try simp only [Act.put, List.setIfInBounds_toArray, List.set_cons_zero, List.set_cons_succ])
            refine ord_skip (by rfl) (by kernel_rfl) ?_
            (try simp only [Act.put, List.setIfInBounds_toArray, List.set_cons_zero, List.set_cons_succ])
            refine ord_skip (by rfl) (by kernel_rfl) ?_
            (try simp only [Act.put, List.setIfInBounds_toArray, List.set_cons_zero, List.set_cons_succ])
            refine ord_skip (by rfl) (by kernel_rfl) ?_
            (try simp only [Act.put, List.setIfInBounds_toArray, List.set_cons_zero, List.set_cons_succ])
            refine ord_skip (by rfl) (by kernel_rfl) ?_
            (try simp only [Act.put, List.setIfInBounds_toArray, List.set_cons_zero, List.set_cons_succ])
            refine ord_skip (by rfl) (by kernel_rfl) ?_
            (try simp only [Act.put, List.setIfInBounds_toArray, List.set_cons_zero, List.set_cons_succ])
            refine ord_skip (by rfl) (by kernel_rfl) ?_
            (try simp only [Act.put, List.setIfInBounds_toArray, List.set_cons_zero, List.set_cons_succ])
            refine ord_skip (by rfl) (by kernel_rfl) ?_
            (try simp only [Act.put, List.setIfInBounds_toArray, List.set_cons_zero, List.set_cons_succ])
            refine ord_take (v := ?_) (by rfl) (by rfl) ?_ ?_
            rotate_left
            focus (intro W hSw; (try dsimp only at hSw); go_simp; (try with_reducible rfl))
            (try simp only [Act.put, List.setIfInBounds_toArray, List.set_cons_zero, List.set_cons_succ])
            refine ord_take (v := ?_) (by rfl) (by rfl) ?_ ?_
            rotate_left
            focus (intro W hSw; (try dsimp only at hSw); go_simp; (try with_reducible rfl))
            (try simp only [Act.put, List.setIfInBounds_toArray, List.set_cons_zero, List.set_cons_succ])
            refine ord_take (v := ?_) (by rfl) (by rfl) ?_ ?_
            rotate_left
            focus (intro W hSw; (try dsimp only at hSw); go_simp; (try with_reducible rfl))
            (try simp only [Act.put, List.setIfInBounds_toArray, List.set_cons_zero, List.set_cons_succ])
            refine ord_take (v := ?_) (by rfl) (by rfl) ?_ ?_
            rotate_left
            focus (intro W hSw; (try dsimp only at hSw); go_simp; (try with_reducible rfl))
            (try simp only [Act.put, List.setIfInBounds_toArray, List.set_cons_zero, List.set_cons_succ])
            refine ord_take (v := ?_) (by rfl) (by rfl) ?_ ?_
            rotate_left
            focus (intro W hSw; (try dsimp only at hSw); go_simp; (try with_reducible rfl))
            (try simp only [Act.put, List.setIfInBounds_toArray, List.set_cons_zero, List.set_cons_succ])
            refine ord_take (v := ?_) (by rfl) (by rfl) ?_ ?_
            rotate_left
            focus (intro W hSw; (try dsimp only at hSw); go_simp; (try with_reducible rfl))
            (try simp only [Act.put, List.setIfInBounds_toArray, List.set_cons_zero, List.set_cons_succ])
            refine ord_take (v := ?_) (by rfl) (by rfl) ?_ ?_
            rotate_left
            focus (intro W hSw; (try dsimp only at hSw); go_simp; (try with_reducible rfl))
            (try simp only [Act.put, List.setIfInBounds_toArray, List.set_cons_zero, List.set_cons_succ])
            refine ord_take (v := ?_) (by rfl) (by rfl) ?_ ?_
            rotate_left
            focus (intro W hSw; (try dsimp only at hSw); go_simp; (try with_reducible rfl))
            (try simp only [Act.put, List.setIfInBounds_toArray, List.set_cons_zero, List.set_cons_succ])
            refine ord_take (v := ?_) (by rfl) (by rfl) ?_ ?_
            rotate_left
            focus (intro W hSw; (try dsimp only at hSw); go_simp; (try with_reducible rfl))
            (try simp only [Act.put, List.setIfInBounds_toArray, List.set_cons_zero, List.set_cons_succ])
            refine ord_take (v := ?_) (by rfl) (by rfl) ?_ ?_
            rotate_left
            focus (intro W hSw; (try dsimp only at hSw); go_simp; (try with_reducible rfl))
            (try simp only [Act.put, List.setIfInBounds_toArray, List.set_cons_zero, List.set_cons_succ])
            refine ord_take (v := ?_) (by rfl) (by rfl) ?_ ?_
            rotate_left
            focus (intro W hSw; (try dsimp only at hSw); go_simp; (try with_reducible rfl))
            (try simp only [Act.put, List.setIfInBounds_toArray, List.set_cons_zero, List.set_cons_succ])
            refine ord_end ?_
            refine NoPanic.normal ?_
            go_wp2_with fail
            go_roundw
            case rel => exact ⟨y + 1, s', _, _, R', by go_num, by omega, hlR, Hd⟩
            case measure => simp [intOf]; omega
          · obtain ⟨q, hq, h1, h2, h3⟩ := place HZ.out.once hh
            obtain ⟨⟨z1, z2, z3, z4⟩, hz⟩ : ∃ z, z = keyS (srt R') id := ⟨_, rfl⟩
            rw [← hz] at h3
            have HV := Lib.hid (keyV_yes (S := srt R') (by rw [hasS_srt]; exact hh) hz.symm)
            have HF := Lib.hid (fun W (hW : R2 W r si' sk' (ids R') (kys R')) => find_yes r si' sk' (ids R') (kys R') id q W hW (by simp [ids]; omega) (by simpa [ids] using hq) h1 h2)
            have HSm := Lib.hid (same_any (z1, z2, z3, z4))
            obtain ⟨bi, ci, _, ei, _⟩ := HZ.out.r2.oi.of_pos (by simp [ids]; omega)
            obtain ⟨bk, ck, _, ek, _⟩ := HZ.out.r2.ok.of_pos (by simp [kys]; omega)
            obtain ⟨n, hn⟩ : ∃ n, n = R'.length := ⟨_, rfl⟩
            have en1 : (ids R').length = n := by rw [hn]; simp [ids]
            have en2 : (kys R').length = n := by rw [hn]; simp [kys]
            rw [en1] at ei
            rw [en2] at ek
            subst ei ek
            have HLn := Lib.hid (show (srt R').length = n by rw [srt_len, hn])
            have HC := Lib.hid (fun (W : World) (b13 : Nat) (h : R2 W r (.slice (some ⟨bi, 0, none⟩) n ci) (.slice (some ⟨bk, 0, none⟩) n ck) (ids R') (kys R')) (hb : Blk W b13 24 #[.int .u64 z1, .int .u64 z2, .int .i64 z3, .int .i64 z4]) => cells22 (q := q) h en2 (by omega) h3 hb)
            have q0 : (0 : Int) ≤ (q : Int) := by omega
            have q1 : (q : Int) < (n : Int) := by omega
            have HnR := Lib.hid (show R'.length = n from hn.symm)
            have k1 := KZ.out.cell 1
            simp at k1
            clear hz h1 h2 h3 hh hq hn en1 en2
            go_wp2_with fail
            refine (sys_key HZ.out.sys HLk.out id HV.out).mono ?_
            rintro e w3 ⟨rfl, _, hb⟩
            have H3 := Lib.hid (HZ.out.mono hb)
            have K3 := Lib.hid (KZ.out.below hb KZ.out.lt)
            clear hb
            have k2 := K3.out.cell 1
            simp at k2
            have H4 := Lib.hid (H3.out.mono ((Below.refl _ _).alloc (Nat.le_refl _) (.cells #[.int .u64 z1, .int .u64 z2, .int .i64 z3, .int .i64 z4] 24)))
            have Q4 := Lib.hid (Blk.new w3 24 #[.int .u64 z1, .int .u64 z2, .int .i64 z3, .int .i64 z4])
            have k3 := (K3.out.alloc (.cells #[.int .u64 z1, .int .u64 z2, .int .i64 z3, .int .i64 z4] 24)).cell 1
            simp at k3
            have hl3 := K3.out.lt
            go_wp2_with fail
            refine (HF.out _ H4.out.r2).mono ?_
            rintro e w5 ⟨rfl, rfl⟩
            have Hd := Lib.hid (H4.out.mono (w' := (w3.alloc (.cells #[.int .u64 z1, .int .u64 z2, .int .i64 z3, .int .i64 z4] 24)).drew) (by go_grown))
            have Qd := Lib.hid Q4.out.drew
            clear k1 k2 k3 hl3
            go_wp2_with fail
            refine wp_region_noPanic ?_
            refine wp_region_ord (fun W => W.cell? ⟨r, 0, none⟩ = some (.slice (some ⟨bi, 0, none⟩) n ci) ∧ W.cell? ⟨r, 1, none⟩ = some (.slice (some ⟨bk, 0, none⟩) n ck) ∧ W.cell? ⟨bk, q * 4, none⟩ = some (.int .u64 z1) ∧ W.cell? ⟨bk, q * 4 + 1, none⟩ = some (.int .u64 z2) ∧ W.cell? ⟨bk, q * 4 + 2, none⟩ = some (.int .i64 z3) ∧ W.cell? ⟨bk, q * 4 + 3, none⟩ = some (.int .i64 z4) ∧ W.cell? ⟨w3.heap.size, 0, none⟩ = some (.int .u64 z1) ∧ W.cell? ⟨w3.heap.size, 1, none⟩ = some (.int .u64 z2) ∧ W.cell? ⟨w3.heap.size, 2, none⟩ = some (.int .i64 z3) ∧ W.cell? ⟨w3.heap.size, 3, none⟩ = some (.int .i64 z4)) [(false, 0), (false, 2), (false, 3), (false, 4), (false, 5), (false, 6), (true, 1), (false, 7), (false, 8), (false, 9), (false, 10), (false, 11), (false, 12), (false, 13), (false, 14), (false, 15), (false, 16), (false, 17), (false, 18), (false, 19), (false, 20), (false, 21), (false, 22), (false, 23), (false, 24), (true, 25), (false, 26), (false, 27), (false, 28), (false, 29), (false, 30), (false, 31), (false, 32), (false, 33), (false, 34), (false, 35), (false, 36), (false, 37)] (by kernel_rfl) (by kernel_rfl) (fun _ _ _ _ _ h => h) (HC.out _ _ Hd.out.r2 Qd.out) ?_
            refine ord_take (v := ?_) (by rfl) (by rfl) ?_ ?_
            rotate_left
            focus (intro W hSw; (try dsimp only at hSw); go_simp; (try with_reducible rfl))
            (try simp only [Act.put, List.setIfInBounds_toArray, List.set_cons_zero, List.set_cons_succ])
            refine ord_take (v := ?_) (by rfl) (by rfl) ?_ ?_
            rotate_left
            focus (intro W hSw; (try dsimp only at hSw); go_simp; (try with_reducible rfl))
            (try simp only [Act.put, List.setIfInBounds_toArray, List.set_cons_zero, List.set_cons_succ])
            refine ord_take (v := ?_) (by rfl) (by rfl) ?_ ?_
            rotate_left
            focus (intro W hSw; (try dsimp only at hSw); go_simp; (try with_reducible rfl))
            (try simp only [Act.put, List.setIfInBounds_toArray, List.set_cons_zero, List.set_cons_succ])
            refine ord_take (v := ?_) (by rfl) (by rfl) ?_ ?_
            rotate_left
            focus (intro W hSw; (try dsimp only at hSw); go_simp; (try with_reducible rfl))
            (try simp only [Act.put, List.setIfInBounds_toArray, List.set_cons_zero, List.set_cons_succ])
            refine ord_take (v := ?_) (by rfl) (by rfl) ?_ ?_
            rotate_left
            focus (intro W hSw; (try dsimp only at hSw); go_simp; (try with_reducible rfl))
            (try simp only [Act.put, List.setIfInBounds_toArray, List.set_cons_zero, List.set_cons_succ])
            refine ord_take (v := ?_) (by rfl) (by rfl) ?_ ?_
            rotate_left
            focus (intro W hSw; (try dsimp only at hSw); go_simp; (try with_reducible rfl))
            (try simp only [Act.put, List.setIfInBounds_toArray, List.set_cons_zero, List.set_cons_succ])
            refine ord_call (by rfl) (by rfl) (fun K' hK => ?_)
            go_simp
            go_at_call 25
            refine (sys_len Hd.out.sys).mono ?_
            rintro e w9 ⟨rfl, hww⟩
            subst hww
            rw [HLn.out]
            refine hK.out _ _ (HC.out _ _ Hd.out.r2 Qd.out) ?_
            clear hK K'
            (try simp only [Act.put, List.setIfInBounds_toArray, List.set_cons_zero, List.set_cons_succ])
            refine ord_take (v := ?_) (by rfl) (by rfl) ?_ ?_
            rotate_left
            focus (intro W hSw; (try dsimp only at hSw); go_simp; (try with_reducible rfl))
            (try simp only [Act.put, List.setIfInBounds_toArray, List.set_cons_zero, List.set_cons_succ])
            refine ord_take (v := ?_) (by rfl) (by rfl) ?_ ?_
            rotate_left
            focus (intro W hSw; (try dsimp only at hSw); go_simp; (try with_reducible rfl))
            (try simp only [Act.put, List.setIfInBounds_toArray, List.set_cons_zero, List.set_cons_succ])
            refine ord_take (v := ?_) (by rfl) (by rfl) ?_ ?_
            rotate_left
            focus (intro W hSw; (try dsimp only at hSw); go_simp; (try with_reducible rfl))
            (try simp only [Act.put, List.setIfInBounds_toArray, List.set_cons_zero, List.set_cons_succ])
            refine ord_take (v := ?_) (by rfl) (by rfl) ?_ ?_
            rotate_left
            focus (intro W hSw; (try dsimp only at hSw); go_simp; (try with_reducible rfl))
            (try simp only [Act.put, List.setIfInBounds_toArray, List.set_cons_zero, List.set_cons_succ])
            refine ord_take (v := ?_) (by rfl) (by rfl) ?_ ?_
            rotate_left
            focus (intro W hSw; (try dsimp only at hSw); go_simp; (try with_reducible rfl))
            (try simp only [Act.put, List.setIfInBounds_toArray, List.set_cons_zero, List.set_cons_succ])
            refine ord_take (v := ?_) (by rfl) (by rfl) ?_ ?_
            rotate_left
            focus (intro W hSw; (try dsimp only at hSw); go_simp; (try with_reducible rfl))
            (try simp only [Act.put, List.setIfInBounds_toArray, List.set_cons_zero, List.set_cons_succ])
            refine ord_take (v := ?_) (by rfl) (by rfl) ?_ ?_
            rotate_left
            focus (intro W hSw; (try dsimp only at hSw); go_simp; (try with_reducible rfl))
            (try simp only [Act.put, List.setIfInBounds_toArray, List.set_cons_zero, List.set_cons_succ])
            refine ord_take (v := ?_) (by rfl) (by rfl) ?_ ?_
            rotate_left
            focus (intro W hSw; (try dsimp only at hSw); go_simp; (try with_reducible rfl))
            (try simp only [Act.put, List.setIfInBounds_toArray, List.set_cons_zero, List.set_cons_succ])
            refine ord_take (v := ?_) (by rfl) (by rfl) ?_ ?_
            rotate_left
            focus (intro W hSw; (try dsimp only at hSw); go_simp; (try with_reducible rfl))
            (try simp only [Act.put, List.setIfInBounds_toArray, List.set_cons_zero, List.set_cons_succ])
            refine ord_take (v := ?_) (by rfl) (by rfl) ?_ ?_
            rotate_left
            focus (intro W hSw; (try dsimp only at hSw); go_simp; (try with_reducible rfl))
            (try simp only [Act.put, List.setIfInBounds_toArray, List.set_cons_zero, List.set_cons_succ])
            refine ord_take (v := ?_) (by rfl) (by rfl) ?_ ?_
            rotate_left
            focus (intro W hSw; (try dsimp only at hSw); go_simp; (try with_reducible rfl))
            (try simp only [Act.put, List.setIfInBounds_toArray, List.set_cons_zero, List.set_cons_succ])
            refine ord_take (v := ?_) (by rfl) (by rfl) ?_ ?_
            rotate_left
            focus (intro W hSw; (try dsimp only at hSw); go_simp; (try with_reducible rfl))
            (try simp only [Act.put, List.setIfInBounds_toArray, List.set_cons_zero, List.set_cons_succ])
            refine ord_take (v := ?_) (by rfl) (by rfl) ?_ ?_
            rotate_left
            focus (intro W hSw; (try dsimp only at hSw); go_simp; (try with_reducible rfl))
            (try simp only [Act.put, List.setIfInBounds_toArray, List.set_cons_zero, List.set_cons_succ])
            refine ord_take (v := ?_) (by rfl) (by rfl) ?_ ?_
            rotate_left
            focus (intro W hSw; (try dsimp only at hSw); go_simp; (try with_reducible rfl))
            (try simp only [Act.put, List.setIfInBounds_toArray, List.set_cons_zero, List.set_cons_succ])
            refine ord_take (v := ?_) (by rfl) (by rfl) ?_ ?_
            rotate_left
            focus (intro W hSw; (try dsimp only at hSw); go_simp; (try with_reducible rfl))
            (try simp only [Act.put, List.setIfInBounds_toArray, List.set_cons_zero, List.set_cons_succ])
            refine ord_take (v := ?_) (by rfl) (by rfl) ?_ ?_
            rotate_left
            focus (intro W hSw; (try dsimp only at hSw); go_simp; (try with_reducible rfl))
            (try simp only [Act.put, List.setIfInBounds_toArray, List.set_cons_zero, List.set_cons_succ])
            refine ord_take (v := ?_) (by rfl) (by rfl) ?_ ?_
            rotate_left
            focus (intro W hSw; (try dsimp only at hSw); go_simp; (try with_reducible rfl))
            (try simp only [Act.put, List.setIfInBounds_toArray, List.set_cons_zero, List.set_cons_succ])
            refine ord_take (v := ?_) (by rfl) (by rfl) ?_ ?_
            rotate_left
            focus (intro W hSw; (try dsimp only at hSw); go_simp; (try with_reducible rfl))
            (try simp only [Act.put, List.setIfInBounds_toArray, List.set_cons_zero, List.set_cons_succ])
            refine ord_call (by rfl) (by rfl) (fun K' hK => ?_)
            go_simp
            go_at_call 22
            refine (HSm.out _).mono ?_
            rintro e w9 ⟨rfl, hb⟩
            have He := Lib.hid (Hd.out.mono hb)
            have Qe := Lib.hid (Qd.out.below hb Qd.out.lt)
            clear hb
            refine hK.out _ _ (HC.out _ _ He.out.r2 Qe.out) ?_
            clear hK K'
            (try simp only [Act.put, List.setIfInBounds_toArray, List.set_cons_zero, List.set_cons_succ])
            refine ord_take (v := ?_) (by rfl) (by rfl) ?_ ?_
            rotate_left
            focus (intro W hSw; (try dsimp only at hSw); go_simp; (try with_reducible rfl))
            (try simp only [Act.put, List.setIfInBounds_toArray, List.set_cons_zero, List.set_cons_succ])
            refine ord_take (v := ?_) (by rfl) (by rfl) ?_ ?_
            rotate_left
            focus (intro W hSw; (try dsimp only at hSw); go_simp; (try with_reducible rfl))
            (try simp only [Act.put, List.setIfInBounds_toArray, List.set_cons_zero, List.set_cons_succ])
            refine ord_take (v := ?_) (by rfl) (by rfl) ?_ ?_
            rotate_left
            focus (intro W hSw; (try dsimp only at hSw); go_simp; (try with_reducible rfl))
            (try simp only [Act.put, List.setIfInBounds_toArray, List.set_cons_zero, List.set_cons_succ])
            refine ord_take (v := ?_) (by rfl) (by rfl) ?_ ?_
            rotate_left
            focus (intro W hSw; (try dsimp only at hSw); go_simp; (try with_reducible rfl))
            (try simp only [Act.put, List.setIfInBounds_toArray, List.set_cons_zero, List.set_cons_succ])
            refine ord_take (v := ?_) (by rfl) (by rfl) ?_ ?_
            rotate_left
            focus (intro W hSw; (try dsimp only at hSw); go_simp; (try with_reducible rfl))
            (try simp only [Act.put, List.setIfInBounds_toArray, List.set_cons_zero, List.set_cons_succ])
            refine ord_take (v := ?_) (by rfl) (by rfl) ?_ ?_
            rotate_left
            focus (intro W hSw; (try dsimp only at hSw); go_simp; (try with_reducible rfl))
            (try simp only [Act.put, List.setIfInBounds_toArray, List.set_cons_zero, List.set_cons_succ])
            refine ord_take (v := ?_) (by rfl) (by rfl) ?_ ?_
            rotate_left
            focus (intro W hSw; (try dsimp only at hSw); go_simp; (try with_reducible rfl))
            (try simp only [Act.put, List.setIfInBounds_toArray, List.set_cons_zero, List.set_cons_succ])
            refine ord_skip (by rfl) (by kernel_rfl) ?_
            (try simp only [Act.put, List.setIfInBounds_toArray, List.set_cons_zero, List.set_cons_succ])
            refine ord_skip (by rfl) (by kernel_rfl) ?_
            (try simp only [Act.put, List.setIfInBounds_toArray, List.set_cons_zero, List.set_cons_succ])
            refine ord_skip (by rfl) (by kernel_rfl) ?_
            (try simp only [Act.put, List.setIfInBounds_toArray, List.set_cons_zero, List.set_cons_succ])
            refine ord_take (v := ?_) (by rfl) (by rfl) ?_ ?_
            rotate_left
            focus (intro W hSw; (try dsimp only at hSw); go_simp; (try with_reducible rfl))
            (try simp only [Act.put, List.setIfInBounds_toArray, List.set_cons_zero, List.set_cons_succ])
            refine ord_take (v := ?_) (by rfl) (by rfl) ?_ ?_
            rotate_left
            focus (intro W hSw; (try dsimp only at hSw); go_simp; (try with_reducible rfl))
            (try simp only [Act.put, List.setIfInBounds_toArray, List.set_cons_zero, List.set_cons_succ])
            refine ord_end ?_
            refine NoPanic.normal ?_
            go_wp2_with fail
            go_roundw
            case rel => exact ⟨y + 1, s', _, _, R', by go_num, by omega, hlR, He⟩
            case measure => simp [intOf]; omega
      · have t3 : ¬ (y : Int) < (l.length : Int) := by omega
        have hRl : R.length ≤ 150 := by omega
        go_wp2_with fail
        clear t3 H1 S1
        go_loopg [] R.length (fun gk wr => ∃ (s si sk : Value) (R : List Th), R.length = gk ∧ R.length ≤ 150 ∧ Hid (HP w wr p s m (srt R) r si sk R))
        case atStart => exact ⟨_, _, _, R, rfl, hRl, HG⟩
        case round =>
          obtain ⟨s, si, sk, R, hgk, hR, HG⟩ := hrel
          obtain ⟨R', ho2, htail, hlen, hcall⟩ := rpop_any R HG.out.once (by omega)
          have HR2 := Lib.hid htail
          have HO2 := Lib.hid ho2
          have HRC := Lib.hid hcall
          have HL2 := Lib.hid (show (srt R).length ≤ 1000000 by rw [srt_len]; omega)
          obtain ⟨ai, ci, ei⟩ := HG.out.r2.oi.of_any
          obtain ⟨n, hn⟩ : ∃ n, n = R.length := ⟨_, rfl⟩
          have en1 : (ids R).length = n := by rw [hn]; simp [ids]
          rw [en1] at ei
          have c0 := HG.out.r2.blk.cell 0
          rw [ei] at c0
          simp at c0
          clear ho2 htail hcall ei en1
          by_cases h0 : 0 < n
          · have t4 : (0 : Int) < (n : Int) := by omega
            obtain ⟨v, z1, z2, z3, z4, bb, hV, hbb⟩ := popV_any (srt R)
            obtain rfl : bb = true := hbb.2 (fun e => by have := srt_len R; rw [e] at this; simp at this; omega)
            rw [hV] at HRC
            have HV := Lib.hid hV
            have HSm := Lib.hid (same_any (z1, z2, z3, z4))
            clear hV hbb
            go_wp2_with fail
            refine (sys_pop HG.out.sys HL2.out HV.out HR2.out).mono ?_
            rintro e w3 ⟨s3, rfl, hs, hf⟩
            have H3 := Lib.hid (HG.out.heap hs hf)
            clear hs hf c0
            go_wp2_with fail
            have H4 := Lib.hid (H3.out.mono ((Below.refl _ _).alloc (Nat.le_refl _) (.cells #[.int .u64 z1, .int .u64 z2, .int .i64 z3, .int .i64 z4] 24)))
            have Q4 := Lib.hid (Blk.new w3 24 #[.int .u64 z1, .int .u64 z2, .int .i64 z3, .int .i64 z4])
            have NQ := Lib.hid (H3.out.far (Nat.le_refl _)).2
            refine (HRC.out r si sk _ H4.out.r2).mono ?_
            rintro e w5 ⟨si', sk', rfl, h2, hk, hf⟩
            have HZ := Lib.hid (H4.out.ref h2 hk hf HO2.out)
            have q5 := hk.blk Q4.out NQ.out
            have u0 := q5.cell 0
            have u1 := q5.cell 1
            have u2 := q5.cell 2
            have u3 := q5.cell 3
            simp at u0 u1 u2 u3
            have hlt5 := q5.lt
            clear h2 hk hf q5
            go_wp2_with fail
            refine (HSm.out _).mono ?_
            rintro e w6 ⟨rfl, hb⟩
            have hb' := ((Below.refl w5.heap.size w5).alloc (Nat.le_refl _) (.cells #[.int .u64 z1, .int .u64 z2, .int .i64 z3, .int .i64 z4] 28)).trans (hb.mono (by simp))
            have HZ6 := Lib.hid (HZ.out.mono hb')
            clear hb hb'
            go_wp2_with fail
            go_roundg (n - 1)
            case measure => omega
            case rel => exact ⟨_, _, _, R', by omega, by omega, HZ6⟩
          · have t4 : ¬ (0 : Int) < (n : Int) := by omega
            obtain rfl : R = [] := List.eq_nil_of_length_eq_zero (by omega)
            obtain rfl : n = 0 := by omega
            clear hgk hn
            go_wp2_with fail
            refine (sys_pop HG.out.sys (by simp [srt]) (V := .tuple #[.int .i64 0, .agg #[.int .u64 0, .int .u64 0, .int .i64 0, .int .i64 0], .bool false]) rfl rfl).mono ?_
            rintro e w3 ⟨s3, rfl, hs, hf⟩
            have H3 := Lib.hid (HG.out.heap hs hf)
            clear hs hf c0
            have H4 := Lib.hid (H3.out.mono ((Below.refl _ _).alloc (Nat.le_refl _) (.cells #[.int .u64 0, .int .u64 0, .int .i64 0, .int .i64 0] 24)))
            go_wp2_with fail
            refine (sys_len H4.out.sys).mono ?_
            rintro e w5 ⟨rfl, rfl⟩
            rw [show ((srt ([] : List Th)).tail).length = 0 from rfl]
            go_wp2_with fail
            refine (awake_true _).mono ?_
            rintro e w6 ⟨rfl, hb⟩
            have HB := Lib.hid (bl H4.out.sys.below hb)
            clear hb
            go_wp2_with fail
            go_ret
            exact ⟨rfl, HB.out⟩
end Go.Proofs.Ytffgjjlamdaajaa
