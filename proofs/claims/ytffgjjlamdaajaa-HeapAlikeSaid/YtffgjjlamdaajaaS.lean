/- In whatever order things are put in: the law returns true. -/
import Derived.Test.YtffgjjlamdaajaaR
import Derived.BigRegion
namespace Go.Proofs.Ytffgjjlamdaajaa
open Go.RowKit

theorem Sys.rot2 {w0 w : World} {L : List HD} {d e c : HD} (h : Sys w0 w (d :: e :: c :: L)) : Sys w0 w (e :: c :: d :: L) := h.rot.rot
theorem Out.rot2 {L : List HD} {d e c : HD} {k : Nat} (h : Out (d :: e :: c :: L) k) : Out (e :: c :: d :: L) k := h.rot.rot
theorem Row.rot2 {w0 : World} {L : List HD} {d e c : HD} {z : Value} (h : Row w0 (d :: e :: c :: L) z) : Row w0 (e :: c :: d :: L) z := fun b hb => ⟨(h b hb).1, (h b hb).2.rot2⟩

/-- Heaps, a row of numbers and a key, each of its own. -/
structure G3 (w wr : World) (z : Value) (n : Nat) (T : List Int) (c : Nat) (L : List HD) : Prop where
  sys : Sys w wr L
  own : Own wr 3 1 z n (ints T)
  row : Row w L z
  blk : Blk wr c 24 #[.int .u64 18446744073709551615, .int .u64 18446744073709551615, .int .i64 9223372036854775807, .int .i64 9223372036854775807]
  out : Out L c
section
variable {w wr w' : World} {z : Value} {n : Nat} {T : List Int} {c : Nat} {L L' : List HD}
theorem G3.call (h : G3 w wr z n T c L) (hs : Sys w w' L') (hf : Far wr L w' L') : G3 w w' z n T c L' :=
  ⟨hs, (h.row.far hf h.own).2, (h.row.far hf h.own).1, hf.blk h.blk h.out, hf.out h.blk.lt h.out⟩
theorem G3.rot2 {d e f : HD} (h : G3 w wr z n T c (d :: e :: f :: L)) : G3 w wr z n T c (e :: f :: d :: L) := ⟨h.sys.rot2, h.own, h.row.rot2, h.blk, h.out.rot2⟩
theorem G3.drewN (h : G3 w wr z n T c L) (k : Nat) : G3 w (wr.drewN k) z n T c L :=
  have hb : Below wr.heap.size wr (wr.drewN k) := below_drewN (Below.refl _ _) _
  ⟨h.sys.mono hb, h.own, h.row, h.blk, h.out⟩
end

/-- A number brought to a place. -/
theorem place (x : Int) {n : Nat} (h0 : 0 < n) (hn : n ≤ 100) :
    IntKind.i64.wrap (x.tmod n) = x.tmod n ∧ IntKind.i64.wrap (x.tmod n + n) = x.tmod n + n ∧ ∃ A : Nat, A < n ∧ IntKind.i64.wrap ((x.tmod n + n).tmod n) = A ∧ (x.tmod n + n).tmod n = (A : Int) := by
  have h1 : -(n : Int) < x.tmod n := by
    have := Int.lt_tmod_of_pos x (show (0 : Int) < n by omega)
    omega
  have h2 : x.tmod n < n := Int.tmod_lt_of_pos x (by omega)
  have h3 : 0 ≤ (x.tmod n + n).tmod n := Int.tmod_nonneg _ (by omega)
  have h4 : (x.tmod n + n).tmod n < n := Int.tmod_lt_of_pos _ (by omega)
  refine ⟨IntWalk.i64_in _ (by omega), IntWalk.i64_in _ (by omega), ((x.tmod n + n).tmod n).toNat, by omega, ?_, by omega⟩
  rw [IntWalk.i64_in _ (by omega)]
  omega

set_option maxHeartbeats 8000000 in
set_option maxRecDepth 100000 in
theorem wAlike (a a' : Option Addr) (cap cap' : Nat) (l : List Ky) (sw : List Int) (w : World) (hR : RowK w a l) (hL : l.length ≤ 9223372036854775807) (hI : RowI w a' sw) (hL' : sw.length ≤ 9223372036854775807) (hF : ∀ x ∈ l, FitK x) :
    Calls Try.prog 5 #[.slice a l.length cap, .slice a' sw.length cap'] w fun e w' => e = .returned (.bool true) ∧ Below w.heap.size w w' := by
  obtain ⟨i0, hi0, hz0, hz1, hz2⟩ := info_parts info3z
  have HR := Lib.hid hR
  have HI := Lib.hid hI
  have HF := Lib.hid hF
  clear hR hI hF
  by_cases hg : 100 < l.length ∨ 200 < sw.length
  · by_cases h1 : 100 < l.length
    · have t1 : (100 : Int) < (l.length : Int) := by omega
      go_enter Try.func5, Try.ntmps5
      go_wp2_with fail
      refine (awake_true _).mono ?_
      rintro e w5 ⟨rfl, hb⟩
      have HB5 := Lib.hid hb
      clear hb
      go_wp2_with fail
      go_ret
      exact ⟨rfl, HB5.out⟩
    · have t1 : ¬ (100 : Int) < (l.length : Int) := by omega
      have t2 : (200 : Int) < (sw.length : Int) := by omega
      go_enter Try.func5, Try.ntmps5
      go_wp2_with fail
      refine (awake_true _).mono ?_
      rintro e w5 ⟨rfl, hb⟩
      have HB5 := Lib.hid hb
      clear hb
      go_wp2_with fail
      go_ret
      exact ⟨rfl, HB5.out⟩
  · have t1 : ¬ (100 : Int) < (l.length : Int) := by omega
    have t2 : ¬ (200 : Int) < (sw.length : Int) := by omega
    have hl : l.length ≤ 100 := by omega
    have hs : sw.length ≤ 200 := by omega
    clear hg
    go_enter Try.func5, Try.ntmps5
    go_wp2_with fail
    clear t1 t2
    go_loopw [5, 6] (fun o i wr => ∃ (y : Nat), i = .int .i64 y ∧ y ≤ l.length ∧ Hid (Own wr 3 1 o y (ints (upto y))) ∧ Hid (Row w [] o) ∧ Hid (Below w.heap.size w wr))
      (fun _ i _ => l.length - (intOf i).toNat)
    case atStart =>
      exact ⟨0, rfl, by omega, Lib.hid (Own.mk (Blk.new w 3 #[]) (by omega) (by omega) rfl rfl), Lib.hid (fun b hb => by
        simp only [Value.ownBlock, Option.some.injEq] at hb
        subst hb
        exact ⟨Nat.le_refl _, fun _ h => by simp at h⟩), Lib.hid (by go_grown)⟩
    case round =>
      obtain ⟨y, rfl, hy, HO, HW, HB⟩ := hrel
      obtain ⟨ao, co, rfl⟩ := HO.out.of_any
      by_cases hyl : y < l.length
      · have t3 : (y : Int) < (l.length : Int) := by omega
        go_wp2_with (at_builtin; refine wpList_append_fresh _ rfl _ _ 37 rfl 3 i0 (.int .i64 0) 1 8 Try.underlying37 hi0 hz0 hz1 hz2 rfl (by decide) _ _ _ rfl (HO.out.alloc _) (some ⟨wr.heap.size, 0, none⟩) 1 1 [.int .i64 y] rfl rfl (fun _ => ⟨_, rfl, cell_one_new _ _ _⟩) (by simp [Value.oneCell']) (by simp [maxLen]; omega) (by omega) ?_; intro v' w2 ho2 hg2 hf2)
        have hq := row_grown HW.out (show Sys w (wr.alloc (.cells #[.int .i64 y] 3)) [] from ⟨bl HB.out (by go_grown), by simp, List.Pairwise.nil⟩) hg2 hf2
        have HO2 := Lib.hid (show Own w2 3 1 v' (y + 1) (ints (upto (y + 1))) by rw [upto_succ, ints_app]; exact ho2)
        have HW2 := Lib.hid hq.2.1
        have HB2 := Lib.hid hq.1.below
        clear ho2 hg2 hf2 hq
        go_wp2_with fail
        go_roundw
        case rel => exact ⟨y + 1, by go_num, by omega, HO2, HW2, HB2⟩
        case measure => simp [intOf]; omega
      · obtain rfl : y = l.length := by omega
        have t3 : ¬ (l.length : Int) < (l.length : Int) := by omega
        have HP := Lib.hid (List.Perm.refl (upto l.length))
        go_wp2_with fail
        clear t3
        go_loopw [7] (fun i wx => ∃ (y : Nat) (T : List Int), i = .int .i64 y ∧ y ≤ 202 ∧ Hid (T.Perm (upto l.length)) ∧ Hid (Own wx 3 1 (.slice ao l.length co) l.length (ints T)) ∧ Hid (Below w.heap.size w wx))
          (fun i _ => 202 - (intOf i).toNat)
        case atStart => exact ⟨0, _, rfl, by omega, HP, HO, HB⟩
        case round =>
          obtain ⟨y, T, rfl, hy, HT, HO, HB⟩ := hrel
          by_cases hc : y + 1 < sw.length ∧ 0 < l.length
          · obtain ⟨hys, h0⟩ := hc
            · have t4 : (y : Int) + 1 < (sw.length : Int) := by omega
              have t4' : (y : Int) < (sw.length : Int) := by omega
              have t5 : (0 : Int) < (l.length : Int) := by omega
              obtain ⟨b, off, rfl, hb, c0⟩ := HI.out.at_ HB.out (i := y) (by omega)
              obtain ⟨b', off', e1, _, c1⟩ := HI.out.at_ HB.out (i := y + 1) (by omega)
              simp only [Option.some.injEq, Addr.mk.injEq, and_true] at e1
              obtain ⟨rfl, rfl⟩ := e1
              generalize sw.getD y 0 = x at *
              generalize sw.getD (y + 1) 0 = z at *
              obtain ⟨px1, px2, A, hA, px3, px4⟩ := place x h0 hl
              obtain ⟨pz1, pz2, B, hB, pz3, pz4⟩ := place z h0 hl
              have t6 : ¬ (l.length : Int) = 0 := by omega
              have t7 : (0 : Int) ≤ (y : Int) := by omega
              have HTl := Lib.hid (show T.length = l.length by rw [HT.out.length_eq, upto_len])
              obtain ⟨bo, cc, cu, eo, hbo, _⟩ := HO.out.of_pos (by omega)
              simp only [Value.slice.injEq, true_and] at eo
              obtain ⟨rfl, rfl⟩ := eo
              have dA := own_int HO.out (i := A) (by rw [HTl.out]; exact hA)
              have dB := own_int HO.out (i := B) (by rw [HTl.out]; exact hB)
              have dB2 := own_int (own_put HO.out hA (T.getD B 0)) (i := B) (by rw [List.length_set, HTl.out]; exact hB)
              have fr : ∀ o, wr.frozen? ⟨bo, o, none⟩ = false := fun o => hbo.frozen o
              have HSw := Lib.hid (own_swap HO.out hA hB)
              have HTp := Lib.hid ((ixS_perm (R := T) (a := A) (b := B) (by rw [HTl.out]; exact hA) (by rw [HTl.out]; exact hB)).trans HT.out)
              have HWb := Lib.hid ((HW.out bo rfl).1)
              generalize (T.set A (T.getD B 0)).getD B 0 = uv at *
              generalize T.getD A 0 = u at *
              generalize T.getD B 0 = v at *
              have j0 : (0 : Int) ≤ (A : Int) := by omega
              have j1 : (A : Int) < (l.length : Int) := by omega
              have j2 : (0 : Int) ≤ (B : Int) := by omega
              have j3 : (B : Int) < (l.length : Int) := by omega
              clear hbo
              go_wp2_with fail
              go_region
              go_wp2_with fail
              generalize hwq : World.drew (World.setCell (World.setCell _ _ _) _ _) = wq
              have HO2 := Lib.hid (show Own wq 3 1 (.slice (some ⟨bo, 0, none⟩) l.length co) l.length (ints (ixS T A B)) by rw [← hwq]; exact own_drew HSw.out)
              have HB2 := Lib.hid (show Below w.heap.size w wq by
                rw [← hwq]
                exact HB.out.trans ((((Kept.refl (fun q => q = bo) wr).setCell (p := ⟨bo, A, none⟩) (.inl rfl) _).setCell (p := ⟨bo, B, none⟩) (.inl rfl) _).drew.below (fun q _ e => by subst e; exact HWb.out) HB.out.size))
              clear hwq dA dB dB2 fr c0 c1
              go_wp2_with fail
              go_roundw
              case rel => exact ⟨y + 2, ixS T A B, by go_num, by omega, HTp, HO2, HB2⟩
              case measure => simp [intOf]; omega
          · have HTl := Lib.hid (show T.length = l.length by rw [HT.out.length_eq, upto_len])
            have S0 := Lib.hid (show Sys w wr [] from ⟨HB.out, by simp, List.Pairwise.nil⟩)
            clear HB
            by_cases hys : y + 1 < sw.length
            · have t4 : (y : Int) + 1 < (sw.length : Int) := by omega
              have t5 : ¬ (0 : Int) < (l.length : Int) := by omega
              have t6 : ¬ 0 < l.length := by omega
              go_wp2_with fail
              clear t4 t5 t6 hys
              clear hc
              refine (sys_new S0.out).mono ?_
              rintro e w1 ⟨p, m, rfl, hs, hf⟩
              have S1 := Lib.hid hs
              have R1 := Lib.hid (HW.out.far hf HO.out)
              clear hs hf
              go_wp2_with fail
              refine (sys_new S1.out).mono ?_
              rintro e w2 ⟨q, j, rfl, hs, hf⟩
              have S2 := Lib.hid hs
              have R2 := Lib.hid (R1.out.1.far hf R1.out.2)
              clear hs hf
              go_wp2_with fail
              refine (sys_new S2.out).mono ?_
              rintro e w3 ⟨r, v, rfl, hs, hf⟩
              have R3 := R2.out.1.far hf R2.out.2
              have G0 := Lib.hid (show G3 w (w3.alloc (.cells #[.int .u64 18446744073709551615, .int .u64 18446744073709551615, .int .i64 9223372036854775807, .int .i64 9223372036854775807] 24)) (.slice ao l.length co) l.length T w3.heap.size [(p, .slice none 0 0, m, []), (q, .slice none 0 0, j, []), (r, .slice none 0 0, v, [])] from
                ⟨(hs.mono (by go_grown)).swap.rot, R3.2.alloc _, fun b hb => ⟨(R3.1 b hb).1, (R3.1 b hb).2.swap.rot⟩, Blk.new w3 24 _, (hs.out (Nat.le_refl _)).swap.rot⟩)
              clear hs hf S0 S1 S2 R1 R2 R3 HO HW

              go_wp2_with fail
              have HTn := Lib.hid (show T.Nodup from HT.out.nodup_iff.2 (upto_nodup _))
              have Hpu := Lib.hid (fun i (hi : i < l.length) => pairs_push (fun r => l.getD r.toNat (0, 0, 0, 0)) HTn.out (i := i) (by rw [HTl.out]; exact hi))
              have Hpm := Lib.hid (fun i (hi : i < l.length) => pairs_push (fun _ => most) HTn.out (i := i) (by rw [HTl.out]; exact hi))
              have HTk := Lib.hid (show ∀ i, i < l.length → ∃ K : Nat, T.getD i 0 = (K : Int) ∧ K < l.length from fun i hi => by
                have h1 : T.getD i 0 ∈ T := by
                  rw [List.getD_eq_getElem?_getD, List.getElem?_eq_getElem (by rw [HTl.out]; exact hi)]
                  exact List.getElem_mem _
                have h2 := mem_upto.1 (HT.out.mem_iff.1 h1)
                exact ⟨(T.getD i 0).toNat, by omega, by omega⟩)
              go_loopw [14] (fun i wr => ∃ (y : Nat) (s t u : Value), i = .int .i64 y ∧ y ≤ l.length ∧ Hid (G3 w wr (.slice ao l.length co) l.length T w3.heap.size [(p, s, m, srt (tag (l.take y))), (q, t, j, srt (pairs (fun r => l.getD r.toNat (0, 0, 0, 0)) (T.take y))), (r, u, v, srt (pairs (fun _ => most) (T.take y)))]))
                (fun i _ => l.length - (intOf i).toNat)
              case atStart => exact ⟨0, _, _, _, rfl, by omega, G0⟩
              case round =>
                obtain ⟨y, s, t, u, rfl, hy, HG⟩ := hrel
                by_cases hyl : y < l.length
                · obtain ⟨b, off, rfl, hb, c0, c1, c2, c3⟩ := HR.out.at_ HG.out.sys.below hyl
                  obtain ⟨b1, cc, cu, eo, _⟩ := HG.out.own.of_pos (by omega)
                  simp only [Value.slice.injEq, true_and] at eo
                  obtain ⟨rfl, rfl⟩ := eo
                  have dR := own_int HG.out.own (i := y) (by rw [HTl.out]; exact hyl)
                  obtain ⟨K, hK, hKl⟩ := HTk.out y hyl
                  have HE := Lib.hid (show (if hasS (srt (tag (l.take y))) y = true then (15 : Int) else 0) = 0 by rw [tag_new l hyl]; rfl)
                  have HP := Lib.hid (tag_push l hyl)
                  have HL := Lib.hid (show (srt (tag (l.take y))).length ≤ 999999 by rw [srt_tag_len, List.length_take]; omega)
                  have HL2 := Lib.hid (fun f => show (srt (pairs f (T.take y))).length ≤ 999999 by rw [srt_len, pairs_len, List.length_take]; omega)
                  have hpu := Hpu.out y hyl
                  have hpm := Hpm.out y hyl
                  rw [hK] at dR hpu hpm
                  simp only [Int.toNat_natCast] at hpu hpm
                  have HE2 := Lib.hid (show (if hasS (srt (pairs (fun r => l.getD r.toNat (0, 0, 0, 0)) (T.take y))) K = true then (15 : Int) else 0) = 0 by rw [hpu.1]; rfl)
                  have HE3 := Lib.hid (show (if hasS (srt (pairs (fun _ => most) (T.take y))) K = true then (15 : Int) else 0) = 0 by rw [hpm.1]; rfl)
                  have HP2 := Lib.hid hpu.2
                  have HP3 := Lib.hid hpm.2
                  clear hpu hpm hK
                  have HD := Lib.hid (fun (w' : World) (h : Below w.heap.size w w') => HR.out.at_ h hKl)
                  generalize l.getD y (0, 0, 0, 0) = x at *
                  generalize l.getD K (0, 0, 0, 0) = z at *
                  obtain ⟨x1, x2, x3, x4⟩ := x
                  obtain ⟨z1, z2, z3, z4⟩ := z
                  (try dsimp only at c0 c1 c2 c3)
                  have t2 : (0 : Int) ≤ (y : Int) := by omega
                  have t3 : (y : Int) < (l.length : Int) := by omega
                  have t4 : (0 : Int) ≤ (K : Int) := by omega
                  have t5 : (K : Int) < (l.length : Int) := by omega
                  go_wp2_with fail
                  refine (sys_push HG.out.sys HL.out y (x1, x2, x3, x4) HE.out HP.out).mono ?_
                  rintro e w4 ⟨s', rfl, hs, hf⟩
                  have G1 := Lib.hid (HG.out.call hs hf).rot2
                  clear hs hf c0 c1 c2 c3 dR
                  obtain ⟨b', off', e1, _, c0, c1, c2, c3⟩ := HD.out w4 G1.out.sys.below
                  simp only [Option.some.injEq, Addr.mk.injEq, and_true] at e1
                  obtain ⟨rfl, rfl⟩ := e1
                  (try dsimp only at c0 c1 c2 c3)
                  go_wp2_with fail
                  refine (sys_push G1.out.sys (HL2.out _) K (z1, z2, z3, z4) HE2.out HP2.out).mono ?_
                  rintro e w5 ⟨t', rfl, hs, hf⟩
                  have G2 := Lib.hid (G1.out.call hs hf).rot2
                  clear hs hf c0 c1 c2 c3
                  have c0 := G2.out.blk.cell 0
                  have c1 := G2.out.blk.cell 1
                  have c2 := G2.out.blk.cell 2
                  have c3 := G2.out.blk.cell 3
                  simp at c0 c1 c2 c3
                  go_wp2_with fail
                  refine (sys_push G2.out.sys (HL2.out _) K most HE3.out HP3.out).mono ?_
                  rintro e w6 ⟨u', rfl, hs, hf⟩
                  have G3' := Lib.hid (G2.out.call hs hf).rot2
                  clear hs hf c0 c1 c2 c3
                  go_wp2_with fail
                  go_roundw
                  case rel => exact ⟨y + 1, s', t', u', by go_num, by omega, G3'⟩
                  case measure => simp [intOf]; omega
                · obtain rfl : y = l.length := by omega
                  have t3 : ¬ (l.length : Int) < (l.length : Int) := by omega
                  have e1 := pairs_all (fun r => l.getD r.toNat (0, 0, 0, 0)) l (fun i hi => by simp) HT.out
                  have e2 := pairs_all (fun _ => most) (List.replicate l.length most) (fun i hi => by simp at hi; simp [List.getD_eq_getElem?_getD, hi]) (R := T) (by rw [List.length_replicate]; exact HT.out)
                  rw [HTl.out] at e1 e2
                  rw [tag_all, e1, e2, ← late_zero] at HG
                  have G4 := Lib.hid HG.out.rot2.rot2
                  clear e1 e2 HG Hpu Hpm HTk HTn HT
                  have HS0 := Lib.hid (srt_tag_len l)
                  generalize hS : srt (tag l) = S at *
                  have HSl := Lib.hid hS
                  clear hS
                  go_wp2_with fail
                  clear t3
                  go_loopw [16] (fun i wr => ∃ (y : Nat) (u : Value), i = .int .i64 y ∧ y ≤ l.length ∧ Hid (G3 w wr (.slice ao l.length co) l.length T w3.heap.size [(r, u, v, srt (tag (late l y))), (p, s, m, S), (q, t, j, S)]))
                    (fun i _ => l.length - (intOf i).toNat)
                  case atStart => exact ⟨0, u, rfl, by omega, G4⟩
                  case round =>
                    obtain ⟨y, u, rfl, hy, HG⟩ := hrel
                    by_cases hyl : y < l.length
                    · obtain ⟨b, off, rfl, hb, c0, c1, c2, c3⟩ := HR.out.at_ HG.out.sys.below hyl
                      have HD := Lib.hid (fun (w' : World) (h : Below w.heap.size w w') => HR.out.at_ h hyl)
                      have HFx := Lib.hid (HF.out (l.getD y (0, 0, 0, 0)) (by rw [List.getD_eq_getElem?_getD, List.getElem?_eq_getElem hyl]; exact List.getElem_mem _))
                      have HLW := Lib.hid (late_lower l hyl HFx.out)
                      have HL := Lib.hid (show (srt (tag (late l y))).length ≤ 1000000 by rw [srt_tag_len, late_len l hy]; omega)
                      have hne := neKey (l.getD y (0, 0, 0, 0)) most
                      have heq := eqKey (l.getD y (0, 0, 0, 0)) most
                      generalize l.getD y (0, 0, 0, 0) = x at *
                      have t2 : (0 : Int) ≤ (y : Int) := by omega
                      have t3 : (y : Int) < (l.length : Int) := by omega
                      by_cases hx : x = most
                      · have HE := Lib.hid (HLW.out.2.trans (if_pos hx))
                        rw [decide_eq_true hx] at hne heq
                        subst hx
                        (try dsimp only at c0 c1 c2 c3)
                        simp only [Bool.not_true] at hne
                        go_wp2_with fail
                        refine (sys_lower HG.out.sys HL.out y (18446744073709551615, 18446744073709551615, 9223372036854775807, 9223372036854775807) HE.out HLW.out.1).mono ?_
                        rintro e w4 ⟨rfl, hs, hf⟩
                        have G1 := Lib.hid (HG.out.call hs hf)
                        clear hs hf c0 c1 c2 c3
                        obtain ⟨b', off', e1, _, c0, c1, c2, c3⟩ := HD.out w4 G1.out.sys.below
                        simp only [Option.some.injEq, Addr.mk.injEq, and_true] at e1
                        obtain ⟨rfl, rfl⟩ := e1
                        (try dsimp only at c0 c1 c2 c3)
                        have d0 := G1.out.blk.cell 0
                        have d1 := G1.out.blk.cell 1
                        have d2 := G1.out.blk.cell 2
                        have d3 := G1.out.blk.cell 3
                        simp at d0 d1 d2 d3
                        go_wp2_with fail
                        go_quiet (fail)
                        go_wp2_with fail
                        go_roundw
                        case rel => exact ⟨y + 1, u, by go_num, by omega, Lib.hid (G1.out.drewN _)⟩
                        case measure => simp [intOf]; omega
                      · have HE := Lib.hid (HLW.out.2.trans (if_neg hx))
                        rw [decide_eq_false hx] at hne heq
                        clear hx
                        obtain ⟨x1, x2, x3, x4⟩ := x
                        (try dsimp only at c0 c1 c2 c3)
                        simp only [Bool.not_false] at hne
                        go_wp2_with fail
                        refine (sys_lower HG.out.sys HL.out y (x1, x2, x3, x4) HE.out HLW.out.1).mono ?_
                        rintro e w4 ⟨rfl, hs, hf⟩
                        have G1 := Lib.hid (HG.out.call hs hf)
                        clear hs hf c0 c1 c2 c3
                        obtain ⟨b', off', e1, _, c0, c1, c2, c3⟩ := HD.out w4 G1.out.sys.below
                        simp only [Option.some.injEq, Addr.mk.injEq, and_true] at e1
                        obtain ⟨rfl, rfl⟩ := e1
                        (try dsimp only at c0 c1 c2 c3)
                        have d0 := G1.out.blk.cell 0
                        have d1 := G1.out.blk.cell 1
                        have d2 := G1.out.blk.cell 2
                        have d3 := G1.out.blk.cell 3
                        simp at d0 d1 d2 d3
                        go_wp2_with fail
                        go_quiet (fail)
                        go_wp2_with fail
                        go_roundw
                        case rel => exact ⟨y + 1, u, by go_num, by omega, Lib.hid (G1.out.drewN _)⟩
                        case measure => simp [intOf]; omega
                    · obtain rfl : y = l.length := by omega
                      have t3 : ¬ (l.length : Int) < (l.length : Int) := by omega
                      rw [late_all, HSl.out] at HG
                      have S5 := Lib.hid HG.out.sys.rot2
                      clear HG G4 HSl HF
                      go_wp2_with fail
                      clear t3
                      go_loopw [18] (fun i wr => ∃ (y : Nat) (s t u : Value), i = .int .i64 y ∧ y ≤ l.length + 1 ∧ Hid (Sys w wr [(p, s, m, S.drop y), (q, t, j, S.drop y), (r, u, v, S.drop y)]))
                        (fun i _ => l.length + 1 - (intOf i).toNat)
                      case atStart => exact ⟨0, _, _, _, rfl, by omega, S5⟩
                      case round =>
                        obtain ⟨y, s, t, u, rfl, hy, HS⟩ := hrel
                        have HL := Lib.hid (show (S.drop y).length ≤ 1000000 by rw [List.length_drop, HS0.out]; omega)
                        by_cases hyl : y < l.length
                        · have t3 : (y : Int) < (l.length : Int) := by omega
                          have t4 : (y : Int) ≤ (l.length : Int) := by omega
                          have HV := Lib.hid (popV_drop (S := S) (k := y) (by rw [HS0.out]; exact hyl))
                          have hne0 := neKey (g S y).2 (g S y).2
                          rw [decide_eq_true rfl] at hne0
                          generalize g S y = x at *
                          obtain ⟨id, x1, x2, x3, x4⟩ := x
                          simp only [Bool.not_true] at hne0
                          go_wp2_with fail
                          refine (sys_pop HS.out HL.out HV.out (tail_drop S y)).mono ?_
                          rintro e w7 ⟨s', rfl, hs, hf⟩
                          have S7 := Lib.hid (hs.mono (w' := w7.alloc (.cells #[.int .u64 x1, .int .u64 x2, .int .i64 x3, .int .i64 x4] 24)) (by go_grown)).rot2
                          have K7 := Lib.hid (Blk.new w7 24 #[.int .u64 x1, .int .u64 x2, .int .i64 x3, .int .i64 x4])
                          have U7 := Lib.hid (hs.out (Nat.le_refl _)).rot2
                          clear hs hf
                          go_wp2_with fail
                          refine (sys_pop S7.out HL.out HV.out (tail_drop S y)).mono ?_
                          rintro e w8 ⟨t', rfl, hs, hf⟩
                          have S8 := Lib.hid (hs.mono (w' := w8.alloc (.cells #[.int .u64 x1, .int .u64 x2, .int .i64 x3, .int .i64 x4] 24)) (by go_grown)).rot2
                          have K8 := Lib.hid (Blk.new w8 24 #[.int .u64 x1, .int .u64 x2, .int .i64 x3, .int .i64 x4])
                          have U8 := Lib.hid (hs.out (Nat.le_refl _)).rot2
                          have K78 := Lib.hid ((hf.blk K7.out U7.out).alloc (.cells #[.int .u64 x1, .int .u64 x2, .int .i64 x3, .int .i64 x4] 24))
                          have U78 := Lib.hid (hf.out K7.out.lt U7.out).rot2
                          clear hs hf
                          go_wp2_with fail
                          refine (sys_pop S8.out HL.out HV.out (tail_drop S y)).mono ?_
                          rintro e w9 ⟨u', rfl, hs, hf⟩
                          have k8 := hf.blk K8.out U8.out
                          have k7 := hf.blk K78.out U78.out
                          have r0 := k8.cell 0
                          have r1 := k8.cell 1
                          have r2 := k8.cell 2
                          have r3 := k8.cell 3
                          have q0 := k7.cell 0
                          have q1 := k7.cell 1
                          have q2 := k7.cell 2
                          have q3 := k7.cell 3
                          have l8 := k8.lt
                          have l7 := k7.lt
                          simp at r0 r1 r2 r3 q0 q1 q2 q3
                          have S9 := Lib.hid (hs.mono (w' := w9.alloc (.cells #[.int .u64 x1, .int .u64 x2, .int .i64 x3, .int .i64 x4] 24)) (by go_grown)).rot2
                          clear hs hf k8 k7
                          go_wp2_with fail
                          go_roundw
                          case rel => exact ⟨y + 1, s', t', u', by go_num, by omega, S9⟩
                          case measure => simp [intOf]; omega
                        · by_cases hyn : y = l.length
                          · have t3 : ¬ (y : Int) < (l.length : Int) := by omega
                            have t4 : (y : Int) ≤ (l.length : Int) := by omega
                            have HV := Lib.hid (show popV (S.drop y) = .tuple #[.int .i64 0, kyV (0, 0, 0, 0), .bool false] by rw [List.drop_of_length_le (by rw [HS0.out]; omega)]; rfl)
                            have hne0 := neKey (0, 0, 0, 0) (0, 0, 0, 0)
                            rw [decide_eq_true rfl] at hne0
                            simp only [Bool.not_true] at hne0
                            go_wp2_with fail
                            refine (sys_pop HS.out HL.out HV.out (tail_drop S y)).mono ?_
                            rintro e w7 ⟨s', rfl, hs, hf⟩
                            have S7 := Lib.hid (hs.mono (w' := w7.alloc (.cells #[.int .u64 0, .int .u64 0, .int .i64 0, .int .i64 0] 24)) (by go_grown)).rot2
                            have K7 := Lib.hid (Blk.new w7 24 #[.int .u64 0, .int .u64 0, .int .i64 0, .int .i64 0])
                            have U7 := Lib.hid (hs.out (Nat.le_refl _)).rot2
                            clear hs hf
                            go_wp2_with fail
                            refine (sys_pop S7.out HL.out HV.out (tail_drop S y)).mono ?_
                            rintro e w8 ⟨t', rfl, hs, hf⟩
                            have S8 := Lib.hid (hs.mono (w' := w8.alloc (.cells #[.int .u64 0, .int .u64 0, .int .i64 0, .int .i64 0] 24)) (by go_grown)).rot2
                            have K8 := Lib.hid (Blk.new w8 24 #[.int .u64 0, .int .u64 0, .int .i64 0, .int .i64 0])
                            have U8 := Lib.hid (hs.out (Nat.le_refl _)).rot2
                            have K78 := Lib.hid ((hf.blk K7.out U7.out).alloc (.cells #[.int .u64 0, .int .u64 0, .int .i64 0, .int .i64 0] 24))
                            have U78 := Lib.hid (hf.out K7.out.lt U7.out).rot2
                            clear hs hf
                            go_wp2_with fail
                            refine (sys_pop S8.out HL.out HV.out (tail_drop S y)).mono ?_
                            rintro e w9 ⟨u', rfl, hs, hf⟩
                            have k8 := hf.blk K8.out U8.out
                            have k7 := hf.blk K78.out U78.out
                            have r0 := k8.cell 0
                            have r1 := k8.cell 1
                            have r2 := k8.cell 2
                            have r3 := k8.cell 3
                            have q0 := k7.cell 0
                            have q1 := k7.cell 1
                            have q2 := k7.cell 2
                            have q3 := k7.cell 3
                            have l8 := k8.lt
                            have l7 := k7.lt
                            simp at r0 r1 r2 r3 q0 q1 q2 q3
                            have S9 := Lib.hid (hs.mono (w' := w9.alloc (.cells #[.int .u64 0, .int .u64 0, .int .i64 0, .int .i64 0] 24)) (by go_grown)).rot2
                            clear hs hf k8 k7
                            go_wp2_with fail
                            go_roundw
                            case rel => exact ⟨y + 1, s', t', u', by go_num, by omega, S9⟩
                            case measure => simp [intOf]; omega
                          · have t4 : ¬ (y : Int) ≤ (l.length : Int) := by omega
                            go_wp2_with fail
                            refine (awake_true _).mono ?_
                            rintro e w9 ⟨rfl, hb⟩
                            have HB9 := Lib.hid (bl HS.out.below hb)
                            clear hb
                            go_wp2_with fail
                            go_ret
                            exact ⟨rfl, HB9.out⟩
            · have t4 : ¬ (y : Int) + 1 < (sw.length : Int) := by omega
              go_wp2_with fail
              clear t4 hys
              clear hc
              refine (sys_new S0.out).mono ?_
              rintro e w1 ⟨p, m, rfl, hs, hf⟩
              have S1 := Lib.hid hs
              have R1 := Lib.hid (HW.out.far hf HO.out)
              clear hs hf
              go_wp2_with fail
              refine (sys_new S1.out).mono ?_
              rintro e w2 ⟨q, j, rfl, hs, hf⟩
              have S2 := Lib.hid hs
              have R2 := Lib.hid (R1.out.1.far hf R1.out.2)
              clear hs hf
              go_wp2_with fail
              refine (sys_new S2.out).mono ?_
              rintro e w3 ⟨r, v, rfl, hs, hf⟩
              have R3 := R2.out.1.far hf R2.out.2
              have G0 := Lib.hid (show G3 w (w3.alloc (.cells #[.int .u64 18446744073709551615, .int .u64 18446744073709551615, .int .i64 9223372036854775807, .int .i64 9223372036854775807] 24)) (.slice ao l.length co) l.length T w3.heap.size [(p, .slice none 0 0, m, []), (q, .slice none 0 0, j, []), (r, .slice none 0 0, v, [])] from
                ⟨(hs.mono (by go_grown)).swap.rot, R3.2.alloc _, fun b hb => ⟨(R3.1 b hb).1, (R3.1 b hb).2.swap.rot⟩, Blk.new w3 24 _, (hs.out (Nat.le_refl _)).swap.rot⟩)
              clear hs hf S0 S1 S2 R1 R2 R3 HO HW

              go_wp2_with fail
              have HTn := Lib.hid (show T.Nodup from HT.out.nodup_iff.2 (upto_nodup _))
              have Hpu := Lib.hid (fun i (hi : i < l.length) => pairs_push (fun r => l.getD r.toNat (0, 0, 0, 0)) HTn.out (i := i) (by rw [HTl.out]; exact hi))
              have Hpm := Lib.hid (fun i (hi : i < l.length) => pairs_push (fun _ => most) HTn.out (i := i) (by rw [HTl.out]; exact hi))
              have HTk := Lib.hid (show ∀ i, i < l.length → ∃ K : Nat, T.getD i 0 = (K : Int) ∧ K < l.length from fun i hi => by
                have h1 : T.getD i 0 ∈ T := by
                  rw [List.getD_eq_getElem?_getD, List.getElem?_eq_getElem (by rw [HTl.out]; exact hi)]
                  exact List.getElem_mem _
                have h2 := mem_upto.1 (HT.out.mem_iff.1 h1)
                exact ⟨(T.getD i 0).toNat, by omega, by omega⟩)
              go_loopw [14] (fun i wr => ∃ (y : Nat) (s t u : Value), i = .int .i64 y ∧ y ≤ l.length ∧ Hid (G3 w wr (.slice ao l.length co) l.length T w3.heap.size [(p, s, m, srt (tag (l.take y))), (q, t, j, srt (pairs (fun r => l.getD r.toNat (0, 0, 0, 0)) (T.take y))), (r, u, v, srt (pairs (fun _ => most) (T.take y)))]))
                (fun i _ => l.length - (intOf i).toNat)
              case atStart => exact ⟨0, _, _, _, rfl, by omega, G0⟩
              case round =>
                obtain ⟨y, s, t, u, rfl, hy, HG⟩ := hrel
                by_cases hyl : y < l.length
                · obtain ⟨b, off, rfl, hb, c0, c1, c2, c3⟩ := HR.out.at_ HG.out.sys.below hyl
                  obtain ⟨b1, cc, cu, eo, _⟩ := HG.out.own.of_pos (by omega)
                  simp only [Value.slice.injEq, true_and] at eo
                  obtain ⟨rfl, rfl⟩ := eo
                  have dR := own_int HG.out.own (i := y) (by rw [HTl.out]; exact hyl)
                  obtain ⟨K, hK, hKl⟩ := HTk.out y hyl
                  have HE := Lib.hid (show (if hasS (srt (tag (l.take y))) y = true then (15 : Int) else 0) = 0 by rw [tag_new l hyl]; rfl)
                  have HP := Lib.hid (tag_push l hyl)
                  have HL := Lib.hid (show (srt (tag (l.take y))).length ≤ 999999 by rw [srt_tag_len, List.length_take]; omega)
                  have HL2 := Lib.hid (fun f => show (srt (pairs f (T.take y))).length ≤ 999999 by rw [srt_len, pairs_len, List.length_take]; omega)
                  have hpu := Hpu.out y hyl
                  have hpm := Hpm.out y hyl
                  rw [hK] at dR hpu hpm
                  simp only [Int.toNat_natCast] at hpu hpm
                  have HE2 := Lib.hid (show (if hasS (srt (pairs (fun r => l.getD r.toNat (0, 0, 0, 0)) (T.take y))) K = true then (15 : Int) else 0) = 0 by rw [hpu.1]; rfl)
                  have HE3 := Lib.hid (show (if hasS (srt (pairs (fun _ => most) (T.take y))) K = true then (15 : Int) else 0) = 0 by rw [hpm.1]; rfl)
                  have HP2 := Lib.hid hpu.2
                  have HP3 := Lib.hid hpm.2
                  clear hpu hpm hK
                  have HD := Lib.hid (fun (w' : World) (h : Below w.heap.size w w') => HR.out.at_ h hKl)
                  generalize l.getD y (0, 0, 0, 0) = x at *
                  generalize l.getD K (0, 0, 0, 0) = z at *
                  obtain ⟨x1, x2, x3, x4⟩ := x
                  obtain ⟨z1, z2, z3, z4⟩ := z
                  (try dsimp only at c0 c1 c2 c3)
                  have t2 : (0 : Int) ≤ (y : Int) := by omega
                  have t3 : (y : Int) < (l.length : Int) := by omega
                  have t4 : (0 : Int) ≤ (K : Int) := by omega
                  have t5 : (K : Int) < (l.length : Int) := by omega
                  go_wp2_with fail
                  refine (sys_push HG.out.sys HL.out y (x1, x2, x3, x4) HE.out HP.out).mono ?_
                  rintro e w4 ⟨s', rfl, hs, hf⟩
                  have G1 := Lib.hid (HG.out.call hs hf).rot2
                  clear hs hf c0 c1 c2 c3 dR
                  obtain ⟨b', off', e1, _, c0, c1, c2, c3⟩ := HD.out w4 G1.out.sys.below
                  simp only [Option.some.injEq, Addr.mk.injEq, and_true] at e1
                  obtain ⟨rfl, rfl⟩ := e1
                  (try dsimp only at c0 c1 c2 c3)
                  go_wp2_with fail
                  refine (sys_push G1.out.sys (HL2.out _) K (z1, z2, z3, z4) HE2.out HP2.out).mono ?_
                  rintro e w5 ⟨t', rfl, hs, hf⟩
                  have G2 := Lib.hid (G1.out.call hs hf).rot2
                  clear hs hf c0 c1 c2 c3
                  have c0 := G2.out.blk.cell 0
                  have c1 := G2.out.blk.cell 1
                  have c2 := G2.out.blk.cell 2
                  have c3 := G2.out.blk.cell 3
                  simp at c0 c1 c2 c3
                  go_wp2_with fail
                  refine (sys_push G2.out.sys (HL2.out _) K most HE3.out HP3.out).mono ?_
                  rintro e w6 ⟨u', rfl, hs, hf⟩
                  have G3' := Lib.hid (G2.out.call hs hf).rot2
                  clear hs hf c0 c1 c2 c3
                  go_wp2_with fail
                  go_roundw
                  case rel => exact ⟨y + 1, s', t', u', by go_num, by omega, G3'⟩
                  case measure => simp [intOf]; omega
                · obtain rfl : y = l.length := by omega
                  have t3 : ¬ (l.length : Int) < (l.length : Int) := by omega
                  have e1 := pairs_all (fun r => l.getD r.toNat (0, 0, 0, 0)) l (fun i hi => by simp) HT.out
                  have e2 := pairs_all (fun _ => most) (List.replicate l.length most) (fun i hi => by simp at hi; simp [List.getD_eq_getElem?_getD, hi]) (R := T) (by rw [List.length_replicate]; exact HT.out)
                  rw [HTl.out] at e1 e2
                  rw [tag_all, e1, e2, ← late_zero] at HG
                  have G4 := Lib.hid HG.out.rot2.rot2
                  clear e1 e2 HG Hpu Hpm HTk HTn HT
                  have HS0 := Lib.hid (srt_tag_len l)
                  generalize hS : srt (tag l) = S at *
                  have HSl := Lib.hid hS
                  clear hS
                  go_wp2_with fail
                  clear t3
                  go_loopw [16] (fun i wr => ∃ (y : Nat) (u : Value), i = .int .i64 y ∧ y ≤ l.length ∧ Hid (G3 w wr (.slice ao l.length co) l.length T w3.heap.size [(r, u, v, srt (tag (late l y))), (p, s, m, S), (q, t, j, S)]))
                    (fun i _ => l.length - (intOf i).toNat)
                  case atStart => exact ⟨0, u, rfl, by omega, G4⟩
                  case round =>
                    obtain ⟨y, u, rfl, hy, HG⟩ := hrel
                    by_cases hyl : y < l.length
                    · obtain ⟨b, off, rfl, hb, c0, c1, c2, c3⟩ := HR.out.at_ HG.out.sys.below hyl
                      have HD := Lib.hid (fun (w' : World) (h : Below w.heap.size w w') => HR.out.at_ h hyl)
                      have HFx := Lib.hid (HF.out (l.getD y (0, 0, 0, 0)) (by rw [List.getD_eq_getElem?_getD, List.getElem?_eq_getElem hyl]; exact List.getElem_mem _))
                      have HLW := Lib.hid (late_lower l hyl HFx.out)
                      have HL := Lib.hid (show (srt (tag (late l y))).length ≤ 1000000 by rw [srt_tag_len, late_len l hy]; omega)
                      have hne := neKey (l.getD y (0, 0, 0, 0)) most
                      have heq := eqKey (l.getD y (0, 0, 0, 0)) most
                      generalize l.getD y (0, 0, 0, 0) = x at *
                      have t2 : (0 : Int) ≤ (y : Int) := by omega
                      have t3 : (y : Int) < (l.length : Int) := by omega
                      by_cases hx : x = most
                      · have HE := Lib.hid (HLW.out.2.trans (if_pos hx))
                        rw [decide_eq_true hx] at hne heq
                        subst hx
                        (try dsimp only at c0 c1 c2 c3)
                        simp only [Bool.not_true] at hne
                        go_wp2_with fail
                        refine (sys_lower HG.out.sys HL.out y (18446744073709551615, 18446744073709551615, 9223372036854775807, 9223372036854775807) HE.out HLW.out.1).mono ?_
                        rintro e w4 ⟨rfl, hs, hf⟩
                        have G1 := Lib.hid (HG.out.call hs hf)
                        clear hs hf c0 c1 c2 c3
                        obtain ⟨b', off', e1, _, c0, c1, c2, c3⟩ := HD.out w4 G1.out.sys.below
                        simp only [Option.some.injEq, Addr.mk.injEq, and_true] at e1
                        obtain ⟨rfl, rfl⟩ := e1
                        (try dsimp only at c0 c1 c2 c3)
                        have d0 := G1.out.blk.cell 0
                        have d1 := G1.out.blk.cell 1
                        have d2 := G1.out.blk.cell 2
                        have d3 := G1.out.blk.cell 3
                        simp at d0 d1 d2 d3
                        go_wp2_with fail
                        go_quiet (fail)
                        go_wp2_with fail
                        go_roundw
                        case rel => exact ⟨y + 1, u, by go_num, by omega, Lib.hid (G1.out.drewN _)⟩
                        case measure => simp [intOf]; omega
                      · have HE := Lib.hid (HLW.out.2.trans (if_neg hx))
                        rw [decide_eq_false hx] at hne heq
                        clear hx
                        obtain ⟨x1, x2, x3, x4⟩ := x
                        (try dsimp only at c0 c1 c2 c3)
                        simp only [Bool.not_false] at hne
                        go_wp2_with fail
                        refine (sys_lower HG.out.sys HL.out y (x1, x2, x3, x4) HE.out HLW.out.1).mono ?_
                        rintro e w4 ⟨rfl, hs, hf⟩
                        have G1 := Lib.hid (HG.out.call hs hf)
                        clear hs hf c0 c1 c2 c3
                        obtain ⟨b', off', e1, _, c0, c1, c2, c3⟩ := HD.out w4 G1.out.sys.below
                        simp only [Option.some.injEq, Addr.mk.injEq, and_true] at e1
                        obtain ⟨rfl, rfl⟩ := e1
                        (try dsimp only at c0 c1 c2 c3)
                        have d0 := G1.out.blk.cell 0
                        have d1 := G1.out.blk.cell 1
                        have d2 := G1.out.blk.cell 2
                        have d3 := G1.out.blk.cell 3
                        simp at d0 d1 d2 d3
                        go_wp2_with fail
                        go_quiet (fail)
                        go_wp2_with fail
                        go_roundw
                        case rel => exact ⟨y + 1, u, by go_num, by omega, Lib.hid (G1.out.drewN _)⟩
                        case measure => simp [intOf]; omega
                    · obtain rfl : y = l.length := by omega
                      have t3 : ¬ (l.length : Int) < (l.length : Int) := by omega
                      rw [late_all, HSl.out] at HG
                      have S5 := Lib.hid HG.out.sys.rot2
                      clear HG G4 HSl HF
                      go_wp2_with fail
                      clear t3
                      go_loopw [18] (fun i wr => ∃ (y : Nat) (s t u : Value), i = .int .i64 y ∧ y ≤ l.length + 1 ∧ Hid (Sys w wr [(p, s, m, S.drop y), (q, t, j, S.drop y), (r, u, v, S.drop y)]))
                        (fun i _ => l.length + 1 - (intOf i).toNat)
                      case atStart => exact ⟨0, _, _, _, rfl, by omega, S5⟩
                      case round =>
                        obtain ⟨y, s, t, u, rfl, hy, HS⟩ := hrel
                        have HL := Lib.hid (show (S.drop y).length ≤ 1000000 by rw [List.length_drop, HS0.out]; omega)
                        by_cases hyl : y < l.length
                        · have t3 : (y : Int) < (l.length : Int) := by omega
                          have t4 : (y : Int) ≤ (l.length : Int) := by omega
                          have HV := Lib.hid (popV_drop (S := S) (k := y) (by rw [HS0.out]; exact hyl))
                          have hne0 := neKey (g S y).2 (g S y).2
                          rw [decide_eq_true rfl] at hne0
                          generalize g S y = x at *
                          obtain ⟨id, x1, x2, x3, x4⟩ := x
                          simp only [Bool.not_true] at hne0
                          go_wp2_with fail
                          refine (sys_pop HS.out HL.out HV.out (tail_drop S y)).mono ?_
                          rintro e w7 ⟨s', rfl, hs, hf⟩
                          have S7 := Lib.hid (hs.mono (w' := w7.alloc (.cells #[.int .u64 x1, .int .u64 x2, .int .i64 x3, .int .i64 x4] 24)) (by go_grown)).rot2
                          have K7 := Lib.hid (Blk.new w7 24 #[.int .u64 x1, .int .u64 x2, .int .i64 x3, .int .i64 x4])
                          have U7 := Lib.hid (hs.out (Nat.le_refl _)).rot2
                          clear hs hf
                          go_wp2_with fail
                          refine (sys_pop S7.out HL.out HV.out (tail_drop S y)).mono ?_
                          rintro e w8 ⟨t', rfl, hs, hf⟩
                          have S8 := Lib.hid (hs.mono (w' := w8.alloc (.cells #[.int .u64 x1, .int .u64 x2, .int .i64 x3, .int .i64 x4] 24)) (by go_grown)).rot2
                          have K8 := Lib.hid (Blk.new w8 24 #[.int .u64 x1, .int .u64 x2, .int .i64 x3, .int .i64 x4])
                          have U8 := Lib.hid (hs.out (Nat.le_refl _)).rot2
                          have K78 := Lib.hid ((hf.blk K7.out U7.out).alloc (.cells #[.int .u64 x1, .int .u64 x2, .int .i64 x3, .int .i64 x4] 24))
                          have U78 := Lib.hid (hf.out K7.out.lt U7.out).rot2
                          clear hs hf
                          go_wp2_with fail
                          refine (sys_pop S8.out HL.out HV.out (tail_drop S y)).mono ?_
                          rintro e w9 ⟨u', rfl, hs, hf⟩
                          have k8 := hf.blk K8.out U8.out
                          have k7 := hf.blk K78.out U78.out
                          have r0 := k8.cell 0
                          have r1 := k8.cell 1
                          have r2 := k8.cell 2
                          have r3 := k8.cell 3
                          have q0 := k7.cell 0
                          have q1 := k7.cell 1
                          have q2 := k7.cell 2
                          have q3 := k7.cell 3
                          have l8 := k8.lt
                          have l7 := k7.lt
                          simp at r0 r1 r2 r3 q0 q1 q2 q3
                          have S9 := Lib.hid (hs.mono (w' := w9.alloc (.cells #[.int .u64 x1, .int .u64 x2, .int .i64 x3, .int .i64 x4] 24)) (by go_grown)).rot2
                          clear hs hf k8 k7
                          go_wp2_with fail
                          go_roundw
                          case rel => exact ⟨y + 1, s', t', u', by go_num, by omega, S9⟩
                          case measure => simp [intOf]; omega
                        · by_cases hyn : y = l.length
                          · have t3 : ¬ (y : Int) < (l.length : Int) := by omega
                            have t4 : (y : Int) ≤ (l.length : Int) := by omega
                            have HV := Lib.hid (show popV (S.drop y) = .tuple #[.int .i64 0, kyV (0, 0, 0, 0), .bool false] by rw [List.drop_of_length_le (by rw [HS0.out]; omega)]; rfl)
                            have hne0 := neKey (0, 0, 0, 0) (0, 0, 0, 0)
                            rw [decide_eq_true rfl] at hne0
                            simp only [Bool.not_true] at hne0
                            go_wp2_with fail
                            refine (sys_pop HS.out HL.out HV.out (tail_drop S y)).mono ?_
                            rintro e w7 ⟨s', rfl, hs, hf⟩
                            have S7 := Lib.hid (hs.mono (w' := w7.alloc (.cells #[.int .u64 0, .int .u64 0, .int .i64 0, .int .i64 0] 24)) (by go_grown)).rot2
                            have K7 := Lib.hid (Blk.new w7 24 #[.int .u64 0, .int .u64 0, .int .i64 0, .int .i64 0])
                            have U7 := Lib.hid (hs.out (Nat.le_refl _)).rot2
                            clear hs hf
                            go_wp2_with fail
                            refine (sys_pop S7.out HL.out HV.out (tail_drop S y)).mono ?_
                            rintro e w8 ⟨t', rfl, hs, hf⟩
                            have S8 := Lib.hid (hs.mono (w' := w8.alloc (.cells #[.int .u64 0, .int .u64 0, .int .i64 0, .int .i64 0] 24)) (by go_grown)).rot2
                            have K8 := Lib.hid (Blk.new w8 24 #[.int .u64 0, .int .u64 0, .int .i64 0, .int .i64 0])
                            have U8 := Lib.hid (hs.out (Nat.le_refl _)).rot2
                            have K78 := Lib.hid ((hf.blk K7.out U7.out).alloc (.cells #[.int .u64 0, .int .u64 0, .int .i64 0, .int .i64 0] 24))
                            have U78 := Lib.hid (hf.out K7.out.lt U7.out).rot2
                            clear hs hf
                            go_wp2_with fail
                            refine (sys_pop S8.out HL.out HV.out (tail_drop S y)).mono ?_
                            rintro e w9 ⟨u', rfl, hs, hf⟩
                            have k8 := hf.blk K8.out U8.out
                            have k7 := hf.blk K78.out U78.out
                            have r0 := k8.cell 0
                            have r1 := k8.cell 1
                            have r2 := k8.cell 2
                            have r3 := k8.cell 3
                            have q0 := k7.cell 0
                            have q1 := k7.cell 1
                            have q2 := k7.cell 2
                            have q3 := k7.cell 3
                            have l8 := k8.lt
                            have l7 := k7.lt
                            simp at r0 r1 r2 r3 q0 q1 q2 q3
                            have S9 := Lib.hid (hs.mono (w' := w9.alloc (.cells #[.int .u64 0, .int .u64 0, .int .i64 0, .int .i64 0] 24)) (by go_grown)).rot2
                            clear hs hf k8 k7
                            go_wp2_with fail
                            go_roundw
                            case rel => exact ⟨y + 1, s', t', u', by go_num, by omega, S9⟩
                            case measure => simp [intOf]; omega
                          · have t4 : ¬ (y : Int) ≤ (l.length : Int) := by omega
                            go_wp2_with fail
                            refine (awake_true _).mono ?_
                            rintro e w9 ⟨rfl, hb⟩
                            have HB9 := Lib.hid (bl HS.out.below hb)
                            clear hb
                            go_wp2_with fail
                            go_ret
                            exact ⟨rfl, HB9.out⟩
end Go.Proofs.Ytffgjjlamdaajaa
