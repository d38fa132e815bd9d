/- A thing whose key is made less comes out no later: the law returns true. -/
import Derived.Test.YtffgjjlamdaajaaM
namespace Go.Proofs.Ytffgjjlamdaajaa
open Go.RowKit

/-- Two rows of numbers in new memory, each its own. -/
structure AB (w5 wr : World) (oa ob : Value) (A B : List Int) : Prop where
  below : Below w5.heap.size w5 wr
  a : Own wr 3 1 oa A.length (ints A)
  b : Own wr 3 1 ob B.length (ints B)
  na : ∀ c, oa.ownBlock = some c → w5.heap.size ≤ c
  nb : ∀ c, ob.ownBlock = some c → w5.heap.size ≤ c
  ne : ∀ c, oa.ownBlock = some c → ob.ownBlock ≠ some c
section
variable {w5 wr w2 : World} {oa ob v' : Value} {A B : List Int}
theorem AB.swap (h : AB w5 wr oa ob A B) : AB w5 wr ob oa B A := ⟨h.below, h.b, h.a, h.nb, h.na, fun c h1 h2 => h.ne c h2 h1⟩
theorem AB.mono (h : AB w5 wr oa ob A B) (hb : Below wr.heap.size wr w2) : AB w5 w2 oa ob A B :=
  ⟨bl h.below hb, h.a.kept (Kept.of_below hb) (fun c hc => by have := h.a.lt hc; omega), h.b.kept (Kept.of_below hb) (fun c hc => by have := h.b.lt hc; omega), h.na, h.nb, h.ne⟩
theorem AB.app (h : AB w5 wr oa ob A B) {x : Int} {n : Nat} (ho : Own w2 3 1 v' n (ints A ++ [.int .i64 x])) (hn : n = A.length + 1) (hg : wr.grownBy w2 oa.ownBlock) (hf : Fresh wr oa v') : AB w5 w2 v' ob (A ++ [x]) B := by
  subst hn
  have hk := (Kept.refl (fun c => oa.ownBlock = some c) wr).grown hg (fun k e => .inl e)
  have hw := h.below.size
  refine ⟨h.below.trans (hk.below (fun c _ e => h.na c e) hw), ?_, h.b.kept hk (fun c h1 h2 => h.ne c h2 h1), fun c hc => ?_, h.nb, fun c hc hd => ?_⟩
  · rw [List.length_append, ints_app]; exact ho
  · exact (hf c hc).elim (h.na c) (fun e => by omega)
  · rcases hf c hc with e | e
    · exact h.ne c e hd
    · have := h.b.lt hd; omega
end
theorem ab_new (w5 : World) : AB w5 ((w5.alloc (.cells #[] 3)).alloc (.cells #[] 3)) (.slice (some ⟨w5.heap.size, 0, none⟩) 0 0) (.slice (some ⟨w5.heap.size + 1, 0, none⟩) 0 0) [] [] := by
  have h1 : Blk ((w5.alloc (.cells #[] 3)).alloc (.cells #[] 3)) w5.heap.size 3 #[] := (Blk.new w5 3 #[]).alloc _
  have h2 : Blk ((w5.alloc (.cells #[] 3)).alloc (.cells #[] 3)) (w5.heap.size + 1) 3 #[] := by
    have := Blk.new (w5.alloc (.cells #[] 3)) 3 #[]
    rwa [World.size_alloc] at this
  refine ⟨by go_grown, Own.mk h1 (by omega) (by omega) rfl rfl, Own.mk h2 (by omega) (by omega) rfl rfl, fun c hc => ?_, fun c hc => ?_, fun c hc hd => ?_⟩
  · simp only [Value.ownBlock, Option.some.injEq] at hc; omega
  · simp only [Value.ownBlock, Option.some.injEq] at hc; omega
  · simp only [Value.ownBlock, Option.some.injEq] at hc hd; omega

theorem lowerE_of (S : List Th) (id : Int) (k : Ky) : (lowerB S id k = true ∧ lowerE S id k = 0) ∨ (lowerE S id k = 14 ∨ lowerE S id k = 1) := by
  unfold lowerB lowerE
  cases hasS S id <;> cases ltK k (keyS S id) <;> simp

set_option maxHeartbeats 8000000 in
set_option maxRecDepth 100000 in
theorem wSooner (a : Option Addr) (id : Int) (ky : Ky) (cap : Nat) (l : List Ky) (w : World) (hR : RowK w a l) (hL : l.length ≤ 9223372036854775807) :
    Calls Try.prog 4 #[.slice a l.length cap, .int .i64 id, kyV ky] w fun e w' => e = .returned (.bool true) ∧ Below w.heap.size w w' := by
  obtain ⟨i0, hi0, hz0, hz1, hz2⟩ := info_parts info3z
  have HR := Lib.hid hR
  clear hR
  obtain ⟨y1, y2, y3, y4⟩ := ky
  by_cases h1 : 60 < l.length
  · have t1 : (60 : Int) < (l.length : Int) := by omega
    go_enter Try.func4, Try.ntmps4
    go_wp2_with fail
    refine (awake_true _).mono ?_
    rintro e w5 ⟨rfl, hb⟩
    have HB5 := Lib.hid (show Below w.heap.size w w5 from bl (by go_grown) hb)
    clear hb
    go_wp2_with fail
    go_ret
    exact ⟨rfl, HB5.out⟩
  · have t1 : ¬ (60 : Int) < (l.length : Int) := by omega
    replace h1 : l.length ≤ 60 := by omega
    have HN := Lib.hid (srt_tag_len l)
    have S0 := Lib.hid (show Sys w (w.alloc (.cells #[.int .u64 y1, .int .u64 y2, .int .i64 y3, .int .i64 y4] 24)) [] from (Sys.nil w).mono (by go_grown))
    have K0 := Lib.hid (Blk.new w 24 #[.int .u64 y1, .int .u64 y2, .int .i64 y3, .int .i64 y4])
    have U0 := Lib.hid (show Out [] w.heap.size from fun _ h => by simp at h)
    go_enter Try.func4, Try.ntmps4
    go_wp2_with fail
    refine (sys_new S0.out).mono ?_
    rintro e w1 ⟨p, m, rfl, hs, hf⟩
    have S1 := Lib.hid hs
    have K1 := Lib.hid (hf.blk K0.out U0.out)
    have U1 := Lib.hid (hf.out K0.out.lt U0.out)
    clear hs hf
    go_wp2_with fail
    clear t1
    go_loopw [8] (fun i wr => ∃ (y : Nat) (s : Value), i = .int .i64 y ∧ y ≤ l.length ∧ Hid (Sys w wr [(p, s, m, srt (tag (l.take y)))]) ∧ Hid (Blk wr w.heap.size 24 #[.int .u64 y1, .int .u64 y2, .int .i64 y3, .int .i64 y4]) ∧ Hid (Out [(p, s, m, srt (tag (l.take y)))] w.heap.size))
      (fun i _ => l.length - (intOf i).toNat)
    case atStart => exact ⟨0, _, rfl, by omega, S1, K1, U1⟩
    case round =>
      obtain ⟨y, s, rfl, hy, HS, HK, HU⟩ := hrel
      by_cases hyl : y < l.length
      · obtain ⟨b, off, rfl, hb, c0, c1, c2, c3⟩ := HR.out.at_ HS.out.below hyl
        have HE := Lib.hid (show (if hasS (srt (tag (l.take y))) y = true then (15 : Int) else 0) = 0 by rw [tag_new l hyl]; rfl)
        have HP := Lib.hid (tag_push l hyl)
        have HL := Lib.hid (show (srt (tag (l.take y))).length ≤ 999999 by rw [srt_tag_len, List.length_take]; omega)
        generalize l.getD y (0, 0, 0, 0) = x at *
        obtain ⟨x1, x2, x3, x4⟩ := x
        dsimp only at c0 c1 c2 c3
        have t2 : (0 : Int) ≤ (y : Int) := by omega
        have t3 : (y : Int) < (l.length : Int) := by omega
        go_wp2_with fail
        refine (sys_push HS.out HL.out y (x1, x2, x3, x4) HE.out HP.out).mono ?_
        rintro e w2 ⟨s', rfl, hs, hf⟩
        have S2 := Lib.hid hs
        have K2 := Lib.hid (hf.blk HK.out HU.out)
        have U2 := Lib.hid (hf.out HK.out.lt HU.out)
        clear hs hf c0 c1 c2 c3
        go_wp2_with fail
        go_roundw
        case rel => exact ⟨y + 1, s', by go_num, by omega, S2, K2, U2⟩
        case measure => simp [intOf]; omega
      · obtain rfl : y = l.length := by omega
        rw [tag_all] at HS HU
        have HO := Lib.hid (srt_once (tag_once l))
        have HSo := Lib.hid (srt_sorted (tag_once l))
        generalize hS : srt (tag l) = S at *
        clear hS
        have t1 : ¬ (l.length : Int) < (l.length : Int) := by omega
        have HL := Lib.hid (show S.length ≤ 1000000 by rw [HN.out]; omega)
        go_wp2_with fail
        refine (sys_clone HS.out HL.out).mono ?_
        rintro e w2 ⟨q, t, j, rfl, hs, hf⟩
        have S2 := Lib.hid hs
        have k2 := hf.blk HK.out HU.out
        have c0 := k2.cell 0
        have c1 := k2.cell 1
        have c2 := k2.cell 2
        have c3 := k2.cell 3
        simp at c0 c1 c2 c3
        clear hs hf k2
        clear t1
        rcases lowerE_of S id (y1, y2, y3, y4) with ⟨hb, he⟩ | he
        · have HE := Lib.hid he
          have HW := Lib.hid (sooner HO.out HSo.out hb)
          have HLW := Lib.hid (show (lowerS S id (y1, y2, y3, y4)).length = l.length by rw [lower_len HO.out, HN.out])
          clear he hb
          go_wp2_with fail
          refine (sys_lower S2.out HL.out id (y1, y2, y3, y4) HE.out rfl).mono ?_
          rintro e w3 ⟨rfl, hs, _⟩
          have S3 := Lib.hid hs.swap
          clear hs c0 c1 c2 c3
          generalize lowerS S id (y1, y2, y3, y4) = T at *
          go_wp2_with fail
          refine (sys_order S3.out HL.out l.length HN.out.symm).mono ?_
          rintro e w4 ⟨z, s4, rfl, hs, ho, hr, _⟩
          obtain ⟨az, cz, rfl⟩ := ho.of_any
          have S4 := Lib.hid hs.swap
          have Z4 := Lib.hid ho
          have R4 := Lib.hid (show Row w3 [(q, t, j, T), (p, s4, m, [])] _ from fun b hb => ⟨(hr b hb).1, (hr b hb).2.swap⟩)
          clear hs ho hr
          go_wp2_with fail
          refine (sys_order S4.out (by rw [HLW.out]; omega) l.length HLW.out.symm).mono ?_
          rintro e w5 ⟨z', t5, rfl, hs, ho, hr, hf⟩
          obtain ⟨az', cz', rfl⟩ := ho.of_any
          have B5 := Lib.hid hs.below
          have Z5 := Lib.hid ho
          have Y5 := Lib.hid (R4.out.far hf Z4.out).2
          clear hs ho hr hf
          have G5 := Lib.hid (ab_new w5)
          go_wp2_with fail
          obtain ⟨p1, p2, hp1, hp2, hp3, hp4⟩ := HW.out
          rw [HN.out] at hp1 hp2 hp4
          have P1 := Lib.hid hp1
          have P2 := Lib.hid hp2
          have P3 := Lib.hid hp3
          have P4 := Lib.hid hp4
          have HX := Lib.hid (show (ids S).length = l.length by simp [HN.out])
          have HY := Lib.hid (show (ids T).length = l.length by simp [HLW.out])
          clear hp1 hp2 hp3 hp4 HW S2 S3 S4 R4 Z4 HK HU K0 K1 U0 U1 S0 S1 HO HSo HE HS HL
          generalize ids S = X at *
          generalize ids T = Y at *
          go_loopw [12, 13, 14, 15, 16] (fun at_ to_ oa ob i wr => ∃ (y : Nat), i = .int .i64 y ∧ y ≤ l.length ∧ at_ = .int .i64 (seek X id y) ∧ to_ = .int .i64 (seek Y id y) ∧ Hid (AB w5 wr oa ob (rest X id y) (rest Y id y)))
            (fun _ _ _ _ i _ => l.length - (intOf i).toNat)
          case atStart => exact ⟨0, rfl, by omega, rfl, rfl, G5⟩
          case round =>
            obtain ⟨y, rfl, hy, rfl, rfl, HG⟩ := hrel
            obtain ⟨aa, ca, rfl⟩ := HG.out.a.of_any
            obtain ⟨ab, cb, rfl⟩ := HG.out.b.of_any
            by_cases hyl : y < l.length
            · obtain ⟨b1, c1, u1, e1, _⟩ := Y5.out.of_pos (by omega)
              simp only [Value.slice.injEq, true_and] at e1
              obtain ⟨rfl, rfl⟩ := e1
              obtain ⟨b2, c2, u2, e2, _⟩ := Z5.out.of_pos (by omega)
              simp only [Value.slice.injEq, true_and] at e2
              obtain ⟨rfl, rfl⟩ := e2
              have ltY := Z5.out.lt (b := b2) rfl
              have cX := (HG.out.below.cell (p := ⟨b1, y, none⟩) (Y5.out.lt (b := b1) rfl)).trans (own_int Y5.out (i := y) (by rw [HX.out]; omega))
              have cY0 := own_int Z5.out (i := y) (by rw [HY.out]; omega)
              have cY := (HG.out.below.cell (p := ⟨b2, y, none⟩) ltY).trans cY0
              have HRX := Lib.hid (rest_succ X id (i := y) (by rw [HX.out]; omega))
              have HRY := Lib.hid (rest_succ Y id (i := y) (by rw [HY.out]; omega))
              have HSX := Lib.hid (show seek X id (y + 1) = if X.getD y 0 = id then (y : Int) else seek X id y from rfl)
              have HSY := Lib.hid (show seek Y id (y + 1) = if Y.getD y 0 = id then (y : Int) else seek Y id y from rfl)
              have lX := rest_len X id y
              have lY := rest_len Y id y
              generalize X.getD y 0 = x at *
              generalize Y.getD y 0 = z at *
              have t2 : (0 : Int) ≤ (y : Int) := by omega
              have t3 : (y : Int) < (l.length : Int) := by omega
              generalize seek X id y = sx at *
              generalize seek Y id y = sy at *
              generalize rest X id y = rx at *
              generalize rest Y id y = ry at *
              by_cases ex : x = id
              · have hx : (x == id) = true := by simpa using ex
                by_cases ez : z = id
                · have hz : (z == id) = true := by simpa using ez
                  go_wp2_with fail
                  go_roundw
                  case rel => exact ⟨y + 1, by go_num, by omega, by rw [HSX.out, if_pos ex], by rw [HSY.out, if_pos ez], Lib.hid (by rw [HRX.out, if_pos ex, HRY.out, if_pos ez]; exact HG.out)⟩
                  case measure => simp [intOf]; omega
                · have hz : (z == id) = false := by simpa using ez
                  go_wp2_with (at_builtin; refine wpList_append_fresh _ rfl (.tmp 102) (.tmp 107) 37 rfl 3 i0 (.int .i64 0) 1 8 Try.underlying37 hi0 hz0 hz1 hz2 rfl (by decide) _ _ _ rfl (HG.out.b.alloc _) (some ⟨wr.heap.size, 0, none⟩) 1 1 [.int .i64 z] rfl rfl (fun _ => ⟨_, rfl, cell_one_new _ _ _⟩) (by simp [Value.oneCell']) (by simp [maxLen]; omega) (by omega) ?_; intro vb wb ho2 hg2 hf2; have Hwb := Lib.hid ((AB.app ((HG.out.mono (by go_grown)).swap) ho2 rfl hg2 hf2).swap); clear ho2 hg2 hf2)
                  go_wp2_with fail
                  go_roundw
                  case rel => exact ⟨y + 1, by go_num, by omega, by rw [HSX.out, if_pos ex], by rw [HSY.out, if_neg ez], Lib.hid (by rw [HRX.out, if_pos ex, HRY.out, if_neg ez]; exact Hwb.out)⟩
                  case measure => simp [intOf]; omega
              · have hx : (x == id) = false := by simpa using ex
                by_cases ez : z = id
                · have hz : (z == id) = true := by simpa using ez
                  go_wp2_with (at_builtin; refine wpList_append_fresh _ rfl (.tmp 88) (.tmp 93) 37 rfl 3 i0 (.int .i64 0) 1 8 Try.underlying37 hi0 hz0 hz1 hz2 rfl (by decide) _ _ _ rfl (HG.out.a.alloc _) (some ⟨wr.heap.size, 0, none⟩) 1 1 [.int .i64 x] rfl rfl (fun _ => ⟨_, rfl, cell_one_new _ _ _⟩) (by simp [Value.oneCell']) (by simp [maxLen]; omega) (by omega) ?_; intro va wa ho2 hg2 hf2; have Hwa := Lib.hid ((AB.app (HG.out.mono (by go_grown)) ho2 rfl hg2 hf2)); clear ho2 hg2 hf2; replace cY := (Hwa.out.below.cell (p := ⟨b2, y, none⟩) ltY).trans cY0)
                  go_wp2_with fail
                  go_roundw
                  case rel => exact ⟨y + 1, by go_num, by omega, by rw [HSX.out, if_neg ex], by rw [HSY.out, if_pos ez], Lib.hid (by rw [HRX.out, if_neg ex, HRY.out, if_pos ez]; exact Hwa.out)⟩
                  case measure => simp [intOf]; omega
                · have hz : (z == id) = false := by simpa using ez
                  go_wp2_with (first | (at_builtin; refine wpList_append_fresh _ rfl (.tmp 88) (.tmp 93) 37 rfl 3 i0 (.int .i64 0) 1 8 Try.underlying37 hi0 hz0 hz1 hz2 rfl (by decide) _ _ _ rfl (HG.out.a.alloc _) (some ⟨wr.heap.size, 0, none⟩) 1 1 [.int .i64 x] rfl rfl (fun _ => ⟨_, rfl, cell_one_new _ _ _⟩) (by simp [Value.oneCell']) (by simp [maxLen]; omega) (by omega) ?_; intro va wa ho2 hg2 hf2; have Hwa := Lib.hid ((AB.app (HG.out.mono (by go_grown)) ho2 rfl hg2 hf2)); clear ho2 hg2 hf2; replace cY := (Hwa.out.below.cell (p := ⟨b2, y, none⟩) ltY).trans cY0) | (at_builtin; refine wpList_append_fresh _ rfl (.tmp 102) (.tmp 107) 37 rfl 3 i0 (.int .i64 0) 1 8 Try.underlying37 hi0 hz0 hz1 hz2 rfl (by decide) _ _ _ rfl (Hwa.out.b.alloc _) (some ⟨wa.heap.size, 0, none⟩) 1 1 [.int .i64 z] rfl rfl (fun _ => ⟨_, rfl, cell_one_new _ _ _⟩) (by simp [Value.oneCell']) (by simp [maxLen]; omega) (by omega) ?_; intro vb wb ho2 hg2 hf2; have Hwb := Lib.hid ((AB.app ((Hwa.out.mono (by go_grown)).swap) ho2 rfl hg2 hf2).swap); clear ho2 hg2 hf2))
                  go_wp2_with fail
                  go_roundw
                  case rel => exact ⟨y + 1, by go_num, by omega, by rw [HSX.out, if_neg ex], by rw [HSY.out, if_neg ez], Lib.hid (by rw [HRX.out, if_neg ex, HRY.out, if_neg ez]; exact Hwb.out)⟩
                  case measure => simp [intOf]; omega
            · obtain rfl : y = l.length := by omega
              rw [P1.out, P2.out, P4.out]
              rw [P4.out] at HG
              have lX := rest_len X id l.length
              have HP := P3.out
              clear P1 P2 P3 P4
              generalize rest X id l.length = R at *
              have t1 : ¬ (l.length : Int) < (l.length : Int) := by omega
              have t2 : ¬ (p1 : Int) < 0 := by omega
              have t3 : ¬ (p2 : Int) < 0 := by omega
              have t4 : ¬ (p1 : Int) < (p2 : Int) := by omega
              go_wp2_with fail
              clear t1 t2 t3 t4
              go_loopw [17] (fun i wx => ∃ (y : Nat), i = .int .i64 y ∧ y ≤ R.length ∧ Hid (AB w5 wx (.slice aa R.length ca) (.slice ab R.length cb) R R))
                (fun i _ => R.length - (intOf i).toNat)
              case atStart => exact ⟨0, rfl, by omega, HG⟩
              case round =>
                obtain ⟨y, rfl, hy, HG⟩ := hrel
                by_cases hyl : y < R.length
                · obtain ⟨b1, c1, u1, e1, _⟩ := HG.out.a.of_pos (by omega)
                  simp only [Value.slice.injEq, true_and] at e1
                  obtain ⟨rfl, rfl⟩ := e1
                  obtain ⟨b2, c2, u2, e2, _⟩ := HG.out.b.of_pos (by omega)
                  simp only [Value.slice.injEq, true_and] at e2
                  obtain ⟨rfl, rfl⟩ := e2
                  have cX := own_int HG.out.a hyl
                  have cY := own_int HG.out.b hyl
                  generalize R.getD y 0 = x at *
                  have t2 : (0 : Int) ≤ (y : Int) := by omega
                  have t3 : (y : Int) < (R.length : Int) := by omega
                  go_wp2_with fail
                  go_quiet (fail)
                  go_wp2_with fail
                  go_roundw
                  case rel => exact ⟨y + 1, by go_num, by omega, Lib.hid (HG.out.mono (below_drewN (Below.refl _ _) _))⟩
                  case measure => simp [intOf]; omega
                · have t3 : ¬ (y : Int) < (R.length : Int) := by omega
                  go_wp2_with fail
                  refine (awake_true _).mono ?_
                  rintro e w9 ⟨rfl, hb⟩
                  have HB9 := Lib.hid (bl B5.out (bl HG.out.below hb))
                  clear hb
                  go_wp2_with fail
                  go_ret
                  exact ⟨rfl, HB9.out⟩
        · rcases he with he | he
          all_goals
            have HE := Lib.hid he
            clear he
            go_wp2_with fail
            refine (sys_lower S2.out HL.out id (y1, y2, y3, y4) HE.out rfl).mono ?_
            rintro e w3 ⟨rfl, hs, _⟩
            have B3 := Lib.hid hs.below
            clear hs c0 c1 c2 c3
            go_wp2_with fail
            refine (awake_true _).mono ?_
            rintro e w9 ⟨rfl, hb⟩
            have HB9 := Lib.hid (bl B3.out hb)
            clear hb
            go_wp2_with fail
            go_ret
            exact ⟨rfl, HB9.out⟩
end Go.Proofs.Ytffgjjlamdaajaa
