/- The walk of the law CacheOwn: for every input it returns true, and writes to new memory alone. -/
import Derived.Test.YtoecclpfgdfpoaaQ
namespace Go.Proofs.Ytoecclpfgdfpoaa
open Go.RowKit

theorem RowA.drewQ {w : World} {a : Option Addr} {l : List Ac} (h : RowA w a l) (n : Nat) : RowA (w.drewN n) a l := h.fresh (drewN_below w n)

/-- A cache, another one, and a row of numbers, apart from one another, in memory from B on. -/
structure OwnSt (B : Nat) (w0 w : World) (p : Nat) (s : Value) (q : Nat) (t ks : Value) (room : Int) (A L : List Th) (K : List Int) : Prop where
  c1 : Cch w p s room A
  c2 : Cch w q t room L
  two : Two B p s q t
  ow : Own w 3 1 ks K.length (ints K)
  sp : ∀ b, ks.ownBlock = some b → B ≤ b ∧ ¬ O p s b ∧ ¬ O q t b
  ln : (L.length : Int) ≤ room
  bb : Below B w0 w

theorem OwnSt.fresh {w0 w w' : World} {p q : Nat} {s t ks : Value} {room : Int} {A L : List Th} {K : List Int} (h : OwnSt w0.heap.size w0 w p s q t ks room A L K) (hb : Below w.heap.size w w') : OwnSt w0.heap.size w0 w' p s q t ks room A L K :=
  ⟨h.c1.fresh hb, h.c2.fresh hb, h.two, h.ow.kept (Kept.of_below hb) (fun b hb => by have := h.ow.lt hb; omega), h.sp, h.ln, bl h.bb hb⟩

/-- Behind a call on the second one. -/
theorem OwnSt.call {w0 w w' : World} {p q : Nat} {s t t' ks : Value} {room : Int} {A L L' : List Th} {K : List Int} (h : OwnSt w0.heap.size w0 w p s q t ks room A L K)
    (hc : Cch w' q t' room L') (hk : Kept (O q t) w w') (hf : Fresh w t t') (hl : (L'.length : Int) ≤ room) : OwnSt w0.heap.size w0 w' p s q t' ks room A L' K := by
  have ht : Two w0.heap.size q t' p s := h.two.swap.step hf h.bb.size (fun b hb => h.c1.lt hb)
  refine ⟨h.c1.kept hk (fun b hb hq => h.two.apart b hb hq), hc, ht.swap, h.ow.kept hk (fun b hb => (h.sp b hb).2.2), fun b hb => ⟨(h.sp b hb).1, (h.sp b hb).2.1, fun ho => ?_⟩, hl, h.bb.trans (cache_below hk h.two.hq h.two.ht h.bb.size)⟩
  rcases ho with e | e
  · exact (h.sp b hb).2.2 (.inl e)
  · rcases hf b e with e | e
    · exact (h.sp b hb).2.2 (.inr e)
    · have := h.ow.lt hb; omega

/-- One cache, in memory from B on. -/
structure OneSt (B : Nat) (w0 w : World) (p : Nat) (s : Value) (room : Int) (A : List Th) : Prop where
  c1 : Cch w p s room A
  hp : B ≤ p
  hs : ∀ b, s.ownBlock = some b → B ≤ b
  bb : Below B w0 w

set_option maxRecDepth 100000 in
set_option maxHeartbeats 8000000 in
theorem wOwn_run (R m : Nat) (a : Option Addr) (cap : Nat) (l : List Ac) (w : World) (ha : RowA w a l) (hR1 : 1 ≤ R) (hR : R ≤ 16) (hl : l.length ≤ 60) (hm : m ≤ l.length) (hcap : l.length ≤ cap) :
    Calls Try.prog 6 #[.int .i64 (R : Int), .slice a l.length cap, .int .i64 m] w fun e w' => e = .returned (.bool true) ∧ Below w.heap.size w w' := by
  have HA := Lib.hid ha
  have HL := Lib.hid (fun k hk => puts_snoc (R : Int) l k hk)
  have HB1 := Lib.hid (fun k => puts_len (room := (R : Int)) (by omega) (l.take k))
  have HVP := Lib.hid (fun k hk => val_puts (R : Int) l m hm k hk)
  have hr1 : (1 : Int) ≤ (R : Int) := by omega
  have hr2 : (R : Int) ≤ 16 := by omega
  have hm0 : (0 : Int) ≤ (m : Int) := by omega
  have hm1 : (m : Int) ≤ (cap : Int) := by omega
  have hd0 : decide (l.length < m) = false := by simp; omega
  clear ha
  go_enter Try.func6, Try.ntmps6
  go_wp2_with fail
  refine (get_nil 1 _).mono ?_
  rintro e w1 ⟨rfl, hb⟩
  have B1 := Lib.hid hb
  clear hb
  go_wp2_with fail
  refine (peek_nil 1 _).mono ?_
  rintro e w2 ⟨rfl, hb⟩
  have B2 := Lib.hid (bl B1.out hb)
  clear hb
  go_wp2_with fail
  refine (put_nil 1 2 _).mono ?_
  rintro e w3 ⟨rfl, hb⟩
  have B3 := Lib.hid (bl B2.out hb)
  clear hb B1 B2
  go_wp2_with fail
  refine (len_nil _).mono ?_
  rintro e w4 ⟨rfl, rfl⟩
  go_wp2_with fail
  refine (keys_nil _).mono ?_
  rintro e w4 ⟨rfl, rfl⟩
  go_wp2_with fail
  refine (clone_nil _).mono ?_
  rintro e w4 ⟨rfl, rfl⟩
  go_wp2_with fail
  refine (new_yes R hr1 hr2 _).mono ?_
  rintro e w5 ⟨p, rfl, hc1, hp1, hb1⟩
  have ST := Lib.hid (show OneSt w.heap.size w w5 p (.slice none 0 0) R (puts (R : Int) (l.take 0)) from ⟨hc1, Nat.le_trans B3.out.size hp1, fun b h => by simp [Value.ownBlock] at h, bl B3.out hb1⟩)
  clear hc1 hp1 hb1 B3
  go_wp2_with fail
  go_loopw [16] (fun i wr => ∃ (k : Nat) (s : Value), k ≤ m ∧ i = .int .i64 k ∧ OneSt w.heap.size w wr p s R (puts (R : Int) (l.take k)))
    (fun i _ => m - (intOf i).toNat)
  case atStart => exact ⟨0, _, by omega, rfl, ST.out⟩
  case round =>
    obtain ⟨k, s, hk, rfl, hst⟩ := hrel
    have HS := Lib.hid hst
    clear hst ST
    by_cases hlt : k < m
    · have hkl : k < l.length := by omega
      obtain ⟨b, off, rfl, hbw, q0, q1, q2⟩ := HA.out.at_ HS.out.bb hkl
      have k0 : (0 : Int) ≤ (k : Int) := by omega
      have k1 : (k : Int) < (l.length : Int) := by omega
      have HLk := Lib.hid (HL.out k hkl)
      generalize (l.getD k (0, 0, 0)).2.1 = key at *
      generalize (l.getD k (0, 0, 0)).2.2 = v at *
      clear q0
      go_wp2_with fail
      go_still_tail 11, (by kernel_rfl)
      change wpList _ _ _ _ _ wr.drew
      go_wp2_with fail
      refine (put_any p s R _ key v _ (by exact (HS.out.c1.fresh ((Below.refl _ _).drew))) (HB1.out k) hr1 hr2).mono ?_
      rintro e w6 ⟨s', rfl, hc, hkk, hf⟩
      rw [← HLk.out] at hc
      have S6 := Lib.hid (show OneSt w.heap.size w w6 p s' R (puts (R : Int) (l.take (k + 1))) from ⟨hc, HS.out.hp, fresh_from hf HS.out.hs HS.out.bb.size, HS.out.bb.drew.trans (cache_below hkk HS.out.hp HS.out.hs HS.out.bb.size)⟩)
      clear hc hkk hf
      go_wp2_with fail
      go_roundw
      case rel => exact ⟨k + 1, s', by omega, by go_num, S6.out⟩
      case measure => simp [intOf]; omega
    · obtain rfl : k = m := by omega
      have hA := HB1.out k
      generalize hA1 : puts (R : Int) (l.take k) = A at *
      have EA := Lib.hid hA1
      clear hA1 hlt
      go_wp2_with fail
      refine (clone_any p s R A _ HS.out.c1 (by omega)).mono ?_
      rintro e w6 ⟨q, t, rfl, hc2, hq, ht, hb6⟩
      have C1 := Lib.hid (HS.out.c1.fresh hb6)
      have TW := Lib.hid (show Two w.heap.size p s q t from ⟨HS.out.hp, Nat.le_trans HS.out.bb.size hq, HS.out.hs, fun b hb => Nat.le_trans HS.out.bb.size (ht b hb), fun b h1 h2 => by
        have e1 := HS.out.c1.lt h1
        rcases h2 with e | e
        · omega
        · have := ht b e; omega⟩)
      have C2 := Lib.hid hc2
      have B6 := Lib.hid (bl HS.out.bb hb6)
      clear hc2 hq ht hb6 HS
      go_wp2_with fail
      refine (keys_any p s R A _ C1.out (by omega)).mono ?_
      rintro e w7 ⟨ks, rfl, ho, hbo, hb7⟩
      rw [keys_len] at ho
      obtain ⟨ak, ck, rfl⟩ := ho.of_any
      have S7 := Lib.hid (show OwnSt w.heap.size w w7 p s q t (.slice ak A.length ck) R A A (keys A) from ⟨C1.out.fresh hb7, C2.out.fresh hb7, TW.out, by rw [keys_len]; exact ho, fun b hb => by
        have := hbo b hb
        exact ⟨Nat.le_trans B6.out.size this, fun h => by have := C1.out.lt h; omega, fun h => by have := C2.out.lt h; omega⟩, hA, bl B6.out hb7⟩)
      clear ho hbo hb7 C1 C2 TW B6
      go_wp2_with fail
      refine (keys_any q t R A _ S7.out.c2 (by omega)).mono ?_
      rintro e w8 ⟨ks2, rfl, ho, hbo, hb8⟩
      obtain ⟨a8, c8, rfl, hn8, r8⟩ := row_of_own ho
      have R8 := Lib.hid r8
      have S8 := Lib.hid (S7.out.fresh hb8)
      clear ho hbo hb8 hn8 r8 S7
      obtain ⟨ak', ck', e9, _, hrk⟩ := row_of_own S8.out.ow
      have RK := Lib.hid (show RowI w8 ak (keys A) by simp only [Value.slice.injEq] at e9; rw [e9.1]; exact hrk)
      clear e9 hrk
      rw [keys_len]
      go_wp2_with fail
      refine (ints_n A.length a8 ak c8 ck (keys A) _ R8.out RK.out (keys_len A) (by omega)).mono ?_
      rintro e w9 ⟨rfl, hb9⟩
      have S9 := Lib.hid (S8.out.fresh hb9)
      clear hb9 S8 R8 RK
      go_wp2_with fail
      obtain ⟨wo, hwo⟩ : ∃ wo : World, wo = w9 := ⟨_, rfl⟩
      subst hwo
      go_loopw [19] (fun i wq => ∃ (j : Nat) (t' : Value) (L : List Th), k ≤ j ∧ j ≤ l.length ∧ i = .int .i64 j ∧ OwnSt w.heap.size w wq p s q t' (.slice ak A.length ck) R A L (keys A))
        (fun i _ => l.length - (intOf i).toNat)
      case atStart => exact ⟨k, t, A, Nat.le_refl _, hm, rfl, S9.out⟩
      case round =>
        obtain ⟨j, t', L, hj0, hj, rfl, hst⟩ := hrel
        have SJ := Lib.hid hst
        clear hst
        by_cases hjl : j < l.length
        · obtain ⟨b, off, rfl, hbw, q0, q1, q2⟩ := HA.out.at_ SJ.out.bb hjl
          have j0 : (0 : Int) ≤ (j : Int) := by omega
          have j1 : (j : Int) < (l.length : Int) := by omega
          generalize (l.getD j (0, 0, 0)).2.1 = key at *
          generalize (l.getD j (0, 0, 0)).2.2 = v at *
          clear q0
          go_wp2_with fail
          go_still_tail 12, (by kernel_rfl)
          change wpList _ _ _ _ _ wr.drew
          go_wp2_with fail
          refine (put_any q t' R L key _ _ (by exact (SJ.out.c2.fresh ((Below.refl _ _).drew))) SJ.out.ln hr1 hr2).mono ?_
          rintro e w10 ⟨t2, rfl, hc, hkk, hf⟩
          have S10 := Lib.hid (SJ.out.call hc ((Kept.refl (O q t') wr).drew.trans hkk (fun b h => .inl h)) hf (putL_len SJ.out.ln _ _ hr1))
          clear hc hkk hf
          have q22 : w10.cell? ⟨b, off + j * 3 + 2, none⟩ = some (.int .i64 v) := (S10.out.bb.cell (p := ⟨b, off + j * 3 + 2, none⟩) hbw).trans ((SJ.out.bb.cell (p := ⟨b, off + j * 3 + 2, none⟩) hbw).symm.trans q2)
          clear SJ
          go_wp2_with fail
          refine (get_any q t2 R _ v _ S10.out.c2 (by have := S10.out.ln; omega)).mono ?_
          rintro e w11 ⟨rfl, hc, hkk⟩
          have S11 := Lib.hid (S10.out.call hc hkk (fun b hb => .inl hb) (by rw [getL_len]; exact S10.out.ln))
          clear hc hkk
          go_wp2_with fail
          go_roundw
          case rel => exact ⟨j + 1, t2, _, by omega, by omega, by go_num, S11.out⟩
          case measure => simp [intOf]; omega
        · go_wp2_with fail
          refine (keys_any p s R A _ SJ.out.c1 (by omega)).mono ?_
          rintro e w10 ⟨kv, rfl, ho, hbo, hb⟩
          obtain ⟨a10, c10, rfl, hn10, r10⟩ := row_of_own ho
          have S10 := Lib.hid (SJ.out.fresh hb)
          have R10 := Lib.hid r10
          obtain ⟨ak', ck', e9, _, hrk⟩ := row_of_own S10.out.ow
          have RK := Lib.hid (show RowI w10 ak (keys A) by simp only [Value.slice.injEq] at e9; rw [e9.1]; exact hrk)
          clear ho hbo hb hn10 r10 e9 hrk SJ
          rw [keys_len]
          go_wp2_with fail
          refine (ints_n A.length a10 ak c10 ck (keys A) _ R10.out RK.out (keys_len A) (by omega)).mono ?_
          rintro e w11 ⟨rfl, hb⟩
          have S11 := Lib.hid (S10.out.fresh hb)
          have RK11 := Lib.hid (RK.out.fresh hb)
          clear hb S10 R10 RK
          go_wp2_with fail
          obtain ⟨wo2, hwo2⟩ : ∃ wo2 : World, wo2 = w11 := ⟨_, rfl⟩
          subst hwo2
          go_loopw [20] (fun i wq => ∃ x : Nat, x ≤ A.length ∧ i = .int .i64 x ∧ Below wo2.heap.size wo2 wq)
            (fun i _ => A.length - (intOf i).toNat)
          case atStart => exact ⟨0, by omega, rfl, Below.refl _ _⟩
          case round =>
            obtain ⟨x, hx, rfl, hbq⟩ := hrel
            have BQ := Lib.hid hbq
            clear hbq
            by_cases hmt : x < A.length
            · obtain ⟨b8, o8, rfl, hb8, q8⟩ := RK11.out.at_ (show x < (keys A).length by rw [keys_len]; exact hmt)
              replace q8 := (BQ.out.cell (p := ⟨b8, o8 + x, none⟩) hb8).trans q8
              have m0 : (0 : Int) ≤ (x : Int) := by omega
              have m1 : (x : Int) < (A.length : Int) := by omega
              have hmem : (keys A).getD x 0 ∈ keys A := by
                rw [List.getD_eq_getElem?_getD, List.getElem?_eq_getElem (by rw [keys_len]; exact hmt)]
                exact List.getElem_mem _
              have z1 := (has_iff A _).2 hmem
              have z2 := HVP.out _ hmem
              have S12 := Lib.hid (S11.out.fresh BQ.out)
              generalize (keys A).getD x 0 = key' at *
              have P1 := Lib.hid (fun (W : World) (hW : Below wr.heap.size wr W) => by have := peek_yes p s R A key' W ((S12.out.fresh hW).c1) (by omega) z1; rw [z2] at this; exact this)
              generalize hlz' : lastV (l.take k) key' = v' at *
              have HLZ := Lib.hid hlz'
              have HTL := Lib.hid (show (l.take k).length = k by rw [List.length_take]; omega)
              have HKL := Lib.hid (show k ≤ 1000000 by omega)
              clear z1 z2 hmem hlz'
              go_wp2_with fail
              refine (P1.out _ (Below.refl _ _)).mono ?_
              rintro e w13 ⟨rfl, hb⟩
              have q9 := (hb.cell (p := ⟨b8, o8 + x, none⟩) (Nat.lt_of_lt_of_le hb8 BQ.out.size)).trans q8
              have B8 := Lib.hid (bl BQ.out hb)
              have A8 := Lib.hid ((HA.out.fresh (bl S11.out.bb B8.out)).take k)
              clear hb q8 S12
              go_wp2_with fail
              go_quiet ((go_at_call 26; exact Calls.quiet_of_same (last_any k a cap (l.take k) key' v' _ (A8.out.drewQ _) HTL.out HKL.out HLZ.out)))
              go_wp2_with fail
              go_roundw
              case rel => exact ⟨x + 1, by omega, by go_num, below_drewN B8.out _⟩
              case measure => simp [intOf]; omega
            · have S12 := Lib.hid (S11.out.fresh BQ.out)
              have RK12 := Lib.hid (RK11.out.fresh BQ.out)
              clear S11 RK11
              go_wp2_with fail
              refine (keys_any p s R A _ S12.out.c1 (by omega)).mono ?_
              rintro e w14 ⟨kv2, rfl, ho, hbo, hb⟩
              obtain ⟨at_, ct, rfl⟩ := ho.of_any
              have S14 := Lib.hid (S12.out.fresh hb)
              have HT := Lib.hid (show ∀ b, (Value.slice at_ (keys A).length ct).ownBlock = some b → w.heap.size ≤ b ∧ ¬ O p s b ∧ ¬ (Value.slice ak A.length ck).ownBlock = some b by
                intro b hb'
                rw [keys_len] at hbo hb'
                have := hbo b hb'
                exact ⟨Nat.le_trans S12.out.bb.size this, fun h => by have := S12.out.c1.lt h; omega, fun h => by have := S12.out.ow.lt h; omega⟩)
              have HO := Lib.hid ho
              clear ho hbo hb S12 RK12
              rw [keys_len] at HO HT ⊢
              go_wp2_with fail
              go_loopw [24] (fun i wq => ∃ (x : Nat) (zs : List Int), x ≤ A.length ∧ i = .int .i64 x ∧ zs.length = A.length ∧ Own wq 3 1 (.slice at_ A.length ct) A.length (ints zs) ∧ Cch wq p s R A ∧ Own wq 3 1 (.slice ak A.length ck) (keys A).length (ints (keys A)) ∧ Below w.heap.size w wq)
                (fun i _ => A.length - (intOf i).toNat)
              case atStart => exact ⟨0, keys A, by omega, rfl, keys_len A, HO.out, S14.out.c1, S14.out.ow, S14.out.bb⟩
              case round =>
                obtain ⟨x, zs, hx, rfl, hzl, hot, hct, hok, hbt⟩ := hrel
                have OT := Lib.hid hot
                have CT := Lib.hid hct
                have OK := Lib.hid hok
                have BT := Lib.hid hbt
                clear hot hct hok hbt S14
                by_cases hmt2 : x < A.length
                · obtain ⟨g, cap', cur, e1, hgb, _⟩ := OT.out.of_pos (by omega)
                  simp only [Value.slice.injEq, true_and] at e1
                  obtain ⟨rfl, rfl⟩ := e1
                  have q3 : wr.cell? ⟨g, x, none⟩ = some (.int .i64 (zs.getD x 0)) := by
                    rw [World.ownsRow.cellAt OT.out x (by omega), ints_get (by omega)]
                  have f3 := World.ownsRow.frozenAt OT.out x
                  have m0 : (0 : Int) ≤ (x : Int) := by omega
                  have m1 : (x : Int) < (A.length : Int) := by omega
                  generalize zs.getD x 0 = z at *
                  have HK : ∀ u, Kept (fun b => (Value.slice (some ⟨g, 0, none⟩) A.length ct).ownBlock = some b) wr (wr.setCell ⟨g, x, none⟩ u) := fun u => Kept.setCell (Kept.refl (fun b => (Value.slice (some ⟨g, 0, none⟩) A.length ct).ownBlock = some b) wr) (p := ⟨g, x, none⟩) (.inl rfl) u
                  have HKH := Lib.hid HK
                  have OS := Lib.hid (fun u => (World.ownsRow.stored OT.out x (.int .i64 u)).1)
                  clear HK hgb
                  go_wp2_with fail
                  go_roundw
                  case rel =>
                    refine ⟨x + 1, zs.set x (wrap64 (z + 1)), by omega, by go_num, by simpa using hzl, ?_, CT.out.kept (HKH.out _) (fun b ho hb => (HT.out b hb).2.1 ho), OK.out.kept (HKH.out _) (fun b ho hb => (HT.out b hb).2.2 ho), BT.out.trans ((HKH.out _).below (fun b _ hb => (HT.out b hb).1) BT.out.size)⟩
                    have := OS.out (wrap64 (z + 1))
                    rw [show (ints zs).set x (.int .i64 (wrap64 (z + 1))) = ints (zs.set x (wrap64 (z + 1))) by simp [ints, List.map_set]] at this
                    exact this
                  case measure => simp [intOf]; omega
                · go_wp2_with fail
                  refine (keys_any p s R A _ CT.out (by omega)).mono ?_
                  rintro e w15 ⟨kv3, rfl, ho, hbo, hb⟩
                  obtain ⟨a15, c15, rfl, hn15, r15⟩ := row_of_own ho
                  have R15 := Lib.hid r15
                  have B15 := Lib.hid (bl BT.out hb)
                  obtain ⟨ak', ck', e9, _, hrk⟩ := row_of_own OK.out
                  have RK15 := Lib.hid (show RowI w15 ak (keys A) by simp only [Value.slice.injEq] at e9; rw [e9.1]; exact hrk.fresh hb)
                  clear ho hbo hb hn15 r15 e9 hrk
                  rw [keys_len]
                  go_wp2_with fail
                  refine (ints_n A.length a15 ak c15 ck (keys A) _ R15.out RK15.out (keys_len A) (by omega)).mono ?_
                  rintro e w16 ⟨rfl, hb⟩
                  have B16 := Lib.hid (bl B15.out hb)
                  clear hb
                  go_wp2_with fail
                  refine (awake_any _).mono ?_
                  rintro e w17 ⟨rfl, hb⟩
                  have B17 := Lib.hid (bl B16.out hb)
                  clear hb
                  go_wp2
                  go_ret
                  exact ⟨rfl, B17.out⟩
set_option maxRecDepth 100000 in
set_option maxHeartbeats 2000000 in
theorem wOwn_no1 (room at_ : Int) (a : Option Addr) (n cap : Nat) (w : World) (h1 : room < 1 ∨ 16 < room) :
    Calls Try.prog 6 #[.int .i64 room, .slice a n cap, .int .i64 at_] w fun e w' => e = .returned (.bool true) ∧ Below w.heap.size w w' := by
  have H1 := Lib.hid h1
  clear h1
  go_enter Try.func6, Try.ntmps6
  go_wp2_with fail
  refine (get_nil 1 _).mono ?_
  rintro e w1 ⟨rfl, hb⟩
  have B1 := Lib.hid hb
  clear hb
  go_wp2_with fail
  refine (peek_nil 1 _).mono ?_
  rintro e w2 ⟨rfl, hb⟩
  have B2 := Lib.hid (bl B1.out hb)
  clear hb
  go_wp2_with fail
  refine (put_nil 1 2 _).mono ?_
  rintro e w3 ⟨rfl, hb⟩
  have B3 := Lib.hid (bl B2.out hb)
  clear hb B1 B2
  go_wp2_with fail
  refine (len_nil _).mono ?_
  rintro e w4 ⟨rfl, rfl⟩
  go_wp2_with fail
  refine (keys_nil _).mono ?_
  rintro e w4 ⟨rfl, rfl⟩
  go_wp2_with fail
  refine (clone_nil _).mono ?_
  rintro e w4 ⟨rfl, rfl⟩
  go_wp2_with fail
  refine (new_no room H1.out _).mono ?_
  rintro e w5 ⟨rfl, rfl⟩
  have B5 := Lib.hid B3.out
  go_wp2_with fail
  refine (awake_any _).mono ?_
  rintro e w6 ⟨rfl, hb⟩
  have B6 := Lib.hid (bl B5.out hb)
  clear hb
  go_wp2
  go_ret
  exact ⟨rfl, B6.out⟩

set_option maxRecDepth 100000 in
set_option maxHeartbeats 2000000 in
theorem wOwn_no2 (room at_ : Int) (a : Option Addr) (n cap : Nat) (w : World) (h1 : 1 ≤ room ∧ room ≤ 16) (hn : n ≤ 9223372036854775807) (h : 60 < n) :
    Calls Try.prog 6 #[.int .i64 room, .slice a n cap, .int .i64 at_] w fun e w' => e = .returned (.bool true) ∧ Below w.heap.size w w' := by
  have H1 := Lib.hid h1
  clear h1
  go_enter Try.func6, Try.ntmps6
  go_wp2_with fail
  refine (get_nil 1 _).mono ?_
  rintro e w1 ⟨rfl, hb⟩
  have B1 := Lib.hid hb
  clear hb
  go_wp2_with fail
  refine (peek_nil 1 _).mono ?_
  rintro e w2 ⟨rfl, hb⟩
  have B2 := Lib.hid (bl B1.out hb)
  clear hb
  go_wp2_with fail
  refine (put_nil 1 2 _).mono ?_
  rintro e w3 ⟨rfl, hb⟩
  have B3 := Lib.hid (bl B2.out hb)
  clear hb B1 B2
  go_wp2_with fail
  refine (len_nil _).mono ?_
  rintro e w4 ⟨rfl, rfl⟩
  go_wp2_with fail
  refine (keys_nil _).mono ?_
  rintro e w4 ⟨rfl, rfl⟩
  go_wp2_with fail
  refine (clone_nil _).mono ?_
  rintro e w4 ⟨rfl, rfl⟩
  go_wp2_with fail
  refine (new_yes room H1.out.1 H1.out.2 _).mono ?_
  rintro e w5 ⟨p, rfl, _, _, hb⟩
  have B5 := Lib.hid (bl B3.out hb)
  clear hb
  go_wp2_with fail
  refine (awake_any _).mono ?_
  rintro e w6 ⟨rfl, hb⟩
  have B6 := Lib.hid (bl B5.out hb)
  clear hb
  go_wp2
  go_ret
  exact ⟨rfl, B6.out⟩

set_option maxRecDepth 100000 in
set_option maxHeartbeats 2000000 in
theorem wOwn_no3 (room at_ : Int) (a : Option Addr) (n cap : Nat) (w : World) (h1 : 1 ≤ room ∧ room ≤ 16) (hn : n ≤ 9223372036854775807) (h6 : n ≤ 60) (h : at_ < 0) :
    Calls Try.prog 6 #[.int .i64 room, .slice a n cap, .int .i64 at_] w fun e w' => e = .returned (.bool true) ∧ Below w.heap.size w w' := by
  have H1 := Lib.hid h1
  clear h1
  go_enter Try.func6, Try.ntmps6
  go_wp2_with fail
  refine (get_nil 1 _).mono ?_
  rintro e w1 ⟨rfl, hb⟩
  have B1 := Lib.hid hb
  clear hb
  go_wp2_with fail
  refine (peek_nil 1 _).mono ?_
  rintro e w2 ⟨rfl, hb⟩
  have B2 := Lib.hid (bl B1.out hb)
  clear hb
  go_wp2_with fail
  refine (put_nil 1 2 _).mono ?_
  rintro e w3 ⟨rfl, hb⟩
  have B3 := Lib.hid (bl B2.out hb)
  clear hb B1 B2
  go_wp2_with fail
  refine (len_nil _).mono ?_
  rintro e w4 ⟨rfl, rfl⟩
  go_wp2_with fail
  refine (keys_nil _).mono ?_
  rintro e w4 ⟨rfl, rfl⟩
  go_wp2_with fail
  refine (clone_nil _).mono ?_
  rintro e w4 ⟨rfl, rfl⟩
  go_wp2_with fail
  refine (new_yes room H1.out.1 H1.out.2 _).mono ?_
  rintro e w5 ⟨p, rfl, _, _, hb⟩
  have B5 := Lib.hid (bl B3.out hb)
  clear hb
  go_wp2_with fail
  refine (awake_any _).mono ?_
  rintro e w6 ⟨rfl, hb⟩
  have B6 := Lib.hid (bl B5.out hb)
  clear hb
  go_wp2
  go_ret
  exact ⟨rfl, B6.out⟩

set_option maxRecDepth 100000 in
set_option maxHeartbeats 2000000 in
theorem wOwn_no4 (room at_ : Int) (a : Option Addr) (n cap : Nat) (w : World) (h1 : 1 ≤ room ∧ room ≤ 16) (hn : n ≤ 9223372036854775807) (h6 : n ≤ 60) (h7 : 0 ≤ at_) (h : (n : Int) < at_) :
    Calls Try.prog 6 #[.int .i64 room, .slice a n cap, .int .i64 at_] w fun e w' => e = .returned (.bool true) ∧ Below w.heap.size w w' := by
  have H1 := Lib.hid h1
  clear h1
  go_enter Try.func6, Try.ntmps6
  go_wp2_with fail
  refine (get_nil 1 _).mono ?_
  rintro e w1 ⟨rfl, hb⟩
  have B1 := Lib.hid hb
  clear hb
  go_wp2_with fail
  refine (peek_nil 1 _).mono ?_
  rintro e w2 ⟨rfl, hb⟩
  have B2 := Lib.hid (bl B1.out hb)
  clear hb
  go_wp2_with fail
  refine (put_nil 1 2 _).mono ?_
  rintro e w3 ⟨rfl, hb⟩
  have B3 := Lib.hid (bl B2.out hb)
  clear hb B1 B2
  go_wp2_with fail
  refine (len_nil _).mono ?_
  rintro e w4 ⟨rfl, rfl⟩
  go_wp2_with fail
  refine (keys_nil _).mono ?_
  rintro e w4 ⟨rfl, rfl⟩
  go_wp2_with fail
  refine (clone_nil _).mono ?_
  rintro e w4 ⟨rfl, rfl⟩
  go_wp2_with fail
  refine (new_yes room H1.out.1 H1.out.2 _).mono ?_
  rintro e w5 ⟨p, rfl, _, _, hb⟩
  have B5 := Lib.hid (bl B3.out hb)
  clear hb
  go_wp2_with fail
  refine (awake_any _).mono ?_
  rintro e w6 ⟨rfl, hb⟩
  have B6 := Lib.hid (bl B5.out hb)
  clear hb
  go_wp2
  go_ret
  exact ⟨rfl, B6.out⟩

theorem wOwn (room at_ : Int) (a : Option Addr) (cap : Nat) (l : List Ac) (w : World) (ha : RowA w a l) (hl : l.length ≤ 9223372036854775807) (hcap : l.length ≤ cap) :
    Calls Try.prog 6 #[.int .i64 room, .slice a l.length cap, .int .i64 at_] w fun e w' => e = .returned (.bool true) ∧ Below w.heap.size w w' := by
  rcases ok_room room with h1 | h1
  · by_cases h : 60 < l.length
    · exact wOwn_no2 room at_ a l.length cap w h1 hl h
    · by_cases h2 : at_ < 0
      · exact wOwn_no3 room at_ a l.length cap w h1 hl (by omega) h2
      · by_cases h3 : (l.length : Int) < at_
        · exact wOwn_no4 room at_ a l.length cap w h1 hl (by omega) (by omega) h3
        · obtain ⟨R, rfl, hR⟩ := room_nat h1.1
          obtain ⟨m, rfl⟩ := Int.eq_ofNat_of_zero_le (show 0 ≤ at_ by omega)
          exact wOwn_run R m a cap l w ha hR (by omega) (by omega) (by omega) hcap
  · exact wOwn_no1 room at_ a l.length cap w h1
end Go.Proofs.Ytoecclpfgdfpoaa
