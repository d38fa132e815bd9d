/- The walk of the law CacheLast: for every input it returns true, and writes to new memory alone. -/
import Derived.Test.YtoecclpfgdfpoaaK
import Derived.StillTailTactics
namespace Go.Proofs.Ytoecclpfgdfpoaa
open Go.RowKit

/-- A cache and a row of numbers, apart from one another, in memory from B on. -/
structure Sep (B p : Nat) (s u : Value) : Prop where
  hp : B ≤ p
  hs : ∀ b, s.ownBlock = some b → B ≤ b
  hu : ∀ b, u.ownBlock = some b → B ≤ b
  ap : ∀ b, u.ownBlock = some b → ¬ O p s b

/-- What is carried from round to round. -/
structure LastSt (B : Nat) (w0 w : World) (p : Nat) (s u : Value) (r : Nat) (acts : List Ac) (uses : List Int) (l : List Th) : Prop where
  cc : Cch w p s ((r + 1 : Nat) : Int) l
  ow : Own w 3 1 u uses.length (ints uses)
  iv : LastInv r acts uses l
  sep : Sep B p s u
  bb : Below B w0 w

theorem LastSt.fresh {w0 w w' : World} {p r : Nat} {s u : Value} {acts : List Ac} {uses : List Int} {l : List Th} (h : LastSt w0.heap.size w0 w p s u r acts uses l) (hb : Below w.heap.size w w') : LastSt w0.heap.size w0 w' p s u r acts uses l :=
  ⟨h.cc.fresh hb, h.ow.kept (Kept.of_below hb) (fun b hb => by have := h.ow.lt hb; omega), h.iv, h.sep, bl h.bb hb⟩

/-- Behind a call on the cache. -/
theorem LastSt.call {w0 w w' : World} {p r : Nat} {s s' u : Value} {acts acts' : List Ac} {uses : List Int} {l l' : List Th} (h : LastSt w0.heap.size w0 w p s u r acts uses l)
    (hc : Cch w' p s' ((r + 1 : Nat) : Int) l') (hk : Kept (O p s) w w') (hf : Fresh w s s') : Own w' 3 1 u uses.length (ints uses) ∧ Sep w0.heap.size p s' u ∧ Below w0.heap.size w0 w' := by
  refine ⟨h.ow.kept hk (fun b hb => h.sep.ap b hb), ⟨h.sep.hp, fresh_from hf h.sep.hs h.bb.size, h.sep.hu, fun b hb ho => ?_⟩, h.bb.trans (cache_below hk h.sep.hp h.sep.hs h.bb.size)⟩
  rcases ho with e | e
  · exact h.sep.ap b hb (.inl e)
  · rcases hf b e with e | e
    · exact h.sep.ap b hb (.inr e)
    · have := h.ow.lt hb; omega

/-- Behind an append to the row. -/
theorem row_append {w0 w w' : World} {p : Nat} {s u u' : Value} {room : Int} {l : List Th} {x : Int} {n : Nat} {xs : List Value} (hc : Cch w p s room l) (hu : Own w 3 1 u n xs) (hsep : Sep w0.heap.size p s u) (hb : Below w0.heap.size w0 w)
    (hg : (w.alloc (.cells #[.int .i64 x] 3)).grownBy w' u.ownBlock) (hf : Fresh (w.alloc (.cells #[.int .i64 x] 3)) u u') : Cch w' p s room l ∧ Sep w0.heap.size p s u' ∧ Below w0.heap.size w0 w' := by
  have hk : Kept (fun b => u.ownBlock = some b) w w' := ((Kept.refl (fun b => u.ownBlock = some b) w).alloc (.cells #[.int .i64 x] 3)).grown hg (fun k e => .inl e)
  refine ⟨hc.kept hk (fun b ho hb => hsep.ap b hb ho), ⟨hsep.hp, hsep.hs, fun b hb' => ?_, fun b hb' ho => ?_⟩, hb.trans (hk.below (fun b _ h => hsep.hu b h) hb.size)⟩
  · rcases hf b hb' with e | e
    · exact hsep.hu b e
    · have := hb.size; simp only [World.size_alloc] at e; omega
  · rcases hf b hb' with e | e
    · exact hsep.ap b e ho
    · have := hc.lt ho; simp only [World.size_alloc] at e; omega

theorem ints_snoc (l : List Int) (x : Int) : ints l ++ [.int .i64 x] = ints (l ++ [x]) := by simp [ints]

theorem lput_q (n : Nat) (a : Option Addr) (c : Nat) (l : List Ac) (k z : Int) (w : World) (ha : RowA w a l) (hn : l.length = n) (hl : n ≤ 1000000) (hz : lastPut l k = z) :
    Calls Try.prog 24 #[.slice a n c, .int .i64 k] w fun e w' => e = .returned (.int .i64 z) ∧ w' = w := by
  subst hz
  exact (lput_any n a c l k w ha hn hl).mono fun _ _ h => ⟨h.1, h.2.symm⟩

theorem RowA.drew {w : World} {a : Option Addr} {l : List Ac} (h : RowA w a l) (n : Nat) : RowA (w.drewN n) a l := h.fresh (drewN_below w n)

set_option maxRecDepth 100000 in
set_option maxHeartbeats 8000000 in
theorem wLast_run (r : Nat) (a : Option Addr) (cap : Nat) (l : List Ac) (w : World) (ha : RowA w a l) (hr : r + 1 ≤ 16) (hl : l.length ≤ 150) (hcap : l.length ≤ cap) :
    Calls Try.prog 5 #[.int .i64 ((r + 1 : Nat) : Int), .slice a l.length cap] w fun e w' => e = .returned (.bool true) ∧ Below w.heap.size w w' := by
  obtain ⟨i0, hi0, hz0, hz1, hz2⟩ := info_parts info3
  have HA := Lib.hid ha
  have HTK := Lib.hid (fun k (hk : k < l.length) => show l.take (k + 1) = l.take k ++ [l.getD k (0, 0, 0)] by rw [List.take_succ_eq_append_getElem hk]; simp [List.getD_eq_getElem?_getD, hk])
  have hr1 : (1 : Int) ≤ ((r + 1 : Nat) : Int) := by omega
  have hr2 : ((r + 1 : Nat) : Int) ≤ 16 := by omega
  have HR := Lib.hid (show r + 1 ≤ 1000000 by omega)
  generalize hR : r + 1 = R at *
  have ER := Lib.hid hR
  clear ha hR hr
  go_enter Try.func5, Try.ntmps5
  go_wp2_with fail
  refine (new_yes R hr1 hr2 _).mono ?_
  rintro e w1 ⟨p, rfl, hc1, hp1, hb1⟩
  have ST := Lib.hid (show LastSt w.heap.size w w1 p (.slice none 0 0) (.slice none 0 0) r [] [] [] from ⟨by rw [ER.out]; exact hc1, Own.nil _ _ _, LastInv.start r, ⟨hp1, fun b h => by simp [Value.ownBlock] at h, fun b h => by simp [Value.ownBlock] at h, fun b h => by simp [Value.ownBlock] at h⟩, hb1⟩)
  clear hc1 hp1 hb1
  go_wp2_with fail
  go_loopw [7, 8] (fun u i wr => ∃ (k : Nat) (s : Value) (uses : List Int) (L : List Th), k ≤ l.length ∧ i = .int .i64 k ∧ LastSt w.heap.size w wr p s u r (l.take k) uses L)
    (fun _ i _ => l.length - (intOf i).toNat)
  case atStart => exact ⟨0, _, _, _, by omega, rfl, ST.out⟩
  case round =>
    obtain ⟨k, s, uses, L, hk, rfl, hst⟩ := hrel
    have HS := Lib.hid hst
    obtain ⟨au, cu, rfl⟩ := hst.ow.of_any
    have hll := hst.iv.len
    rw [ER.out] at hll
    have hul := hst.iv.us
    rw [List.length_take] at hul
    clear hst ST
    by_cases hlt : k < l.length
    · obtain ⟨b, off, rfl, hbw, q0, q1, q2⟩ := HA.out.at_ HS.out.bb hlt
      have k0 : (0 : Int) ≤ (k : Int) := by omega
      have k1 : (k : Int) < (l.length : Int) := by omega
      have HTk := Lib.hid (HTK.out k hlt)
      generalize hx : l.getD k (0, 0, 0) = x at *
      obtain ⟨x0, x1, x2⟩ := x
      simp only at q0 q1 q2
      clear hx
      have CC := Lib.hid (show Cch wr p s (R : Int) L by have := HS.out.cc; rw [ER.out] at this; exact this)
      by_cases c0 : x0 = 0
      · subst c0
        have hip := Lib.hid (show isPut (0, x1, x2) = false from rfl)
        cases hh : has L x1
        · have HH := Lib.hid hh
          go_wp2_with fail
          refine (get_any p s R L x1 _ CC.out (by omega)).mono ?_
          rintro e wz ⟨rfl, hc, hkk⟩
          obtain ⟨hu3, hs3, hb3⟩ := HS.out.call (acts' := []) (by rw [ER.out]; exact hc) hkk (fun b hb => .inl hb)
          have ST := Lib.hid (show LastSt w.heap.size w wz p s (.slice au uses.length cu) r (l.take (k + 1)) uses L from ⟨by have := hc; unfold getL at this; rw [HH.out, if_neg (by simp)] at this; rw [ER.out]; exact this, hu3, by rw [HTk.out]; exact HS.out.iv.pass hip.out, hs3, hb3⟩)
          have HN := Lib.hid (show uses.length = uses.length from rfl)
          clear hc hkk hu3 hs3 hb3
          rw [hh]
          clear hh
          clear HS CC
          obtain ⟨sz, uz, Lz, hST⟩ : ∃ sz uz Lz, LastSt w.heap.size w wz p sz (.slice au uses.length cu) r (l.take (k + 1)) uz Lz ∧ uz.length = uses.length := ⟨_, _, _, ST.out, HN.out⟩
          obtain ⟨hST, hUN⟩ := hST
          have SZ := Lib.hid hST
          have HUN := Lib.hid hUN
          have HKS := Lib.hid (show keys Lz = rcn R uz by have := hST.iv.ks; rw [ER.out] at this; exact this)
          have HVS := Lib.hid hST.iv.vs
          have hlz := hST.iv.len
          rw [ER.out] at hlz
          have huz := hST.iv.us
          rw [List.length_take] at huz
          clear hST hUN ST HN
          obtain ⟨au', cu', e9, _, hru⟩ := row_of_own SZ.out.ow
          have HRU := Lib.hid (show RowI wz au uz by simp only [Value.slice.injEq] at e9; rw [e9.1]; exact hru)
          clear e9 hru
          go_wp2_with fail
          refine (recent_any uses.length au cu R uz _ HRU.out HUN.out (by omega) HR.out).mono ?_
          rintro e w4 ⟨wv, rfl, how, hbw4, hb4⟩
          rw [← HKS.out] at how
          obtain ⟨a4, c4, rfl, hn4, r4⟩ := row_of_own how
          have R4 := Lib.hid r4
          have S4 := Lib.hid (SZ.out.fresh hb4)
          clear how hbw4 hb4 hn4 r4 SZ HRU
          rw [keys_len]
          go_wp2_with fail
          refine (keys_any p sz R Lz _ (by have := S4.out.cc; rw [ER.out] at this; exact this) (by omega)).mono ?_
          rintro e w5 ⟨kv, rfl, ho5, hbo5, hb5⟩
          obtain ⟨a5, c5, rfl, hn5, r5⟩ := row_of_own ho5
          have R5 := Lib.hid r5
          have R45 := Lib.hid (R4.out.fresh hb5)
          have S5 := Lib.hid (S4.out.fresh hb5)
          clear ho5 hbo5 hb5 hn5 r5 S4 R4
          rw [keys_len]
          go_wp2_with fail
          refine (ints_n Lz.length a5 a4 c5 c4 (keys Lz) _ R5.out R45.out (keys_len Lz) (by omega)).mono ?_
          rintro e w6 ⟨rfl, hb6⟩
          have S6 := Lib.hid (S5.out.fresh hb6)
          have R6 := Lib.hid (R45.out.fresh hb6)
          clear hb6 S5 R5 R45
          go_wp2_with fail
          refine (len_any p sz R Lz _ (by have := S6.out.cc; rw [ER.out] at this; exact this)).mono ?_
          rintro e w7 ⟨rfl, rfl⟩
          go_wp2_with fail
          obtain ⟨wo, hwo⟩ : ∃ wo : World, wo = w6 := ⟨_, rfl⟩
          subst hwo
          go_loopw [12] (fun j wq => ∃ m : Nat, m ≤ Lz.length ∧ j = .int .i64 m ∧ Below wo.heap.size wo wq)
            (fun j _ => Lz.length - (intOf j).toNat)
          case atStart => exact ⟨0, by omega, rfl, Below.refl _ _⟩
          case round =>
            obtain ⟨m, hm, rfl, hbq⟩ := hrel
            have BQ := Lib.hid hbq
            clear hbq
            by_cases hmt : m < Lz.length
            · obtain ⟨b8, o8, rfl, hb8, q8⟩ := R6.out.at_ (show m < (keys Lz).length by rw [keys_len]; exact hmt)
              replace q8 := (BQ.out.cell (p := ⟨b8, o8 + m, none⟩) hb8).trans q8
              have m0 : (0 : Int) ≤ (m : Int) := by omega
              have m1 : (m : Int) < (Lz.length : Int) := by omega
              have hmem : (keys Lz).getD m 0 ∈ keys Lz := by
                rw [List.getD_eq_getElem?_getD, List.getElem?_eq_getElem (by rw [keys_len]; exact hmt)]
                exact List.getElem_mem _
              have z1 := (has_iff Lz _).2 hmem
              have z2 := HVS.out _ hmem
              have S8 := Lib.hid (S6.out.fresh BQ.out)
              generalize (keys Lz).getD m 0 = key' at *
              have P1 := Lib.hid (fun (W : World) (hW : Below wr.heap.size wr W) => by have := peek_yes p sz R Lz key' W (by have := (S8.out.fresh hW).cc; rw [ER.out] at this; exact this) (by omega) z1; rw [z2] at this; exact this)
              generalize hlz' : lastPut (l.take (k + 1)) key' = v' at *
              have HLZ := Lib.hid hlz'
              have HTL := Lib.hid (show (l.take (k + 1)).length = k + 1 by rw [List.length_take]; omega)
              have HKL := Lib.hid (show k + 1 ≤ 1000000 by omega)
              clear z1 z2 hmem hlz'
              go_wp2_with fail
              refine (P1.out _ (Below.refl _ _)).mono ?_
              rintro e w8 ⟨rfl, hb⟩
              have q9 := (hb.cell (p := ⟨b8, o8 + m, none⟩) (Nat.lt_of_lt_of_le hb8 BQ.out.size)).trans q8
              have B8 := Lib.hid (bl BQ.out hb)
              have A8 := Lib.hid ((HA.out.fresh (bl S6.out.bb B8.out)).take (k + 1))
              clear hb q8 S8
              have kw0 : IntKind.i64.wrap ((k : Int) + 1) = (k : Int) + 1 := IntWalk.i64_in _ (by omega)
              have kw1 : (0 : Int) ≤ (k : Int) + 1 := by omega
              have kw2 : ((k : Int) + 1).toNat = k + 1 := by omega
              have kw3 : (k : Int) + 1 ≤ (cap : Int) := by omega
              go_wp2_with fail
              go_quiet ((go_at_call 24; exact Calls.quiet_of_same (lput_q (k + 1) (some ⟨b, off, none⟩) cap (l.take (k + 1)) key' v' _ (A8.out.drew _) HTL.out HKL.out HLZ.out)))
              clear kw0 kw1 kw2 kw3
              go_wp2_with fail
              go_roundw
              case rel => exact ⟨m + 1, by omega, by go_num, below_drewN B8.out _⟩
              case measure => simp [intOf]; omega
            · have S9 := Lib.hid (S6.out.fresh BQ.out)
              go_wp2_with fail
              go_roundw
              case rel => exact ⟨k + 1, sz, uz, Lz, by omega, by go_num, S9.out⟩
              case measure => simp [intOf]; omega
        · have HH := Lib.hid hh
          go_wp2_with fail
          refine (get_any p s R L x1 _ CC.out (by omega)).mono ?_
          rintro e w3 ⟨rfl, hc, hkk⟩
          obtain ⟨hu3, hs3, hb3⟩ := HS.out.call (acts' := []) (by rw [ER.out]; exact hc) hkk (fun b hb => .inl hb)
          have CU := Lib.hid hc
          have UU := Lib.hid hu3
          have SS := Lib.hid hs3
          have BB := Lib.hid hb3
          have II := Lib.hid (HS.out.iv.get hip.out HH.out)
          have q13 := (hb3.cell (p := ⟨b, off + k * 3 + 1, none⟩) hbw).trans ((HS.out.bb.cell (p := ⟨b, off + k * 3 + 1, none⟩) hbw).symm.trans q1)
          clear hc hkk hu3 hs3 hb3
          rw [hh]
          clear hh
          go_wp2_with (at_builtin; refine wpList_append_fresh _ rfl (.tmp 83) (.tmp 89) 44 rfl 3 i0 (.int .i64 0) 1 8 Try.underlying44 hi0 hz0 hz1 hz2 rfl (by decide) _ _ _ rfl (UU.out.alloc _) (some ⟨w3.heap.size, 0, none⟩) 1 1 [.int .i64 x1] rfl rfl (fun _ => ⟨_, rfl, cell_one_new _ _ _⟩) (by simp [Value.oneCell']) (by simp [maxLen]; omega) (by omega) ?_; intro v' wz ho hg hf)
          obtain ⟨hcz, hsz, hbz⟩ := row_append (w0 := w) CU.out UU.out SS.out BB.out hg hf
          obtain ⟨au, cu, rfl⟩ := ho.of_any
          have ST := Lib.hid (show LastSt w.heap.size w wz p _ (.slice au (uses.length + 1) cu) r (l.take (k + 1)) (uses ++ [x1]) _ from ⟨by rw [ER.out]; exact hcz, by rw [← ints_snoc, List.length_append]; exact ho, by rw [HTk.out]; exact II.out, hsz, hbz⟩)
          have HN := Lib.hid (show (uses ++ [x1]).length = uses.length + 1 by simp)
          clear ho hg hf hcz hsz hbz CU UU SS BB II
          clear HS CC
          obtain ⟨sz, uz, Lz, hST⟩ : ∃ sz uz Lz, LastSt w.heap.size w wz p sz (.slice au (uses.length + 1) cu) r (l.take (k + 1)) uz Lz ∧ uz.length = (uses.length + 1) := ⟨_, _, _, ST.out, HN.out⟩
          obtain ⟨hST, hUN⟩ := hST
          have SZ := Lib.hid hST
          have HUN := Lib.hid hUN
          have HKS := Lib.hid (show keys Lz = rcn R uz by have := hST.iv.ks; rw [ER.out] at this; exact this)
          have HVS := Lib.hid hST.iv.vs
          have hlz := hST.iv.len
          rw [ER.out] at hlz
          have huz := hST.iv.us
          rw [List.length_take] at huz
          clear hST hUN ST HN
          obtain ⟨au', cu', e9, _, hru⟩ := row_of_own SZ.out.ow
          have HRU := Lib.hid (show RowI wz au uz by simp only [Value.slice.injEq] at e9; rw [e9.1]; exact hru)
          clear e9 hru
          go_wp2_with fail
          refine (recent_any (uses.length + 1) au cu R uz _ HRU.out HUN.out (by omega) HR.out).mono ?_
          rintro e w4 ⟨wv, rfl, how, hbw4, hb4⟩
          rw [← HKS.out] at how
          obtain ⟨a4, c4, rfl, hn4, r4⟩ := row_of_own how
          have R4 := Lib.hid r4
          have S4 := Lib.hid (SZ.out.fresh hb4)
          clear how hbw4 hb4 hn4 r4 SZ HRU
          rw [keys_len]
          go_wp2_with fail
          refine (keys_any p sz R Lz _ (by have := S4.out.cc; rw [ER.out] at this; exact this) (by omega)).mono ?_
          rintro e w5 ⟨kv, rfl, ho5, hbo5, hb5⟩
          obtain ⟨a5, c5, rfl, hn5, r5⟩ := row_of_own ho5
          have R5 := Lib.hid r5
          have R45 := Lib.hid (R4.out.fresh hb5)
          have S5 := Lib.hid (S4.out.fresh hb5)
          clear ho5 hbo5 hb5 hn5 r5 S4 R4
          rw [keys_len]
          go_wp2_with fail
          refine (ints_n Lz.length a5 a4 c5 c4 (keys Lz) _ R5.out R45.out (keys_len Lz) (by omega)).mono ?_
          rintro e w6 ⟨rfl, hb6⟩
          have S6 := Lib.hid (S5.out.fresh hb6)
          have R6 := Lib.hid (R45.out.fresh hb6)
          clear hb6 S5 R5 R45
          go_wp2_with fail
          refine (len_any p sz R Lz _ (by have := S6.out.cc; rw [ER.out] at this; exact this)).mono ?_
          rintro e w7 ⟨rfl, rfl⟩
          go_wp2_with fail
          obtain ⟨wo, hwo⟩ : ∃ wo : World, wo = w6 := ⟨_, rfl⟩
          subst hwo
          go_loopw [12] (fun j wq => ∃ m : Nat, m ≤ Lz.length ∧ j = .int .i64 m ∧ Below wo.heap.size wo wq)
            (fun j _ => Lz.length - (intOf j).toNat)
          case atStart => exact ⟨0, by omega, rfl, Below.refl _ _⟩
          case round =>
            obtain ⟨m, hm, rfl, hbq⟩ := hrel
            have BQ := Lib.hid hbq
            clear hbq
            by_cases hmt : m < Lz.length
            · obtain ⟨b8, o8, rfl, hb8, q8⟩ := R6.out.at_ (show m < (keys Lz).length by rw [keys_len]; exact hmt)
              replace q8 := (BQ.out.cell (p := ⟨b8, o8 + m, none⟩) hb8).trans q8
              have m0 : (0 : Int) ≤ (m : Int) := by omega
              have m1 : (m : Int) < (Lz.length : Int) := by omega
              have hmem : (keys Lz).getD m 0 ∈ keys Lz := by
                rw [List.getD_eq_getElem?_getD, List.getElem?_eq_getElem (by rw [keys_len]; exact hmt)]
                exact List.getElem_mem _
              have z1 := (has_iff Lz _).2 hmem
              have z2 := HVS.out _ hmem
              have S8 := Lib.hid (S6.out.fresh BQ.out)
              generalize (keys Lz).getD m 0 = key' at *
              have P1 := Lib.hid (fun (W : World) (hW : Below wr.heap.size wr W) => by have := peek_yes p sz R Lz key' W (by have := (S8.out.fresh hW).cc; rw [ER.out] at this; exact this) (by omega) z1; rw [z2] at this; exact this)
              generalize hlz' : lastPut (l.take (k + 1)) key' = v' at *
              have HLZ := Lib.hid hlz'
              have HTL := Lib.hid (show (l.take (k + 1)).length = k + 1 by rw [List.length_take]; omega)
              have HKL := Lib.hid (show k + 1 ≤ 1000000 by omega)
              clear z1 z2 hmem hlz'
              go_wp2_with fail
              refine (P1.out _ (Below.refl _ _)).mono ?_
              rintro e w8 ⟨rfl, hb⟩
              have q9 := (hb.cell (p := ⟨b8, o8 + m, none⟩) (Nat.lt_of_lt_of_le hb8 BQ.out.size)).trans q8
              have B8 := Lib.hid (bl BQ.out hb)
              have A8 := Lib.hid ((HA.out.fresh (bl S6.out.bb B8.out)).take (k + 1))
              clear hb q8 S8
              have kw0 : IntKind.i64.wrap ((k : Int) + 1) = (k : Int) + 1 := IntWalk.i64_in _ (by omega)
              have kw1 : (0 : Int) ≤ (k : Int) + 1 := by omega
              have kw2 : ((k : Int) + 1).toNat = k + 1 := by omega
              have kw3 : (k : Int) + 1 ≤ (cap : Int) := by omega
              go_wp2_with fail
              go_quiet ((go_at_call 24; exact Calls.quiet_of_same (lput_q (k + 1) (some ⟨b, off, none⟩) cap (l.take (k + 1)) key' v' _ (A8.out.drew _) HTL.out HKL.out HLZ.out)))
              clear kw0 kw1 kw2 kw3
              go_wp2_with fail
              go_roundw
              case rel => exact ⟨m + 1, by omega, by go_num, below_drewN B8.out _⟩
              case measure => simp [intOf]; omega
            · have S9 := Lib.hid (S6.out.fresh BQ.out)
              go_wp2_with fail
              go_roundw
              case rel => exact ⟨k + 1, sz, uz, Lz, by omega, by go_num, S9.out⟩
              case measure => simp [intOf]; omega
      · by_cases c12 : x0 = 1 ∨ x0 = 2
        · have hip := Lib.hid (show isPut (x0, x1, x2) = false by rcases c12 with h | h <;> subst h <;> rfl)
          have PK : ∀ W, Below wr.heap.size wr W → Calls Try.prog 15 #[.pointer (some ⟨p, 0, none⟩), .int .i64 x1] W fun e w' => (∃ z t, e = .returned (.tuple #[.int .i64 z, .bool t])) ∧ Below W.heap.size W w' := fun W hW => by
            cases hh : has L x1
            · exact (peek_no p s R L x1 W (CC.out.fresh hW) (by omega) hh).mono fun _ _ h => ⟨⟨_, _, h.1⟩, h.2⟩
            · exact (peek_yes p s R L x1 W (CC.out.fresh hW) (by omega) hh).mono fun _ _ h => ⟨⟨_, _, h.1⟩, h.2⟩
          have PKH := Lib.hid PK
          clear PK
          by_cases c1 : x0 = 1
          · subst c1
            clear c12 c0
            go_wp2_with fail
            refine (PKH.out _ (Below.refl _ _)).mono ?_
            rintro e wz ⟨⟨z, t, rfl⟩, hb3⟩
            have ST := Lib.hid (show LastSt w.heap.size w wz p s (.slice au uses.length cu) r (l.take (k + 1)) uses L from ⟨(HS.out.fresh hb3).cc, (HS.out.fresh hb3).ow, by rw [HTk.out]; exact HS.out.iv.pass hip.out, HS.out.sep, bl HS.out.bb hb3⟩)
            have HN := Lib.hid (show uses.length = uses.length from rfl)
            clear hb3
            clear HS CC
            obtain ⟨sz, uz, Lz, hST⟩ : ∃ sz uz Lz, LastSt w.heap.size w wz p sz (.slice au uses.length cu) r (l.take (k + 1)) uz Lz ∧ uz.length = uses.length := ⟨_, _, _, ST.out, HN.out⟩
            obtain ⟨hST, hUN⟩ := hST
            have SZ := Lib.hid hST
            have HUN := Lib.hid hUN
            have HKS := Lib.hid (show keys Lz = rcn R uz by have := hST.iv.ks; rw [ER.out] at this; exact this)
            have HVS := Lib.hid hST.iv.vs
            have hlz := hST.iv.len
            rw [ER.out] at hlz
            have huz := hST.iv.us
            rw [List.length_take] at huz
            clear hST hUN ST HN
            obtain ⟨au', cu', e9, _, hru⟩ := row_of_own SZ.out.ow
            have HRU := Lib.hid (show RowI wz au uz by simp only [Value.slice.injEq] at e9; rw [e9.1]; exact hru)
            clear e9 hru
            go_wp2_with fail
            refine (recent_any uses.length au cu R uz _ HRU.out HUN.out (by omega) HR.out).mono ?_
            rintro e w4 ⟨wv, rfl, how, hbw4, hb4⟩
            rw [← HKS.out] at how
            obtain ⟨a4, c4, rfl, hn4, r4⟩ := row_of_own how
            have R4 := Lib.hid r4
            have S4 := Lib.hid (SZ.out.fresh hb4)
            clear how hbw4 hb4 hn4 r4 SZ HRU
            rw [keys_len]
            go_wp2_with fail
            refine (keys_any p sz R Lz _ (by have := S4.out.cc; rw [ER.out] at this; exact this) (by omega)).mono ?_
            rintro e w5 ⟨kv, rfl, ho5, hbo5, hb5⟩
            obtain ⟨a5, c5, rfl, hn5, r5⟩ := row_of_own ho5
            have R5 := Lib.hid r5
            have R45 := Lib.hid (R4.out.fresh hb5)
            have S5 := Lib.hid (S4.out.fresh hb5)
            clear ho5 hbo5 hb5 hn5 r5 S4 R4
            rw [keys_len]
            go_wp2_with fail
            refine (ints_n Lz.length a5 a4 c5 c4 (keys Lz) _ R5.out R45.out (keys_len Lz) (by omega)).mono ?_
            rintro e w6 ⟨rfl, hb6⟩
            have S6 := Lib.hid (S5.out.fresh hb6)
            have R6 := Lib.hid (R45.out.fresh hb6)
            clear hb6 S5 R5 R45
            go_wp2_with fail
            refine (len_any p sz R Lz _ (by have := S6.out.cc; rw [ER.out] at this; exact this)).mono ?_
            rintro e w7 ⟨rfl, rfl⟩
            go_wp2_with fail
            obtain ⟨wo, hwo⟩ : ∃ wo : World, wo = w6 := ⟨_, rfl⟩
            subst hwo
            go_loopw [12] (fun j wq => ∃ m : Nat, m ≤ Lz.length ∧ j = .int .i64 m ∧ Below wo.heap.size wo wq)
              (fun j _ => Lz.length - (intOf j).toNat)
            case atStart => exact ⟨0, by omega, rfl, Below.refl _ _⟩
            case round =>
              obtain ⟨m, hm, rfl, hbq⟩ := hrel
              have BQ := Lib.hid hbq
              clear hbq
              by_cases hmt : m < Lz.length
              · obtain ⟨b8, o8, rfl, hb8, q8⟩ := R6.out.at_ (show m < (keys Lz).length by rw [keys_len]; exact hmt)
                replace q8 := (BQ.out.cell (p := ⟨b8, o8 + m, none⟩) hb8).trans q8
                have m0 : (0 : Int) ≤ (m : Int) := by omega
                have m1 : (m : Int) < (Lz.length : Int) := by omega
                have hmem : (keys Lz).getD m 0 ∈ keys Lz := by
                  rw [List.getD_eq_getElem?_getD, List.getElem?_eq_getElem (by rw [keys_len]; exact hmt)]
                  exact List.getElem_mem _
                have z1 := (has_iff Lz _).2 hmem
                have z2 := HVS.out _ hmem
                have S8 := Lib.hid (S6.out.fresh BQ.out)
                generalize (keys Lz).getD m 0 = key' at *
                have P1 := Lib.hid (fun (W : World) (hW : Below wr.heap.size wr W) => by have := peek_yes p sz R Lz key' W (by have := (S8.out.fresh hW).cc; rw [ER.out] at this; exact this) (by omega) z1; rw [z2] at this; exact this)
                generalize hlz' : lastPut (l.take (k + 1)) key' = v' at *
                have HLZ := Lib.hid hlz'
                have HTL := Lib.hid (show (l.take (k + 1)).length = k + 1 by rw [List.length_take]; omega)
                have HKL := Lib.hid (show k + 1 ≤ 1000000 by omega)
                clear z1 z2 hmem hlz'
                go_wp2_with fail
                refine (P1.out _ (Below.refl _ _)).mono ?_
                rintro e w8 ⟨rfl, hb⟩
                have q9 := (hb.cell (p := ⟨b8, o8 + m, none⟩) (Nat.lt_of_lt_of_le hb8 BQ.out.size)).trans q8
                have B8 := Lib.hid (bl BQ.out hb)
                have A8 := Lib.hid ((HA.out.fresh (bl S6.out.bb B8.out)).take (k + 1))
                clear hb q8 S8
                have kw0 : IntKind.i64.wrap ((k : Int) + 1) = (k : Int) + 1 := IntWalk.i64_in _ (by omega)
                have kw1 : (0 : Int) ≤ (k : Int) + 1 := by omega
                have kw2 : ((k : Int) + 1).toNat = k + 1 := by omega
                have kw3 : (k : Int) + 1 ≤ (cap : Int) := by omega
                go_wp2_with fail
                go_quiet ((go_at_call 24; exact Calls.quiet_of_same (lput_q (k + 1) (some ⟨b, off, none⟩) cap (l.take (k + 1)) key' v' _ (A8.out.drew _) HTL.out HKL.out HLZ.out)))
                clear kw0 kw1 kw2 kw3
                go_wp2_with fail
                go_roundw
                case rel => exact ⟨m + 1, by omega, by go_num, below_drewN B8.out _⟩
                case measure => simp [intOf]; omega
              · have S9 := Lib.hid (S6.out.fresh BQ.out)
                go_wp2_with fail
                go_roundw
                case rel => exact ⟨k + 1, sz, uz, Lz, by omega, by go_num, S9.out⟩
                case measure => simp [intOf]; omega
          · have c2 : x0 = 2 := by omega
            subst c2
            clear c12 c0 c1
            go_wp2_with fail
            refine (PKH.out _ (Below.refl _ _)).mono ?_
            rintro e wz ⟨⟨z, t, rfl⟩, hb3⟩
            have ST := Lib.hid (show LastSt w.heap.size w wz p s (.slice au uses.length cu) r (l.take (k + 1)) uses L from ⟨(HS.out.fresh hb3).cc, (HS.out.fresh hb3).ow, by rw [HTk.out]; exact HS.out.iv.pass hip.out, HS.out.sep, bl HS.out.bb hb3⟩)
            have HN := Lib.hid (show uses.length = uses.length from rfl)
            clear hb3
            clear HS CC
            obtain ⟨sz, uz, Lz, hST⟩ : ∃ sz uz Lz, LastSt w.heap.size w wz p sz (.slice au uses.length cu) r (l.take (k + 1)) uz Lz ∧ uz.length = uses.length := ⟨_, _, _, ST.out, HN.out⟩
            obtain ⟨hST, hUN⟩ := hST
            have SZ := Lib.hid hST
            have HUN := Lib.hid hUN
            have HKS := Lib.hid (show keys Lz = rcn R uz by have := hST.iv.ks; rw [ER.out] at this; exact this)
            have HVS := Lib.hid hST.iv.vs
            have hlz := hST.iv.len
            rw [ER.out] at hlz
            have huz := hST.iv.us
            rw [List.length_take] at huz
            clear hST hUN ST HN
            obtain ⟨au', cu', e9, _, hru⟩ := row_of_own SZ.out.ow
            have HRU := Lib.hid (show RowI wz au uz by simp only [Value.slice.injEq] at e9; rw [e9.1]; exact hru)
            clear e9 hru
            go_wp2_with fail
            refine (recent_any uses.length au cu R uz _ HRU.out HUN.out (by omega) HR.out).mono ?_
            rintro e w4 ⟨wv, rfl, how, hbw4, hb4⟩
            rw [← HKS.out] at how
            obtain ⟨a4, c4, rfl, hn4, r4⟩ := row_of_own how
            have R4 := Lib.hid r4
            have S4 := Lib.hid (SZ.out.fresh hb4)
            clear how hbw4 hb4 hn4 r4 SZ HRU
            rw [keys_len]
            go_wp2_with fail
            refine (keys_any p sz R Lz _ (by have := S4.out.cc; rw [ER.out] at this; exact this) (by omega)).mono ?_
            rintro e w5 ⟨kv, rfl, ho5, hbo5, hb5⟩
            obtain ⟨a5, c5, rfl, hn5, r5⟩ := row_of_own ho5
            have R5 := Lib.hid r5
            have R45 := Lib.hid (R4.out.fresh hb5)
            have S5 := Lib.hid (S4.out.fresh hb5)
            clear ho5 hbo5 hb5 hn5 r5 S4 R4
            rw [keys_len]
            go_wp2_with fail
            refine (ints_n Lz.length a5 a4 c5 c4 (keys Lz) _ R5.out R45.out (keys_len Lz) (by omega)).mono ?_
            rintro e w6 ⟨rfl, hb6⟩
            have S6 := Lib.hid (S5.out.fresh hb6)
            have R6 := Lib.hid (R45.out.fresh hb6)
            clear hb6 S5 R5 R45
            go_wp2_with fail
            refine (len_any p sz R Lz _ (by have := S6.out.cc; rw [ER.out] at this; exact this)).mono ?_
            rintro e w7 ⟨rfl, rfl⟩
            go_wp2_with fail
            obtain ⟨wo, hwo⟩ : ∃ wo : World, wo = w6 := ⟨_, rfl⟩
            subst hwo
            go_loopw [12] (fun j wq => ∃ m : Nat, m ≤ Lz.length ∧ j = .int .i64 m ∧ Below wo.heap.size wo wq)
              (fun j _ => Lz.length - (intOf j).toNat)
            case atStart => exact ⟨0, by omega, rfl, Below.refl _ _⟩
            case round =>
              obtain ⟨m, hm, rfl, hbq⟩ := hrel
              have BQ := Lib.hid hbq
              clear hbq
              by_cases hmt : m < Lz.length
              · obtain ⟨b8, o8, rfl, hb8, q8⟩ := R6.out.at_ (show m < (keys Lz).length by rw [keys_len]; exact hmt)
                replace q8 := (BQ.out.cell (p := ⟨b8, o8 + m, none⟩) hb8).trans q8
                have m0 : (0 : Int) ≤ (m : Int) := by omega
                have m1 : (m : Int) < (Lz.length : Int) := by omega
                have hmem : (keys Lz).getD m 0 ∈ keys Lz := by
                  rw [List.getD_eq_getElem?_getD, List.getElem?_eq_getElem (by rw [keys_len]; exact hmt)]
                  exact List.getElem_mem _
                have z1 := (has_iff Lz _).2 hmem
                have z2 := HVS.out _ hmem
                have S8 := Lib.hid (S6.out.fresh BQ.out)
                generalize (keys Lz).getD m 0 = key' at *
                have P1 := Lib.hid (fun (W : World) (hW : Below wr.heap.size wr W) => by have := peek_yes p sz R Lz key' W (by have := (S8.out.fresh hW).cc; rw [ER.out] at this; exact this) (by omega) z1; rw [z2] at this; exact this)
                generalize hlz' : lastPut (l.take (k + 1)) key' = v' at *
                have HLZ := Lib.hid hlz'
                have HTL := Lib.hid (show (l.take (k + 1)).length = k + 1 by rw [List.length_take]; omega)
                have HKL := Lib.hid (show k + 1 ≤ 1000000 by omega)
                clear z1 z2 hmem hlz'
                go_wp2_with fail
                refine (P1.out _ (Below.refl _ _)).mono ?_
                rintro e w8 ⟨rfl, hb⟩
                have q9 := (hb.cell (p := ⟨b8, o8 + m, none⟩) (Nat.lt_of_lt_of_le hb8 BQ.out.size)).trans q8
                have B8 := Lib.hid (bl BQ.out hb)
                have A8 := Lib.hid ((HA.out.fresh (bl S6.out.bb B8.out)).take (k + 1))
                clear hb q8 S8
                have kw0 : IntKind.i64.wrap ((k : Int) + 1) = (k : Int) + 1 := IntWalk.i64_in _ (by omega)
                have kw1 : (0 : Int) ≤ (k : Int) + 1 := by omega
                have kw2 : ((k : Int) + 1).toNat = k + 1 := by omega
                have kw3 : (k : Int) + 1 ≤ (cap : Int) := by omega
                go_wp2_with fail
                go_quiet ((go_at_call 24; exact Calls.quiet_of_same (lput_q (k + 1) (some ⟨b, off, none⟩) cap (l.take (k + 1)) key' v' _ (A8.out.drew _) HTL.out HKL.out HLZ.out)))
                clear kw0 kw1 kw2 kw3
                go_wp2_with fail
                go_roundw
                case rel => exact ⟨m + 1, by omega, by go_num, below_drewN B8.out _⟩
                case measure => simp [intOf]; omega
              · have S9 := Lib.hid (S6.out.fresh BQ.out)
                go_wp2_with fail
                go_roundw
                case rel => exact ⟨k + 1, sz, uz, Lz, by omega, by go_num, S9.out⟩
                case measure => simp [intOf]; omega
        · have d0 : (x0 == 0) = false := by simpa using c0
          have d1 : (x0 == 1) = false := by simp; omega
          have d2 : (x0 == 2) = false := by simp; omega
          have hip := Lib.hid (show isPut (x0, x1, x2) = true by have e1 : x0 ≠ 1 := by omega
                                                                 have e2 : x0 ≠ 2 := by omega
                                                                 simp [isPut, c0, e1, e2])
          clear c0 c12
          go_wp2_with fail
          go_still_tail 11, (by kernel_rfl)
          change wpList _ _ _ _ _ wr.drew
          go_wp2_with fail
          refine (put_any p s R L x1 x2 _ (by exact (CC.out.fresh ((Below.refl _ _).drew))) hll hr1 hr2).mono ?_
          rintro e w3 ⟨s', rfl, hc, hkk, hf⟩
          have hkk' : Kept (O p s) wr w3 := (Kept.refl (O p s) wr).drew.trans hkk (fun b h => .inl h)
          obtain ⟨hu3, hs3, hb3⟩ := HS.out.call (acts' := []) (by rw [ER.out]; exact hc) hkk' hf
          have CU := Lib.hid hc
          have UU := Lib.hid hu3
          have SS := Lib.hid hs3
          have BB := Lib.hid hb3
          have II := Lib.hid (show LastInv r (l.take k ++ [(x0, x1, x2)]) (uses ++ [x1]) (putL (R : Int) L x1 x2) by have := HS.out.iv.put hip.out; rw [ER.out] at this; exact this)
          have q13 := (hb3.cell (p := ⟨b, off + k * 3 + 1, none⟩) hbw).trans ((HS.out.bb.cell (p := ⟨b, off + k * 3 + 1, none⟩) hbw).symm.trans q1)
          clear hc hkk hf hkk' hu3 hs3 hb3
          go_wp2_with (at_builtin; refine wpList_append_fresh _ rfl (.tmp 62) (.tmp 68) 44 rfl 3 i0 (.int .i64 0) 1 8 Try.underlying44 hi0 hz0 hz1 hz2 rfl (by decide) _ _ _ rfl (UU.out.alloc _) (some ⟨w3.heap.size, 0, none⟩) 1 1 [.int .i64 x1] rfl rfl (fun _ => ⟨_, rfl, cell_one_new _ _ _⟩) (by simp [Value.oneCell']) (by simp [maxLen]; omega) (by omega) ?_; intro v' wz ho hg hf)
          obtain ⟨hcz, hsz, hbz⟩ := row_append (w0 := w) CU.out UU.out SS.out BB.out hg hf
          obtain ⟨au, cu, rfl⟩ := ho.of_any
          have ST := Lib.hid (show LastSt w.heap.size w wz p _ (.slice au (uses.length + 1) cu) r (l.take (k + 1)) (uses ++ [x1]) _ from ⟨by rw [ER.out]; exact hcz, by rw [← ints_snoc, List.length_append]; exact ho, by rw [HTk.out]; exact II.out, hsz, hbz⟩)
          have HN := Lib.hid (show (uses ++ [x1]).length = uses.length + 1 by simp)
          clear ho hg hf hcz hsz hbz CU UU SS BB II
          clear HS CC
          obtain ⟨sz, uz, Lz, hST⟩ : ∃ sz uz Lz, LastSt w.heap.size w wz p sz (.slice au (uses.length + 1) cu) r (l.take (k + 1)) uz Lz ∧ uz.length = (uses.length + 1) := ⟨_, _, _, ST.out, HN.out⟩
          obtain ⟨hST, hUN⟩ := hST
          have SZ := Lib.hid hST
          have HUN := Lib.hid hUN
          have HKS := Lib.hid (show keys Lz = rcn R uz by have := hST.iv.ks; rw [ER.out] at this; exact this)
          have HVS := Lib.hid hST.iv.vs
          have hlz := hST.iv.len
          rw [ER.out] at hlz
          have huz := hST.iv.us
          rw [List.length_take] at huz
          clear hST hUN ST HN
          obtain ⟨au', cu', e9, _, hru⟩ := row_of_own SZ.out.ow
          have HRU := Lib.hid (show RowI wz au uz by simp only [Value.slice.injEq] at e9; rw [e9.1]; exact hru)
          clear e9 hru
          go_wp2_with fail
          refine (recent_any (uses.length + 1) au cu R uz _ HRU.out HUN.out (by omega) HR.out).mono ?_
          rintro e w4 ⟨wv, rfl, how, hbw4, hb4⟩
          rw [← HKS.out] at how
          obtain ⟨a4, c4, rfl, hn4, r4⟩ := row_of_own how
          have R4 := Lib.hid r4
          have S4 := Lib.hid (SZ.out.fresh hb4)
          clear how hbw4 hb4 hn4 r4 SZ HRU
          rw [keys_len]
          go_wp2_with fail
          refine (keys_any p sz R Lz _ (by have := S4.out.cc; rw [ER.out] at this; exact this) (by omega)).mono ?_
          rintro e w5 ⟨kv, rfl, ho5, hbo5, hb5⟩
          obtain ⟨a5, c5, rfl, hn5, r5⟩ := row_of_own ho5
          have R5 := Lib.hid r5
          have R45 := Lib.hid (R4.out.fresh hb5)
          have S5 := Lib.hid (S4.out.fresh hb5)
          clear ho5 hbo5 hb5 hn5 r5 S4 R4
          rw [keys_len]
          go_wp2_with fail
          refine (ints_n Lz.length a5 a4 c5 c4 (keys Lz) _ R5.out R45.out (keys_len Lz) (by omega)).mono ?_
          rintro e w6 ⟨rfl, hb6⟩
          have S6 := Lib.hid (S5.out.fresh hb6)
          have R6 := Lib.hid (R45.out.fresh hb6)
          clear hb6 S5 R5 R45
          go_wp2_with fail
          refine (len_any p sz R Lz _ (by have := S6.out.cc; rw [ER.out] at this; exact this)).mono ?_
          rintro e w7 ⟨rfl, rfl⟩
          go_wp2_with fail
          obtain ⟨wo, hwo⟩ : ∃ wo : World, wo = w6 := ⟨_, rfl⟩
          subst hwo
          go_loopw [12] (fun j wq => ∃ m : Nat, m ≤ Lz.length ∧ j = .int .i64 m ∧ Below wo.heap.size wo wq)
            (fun j _ => Lz.length - (intOf j).toNat)
          case atStart => exact ⟨0, by omega, rfl, Below.refl _ _⟩
          case round =>
            obtain ⟨m, hm, rfl, hbq⟩ := hrel
            have BQ := Lib.hid hbq
            clear hbq
            by_cases hmt : m < Lz.length
            · obtain ⟨b8, o8, rfl, hb8, q8⟩ := R6.out.at_ (show m < (keys Lz).length by rw [keys_len]; exact hmt)
              replace q8 := (BQ.out.cell (p := ⟨b8, o8 + m, none⟩) hb8).trans q8
              have m0 : (0 : Int) ≤ (m : Int) := by omega
              have m1 : (m : Int) < (Lz.length : Int) := by omega
              have hmem : (keys Lz).getD m 0 ∈ keys Lz := by
                rw [List.getD_eq_getElem?_getD, List.getElem?_eq_getElem (by rw [keys_len]; exact hmt)]
                exact List.getElem_mem _
              have z1 := (has_iff Lz _).2 hmem
              have z2 := HVS.out _ hmem
              have S8 := Lib.hid (S6.out.fresh BQ.out)
              generalize (keys Lz).getD m 0 = key' at *
              have P1 := Lib.hid (fun (W : World) (hW : Below wr.heap.size wr W) => by have := peek_yes p sz R Lz key' W (by have := (S8.out.fresh hW).cc; rw [ER.out] at this; exact this) (by omega) z1; rw [z2] at this; exact this)
              generalize hlz' : lastPut (l.take (k + 1)) key' = v' at *
              have HLZ := Lib.hid hlz'
              have HTL := Lib.hid (show (l.take (k + 1)).length = k + 1 by rw [List.length_take]; omega)
              have HKL := Lib.hid (show k + 1 ≤ 1000000 by omega)
              clear z1 z2 hmem hlz'
              go_wp2_with fail
              refine (P1.out _ (Below.refl _ _)).mono ?_
              rintro e w8 ⟨rfl, hb⟩
              have q9 := (hb.cell (p := ⟨b8, o8 + m, none⟩) (Nat.lt_of_lt_of_le hb8 BQ.out.size)).trans q8
              have B8 := Lib.hid (bl BQ.out hb)
              have A8 := Lib.hid ((HA.out.fresh (bl S6.out.bb B8.out)).take (k + 1))
              clear hb q8 S8
              have kw0 : IntKind.i64.wrap ((k : Int) + 1) = (k : Int) + 1 := IntWalk.i64_in _ (by omega)
              have kw1 : (0 : Int) ≤ (k : Int) + 1 := by omega
              have kw2 : ((k : Int) + 1).toNat = k + 1 := by omega
              have kw3 : (k : Int) + 1 ≤ (cap : Int) := by omega
              go_wp2_with fail
              go_quiet ((go_at_call 24; exact Calls.quiet_of_same (lput_q (k + 1) (some ⟨b, off, none⟩) cap (l.take (k + 1)) key' v' _ (A8.out.drew _) HTL.out HKL.out HLZ.out)))
              clear kw0 kw1 kw2 kw3
              go_wp2_with fail
              go_roundw
              case rel => exact ⟨m + 1, by omega, by go_num, below_drewN B8.out _⟩
              case measure => simp [intOf]; omega
            · have S9 := Lib.hid (S6.out.fresh BQ.out)
              go_wp2_with fail
              go_roundw
              case rel => exact ⟨k + 1, sz, uz, Lz, by omega, by go_num, S9.out⟩
              case measure => simp [intOf]; omega
    · have BB := Lib.hid HS.out.bb
      go_wp2_with fail
      refine (awake_any _).mono ?_
      rintro e w3 ⟨rfl, hb⟩
      have B9 := Lib.hid (bl BB.out hb)
      clear hb
      go_wp2
      go_ret
      exact ⟨rfl, B9.out⟩
end Go.Proofs.Ytoecclpfgdfpoaa
