/- The walk of the law SatVias where all lengths fit: it returns true, and writes to new memory alone. -/
import Derived.Test.YtedijnokbemegaaX
import Derived.Test.YtedijnokbemegaaMem
namespace Go.Proofs.Ytedijnokbemegaa
open Go.RowKit

theorem map_take {t u : List (List Int)} {k : Nat} (hk : k < t.length) : ((t.take k).map fun row => viaL row u) ++ [viaL (t.getD k []) u] = (t.take (k + 1)).map fun row => viaL row u := by
  rw [List.take_succ_eq_append_getElem hk, List.map_append]
  simp [List.getD_eq_getElem?_getD, hk]

theorem even_map {t u : List (List Int)} : Even (t.map fun row => viaL row u) ∧ ∀ i, i < t.length → ((t.map fun row => viaL row u).getD i []).length = (u.getD 0 []).length := by
  have h : ∀ i, i < t.length → ((t.map fun row => viaL row u).getD i []).length = (u.getD 0 []).length := fun i hi => by
    simp [List.getD_eq_getElem?_getD, hi, viaL_len]
  refine ⟨fun i hi => ?_, h⟩
  rw [List.length_map] at hi
  rw [h i hi, h 0 (by omega)]

theorem even_twice {t : List (List Int)} (h0 : 0 < t.length) (h : Even t) : Even (t ++ t) := by
  have e : ∀ i, i < (t ++ t).length → ((t ++ t).getD i []).length = (t.getD 0 []).length := fun i hi => by
    rw [List.length_append] at hi
    by_cases hl : i < t.length
    · rw [getD_app_left hl]; exact h i hl
    · rw [getD_app_right (by omega)]; exact h _ (by omega)
  intro i hi
  rw [e i hi, e 0 (by rw [List.length_append]; omega)]

theorem vals_app (a b : List Int) : vals (a ++ b) = vals a ++ vals b := by simp [vals]

/-- These slices are the rows of a table, in other memory than the array that holds them. -/
structure TabS (w : World) (o : Value) (vs : List Value) (xss : List (List Int)) : Prop where
  tab : TabV w vs xss
  off : ∀ (i b off l c : Nat), vs[i]? = some (.slice (some ⟨b, off, none⟩) l c) → 0 < l → b < w.heap.size ∧ o.ownBlock ≠ some b

theorem row_kept {w w' : World} {S : Nat → Prop} {a : Option Addr} {xs : List Int} (h : Row w a xs) (hk : Mem.Kept S w w') (hS : ∀ b off, a = some ⟨b, off, none⟩ → 0 < xs.length → ¬ S b) : Row w' a xs := by
  refine ⟨h.1, ?_⟩
  rcases h.2 with e | ⟨b, off, h1, h2, h3⟩
  · exact .inl e
  · by_cases h0 : 0 < xs.length
    · exact .inr ⟨b, off, h1, Nat.lt_of_lt_of_le h2 hk.size, fun i hi => by rw [hk.cell h2 (hS b off h1 h0)]; exact h3 i hi⟩
    · exact .inl (List.eq_nil_of_length_eq_zero (by omega))

theorem TabS.kept {w w' : World} {o o' : Value} {vs : List Value} {xss : List (List Int)} (h : TabS w o vs xss) (hk : Mem.Kept (fun b => o.ownBlock = some b) w w') (hf : ∀ b, o'.ownBlock = some b → o.ownBlock = some b ∨ w.heap.size ≤ b) : TabS w' o' vs xss := by
  refine ⟨⟨h.tab.1, fun i hi => ?_⟩, fun i b off l c hv hl => ?_⟩
  · obtain ⟨a, c, h1, h2⟩ := h.tab.2 i hi
    exact ⟨a, c, h1, row_kept h2 hk (fun b off e h0 => by subst e; exact (h.off i b off _ c h1 h0).2)⟩
  · obtain ⟨h1, h2⟩ := h.off i b off l c hv hl
    exact ⟨Nat.lt_of_lt_of_le h1 hk.size, fun e => (hf b e).elim h2 (fun e => by omega)⟩

theorem TabS.fresh {w w' : World} {o : Value} {vs : List Value} {xss : List (List Int)} (h : TabS w o vs xss) (hb : Below w.heap.size w w') : TabS w' o vs xss :=
  h.kept (Mem.Kept.of_fresh hb _) (fun _ h => .inl h)

/-- One row more. -/
theorem TabS.snoc {w : World} {o : Value} {vs : List Value} {xss : List (List Int)} (h : TabS w o vs xss) {b c n : Nat} {xs : List Int} (hr : Row w (some ⟨b, 0, none⟩) xs) (hn : xs.length = n) (ho : o.ownBlock ≠ some b) :
    TabS w o (vs ++ [.slice (some ⟨b, 0, none⟩) n c]) (xss ++ [xs]) := by
  subst hn
  refine ⟨h.tab.app (TabV.single hr), fun i b' off l c' hv hl => ?_⟩
  by_cases e : i < vs.length
  · rw [List.getElem?_append_left e] at hv
    exact h.off i b' off l c' hv hl
  · rw [List.getElem?_append_right (by omega)] at hv
    have hi : i - vs.length = 0 := by
      by_cases h0 : i - vs.length = 0
      · exact h0
      · rw [List.getElem?_eq_none (by simp; omega)] at hv; cases hv
    rw [hi] at hv
    simp only [List.getElem?_cons_zero, Option.some.injEq, Value.slice.injEq, Addr.mk.injEq, and_true] at hv
    obtain ⟨⟨rfl, _⟩, rfl, _⟩ := hv
    refine ⟨?_, ho⟩
    rcases hr.2 with e | ⟨b2, o2, e1, e2, _⟩
    · rw [e] at hl; simp at hl
    · simp only [Option.some.injEq, Addr.mk.injEq, and_true] at e1
      rw [e1.1]; exact e2

theorem tab_of_ownM {w : World} {n : Nat} {v : Value} {vs : List Value} {xss : List (List Int)} (h : Mem.Own w 22 1 v n vs) (ht : TabV w vs xss) :
    ∃ a c, v = .slice a xss.length c ∧ n = xss.length ∧ Tab w a xss := tab_of_own h ht

theorem via_okq (n m q : Nat) (a t : Option Addr) (c d : Nat) (xs : List Int) (xss : List (List Int)) (zs : List Int) (w : World) (ha : Row w a xs) (ht : Tab w t xss) (hx : xs.length = n) (hm : xss.length = m) (he : m = n) (h0 : 0 < m)
    (hl : n ≤ 1000000) (hev : Even xss) (hk : q ≤ 1000000) (hq : (xss.getD 0 []).length = q) (hz : viaL xs xss = zs) :
    Calls Try.prog 15 #[.slice a n c, .slice t m d] w (RetN w q zs) := by
  subst hq hz
  exact via_ok n m a t c d xs xss w ha ht hx hm he h0 hl hev hk

set_option maxRecDepth 100000 in
set_option maxHeartbeats 8000000 in
theorem wVias_ok (n m : Nat) (a t u : Option Addr) (c d f : Nat) (xs : List Int) (tss uss : List (List Int)) (w : World) (ha : Row w a xs) (ht : Tab w t tss) (hu : Tab w u uss) (hx : xs.length = n) (hn : n ≤ 30)
    (h1 : Small tss) (h2 : Small uss) (h3 : tss.length = n) (h0 : 0 < n) (h4 : uss.length = m) (hm0 : 0 < m) (hm : (tss.getD 0 []).length = m) (e1 : Even tss) (e2 : Even uss) :
    Calls Try.prog 5 #[.slice a n c, .slice t n d, .slice u m f] w fun e w' => e = .returned (.bool true) ∧ Below w.heap.size w w' := by
  obtain ⟨i0, hi0, hz0, hz1, hz2⟩ := info_parts info22
  obtain ⟨j0, hj0, hy0, hy1, hy2⟩ := info_parts info37
  have UX := Lib.hid ha.1
  have UT := Lib.hid ht.ub
  have UU := Lib.hid hu.ub
  have HA := Lib.hid ha
  have HT := Lib.hid ht
  have HU := Lib.hid hu
  have H1 := Lib.hid h1
  have H2 := Lib.hid h2
  have hm30 : m ≤ 30 := by rw [← h4]; exact h2.1
  have hk30 := h2.2 0 (by omega)
  have hb4 : ((n : Int) == 0) = false := by rw [beq_eq_false_iff_ne]; omega
  have hb5 : ((m : Int) == 0) = false := by rw [beq_eq_false_iff_ne]; omega
  have HX := Lib.hid hx
  have H3 := Lib.hid h3
  have H4 := Lib.hid h4
  have HM := Lib.hid hm
  have E1 := Lib.hid e1
  have E2 := Lib.hid e2
  have HVV := Lib.hid (via_via ha.1 ht.ub hu.ub (by omega) e1 (by omega : uss.length = (tss.getD 0 []).length))
  have HTW := Lib.hid (via_twice (xs := xs) (t := tss) (by omega) (by omega))
  have HMT := Lib.hid (fun k hk => map_take (t := tss) (u := uss) (k := k) hk)
  have HLB := Lib.hid (fun i hi => e1 i hi)
  have LX := Lib.hid (show (viaL xs tss).length = m by rw [viaL_len, hm])
  have LY := Lib.hid (viaL_len (viaL xs tss) uss)
  have EM := Lib.hid (even_map (t := tss) (u := uss))
  have ET := Lib.hid (even_twice (by omega) e1)
  have N1 := Lib.hid (show n ≤ 1000000 by omega)
  have N2 := Lib.hid (show m ≤ 1000000 by omega)
  have HZ := Lib.hid h0
  have HMZ := Lib.hid hm0
  generalize hq : (uss.getD 0 []).length = q at *
  have HQ := Lib.hid hq
  have N3 := Lib.hid (show q ≤ 1000000 by omega)
  clear ha ht hu h1 h2 hx h3 h4 hm e1 e2 hq
  go_enter Try.func5, Try.ntmps5
  go_wp2_with fail
  refine (by have := small_yes t d tss w HT.out H1.out; rw [H3.out] at this; exact this : Calls Try.prog 12 #[.slice t n d] w _).mono ?_
  rintro e w1 ⟨rfl, hb⟩
  have B1 := Lib.hid hb
  clear hb
  go_wp2_with fail
  refine (by have := small_yes u f uss w1 (HU.out.below B1.out (Nat.le_refl _)) H2.out; rw [H4.out] at this; exact this : Calls Try.prog 12 #[.slice u m f] w1 _).mono ?_
  rintro e w2 ⟨rfl, hb⟩
  have B2 := Lib.hid (bl B1.out hb)
  clear hb
  go_wp2_with fail
  refine (via_ok n n a t c d xs tss _ (HA.out.below B2.out (Nat.le_refl _)) (HT.out.below B2.out (Nat.le_refl _)) HX.out H3.out rfl HZ.out N1.out E1.out (by rw [HM.out]; exact N2.out)).mono ?_
  rintro e w3 ⟨a3, c3, rfl, hr, hb⟩
  have B3 := Lib.hid (bl B2.out hb)
  have R3 := Lib.hid hr
  clear hb hr
  rw [HM.out]
  go_wp2_with fail
  refine (via_ok m m a3 u c3 f (viaL xs tss) uss _ R3.out (HU.out.below B3.out (Nat.le_refl _)) LX.out H4.out rfl HMZ.out N2.out E2.out (by rw [HQ.out]; exact N3.out)).mono ?_
  rintro e w4 ⟨a4, c4, rfl, hr, hb⟩
  have B4 := Lib.hid (bl B3.out hb)
  have R4 := Lib.hid hr
  have R34 := Lib.hid (R3.out.below hb (Nat.le_refl _))
  clear hb hr R3
  rw [HQ.out]
  go_wp2_with fail
  go_loopw [11, 12] (fun o i wr => ∃ (k : Nat) (vs : List Value), k ≤ n ∧ i = .int .i64 k ∧ Mem.Own wr 22 1 o k vs ∧ TabS wr o vs ((tss.take k).map fun row => viaL row uss) ∧ (∀ b, o.ownBlock = some b → w4.heap.size ≤ b) ∧ Below w4.heap.size w4 wr)
    (fun _ i _ => n - (intOf i).toNat)
  case atStart => exact ⟨0, [], by omega, rfl, World.ownsRow_made w4 _ 0 (Nat.zero_le _) (by simp [maxLen]) (by simp), ⟨TabV.nil _, fun i b off l c h => by simp at h⟩, fun b h => by simp [Value.ownBlock] at h; omega, by go_grown⟩
  case round =>
    obtain ⟨k, vs, hk, rfl, hown, htv, hge, hbel⟩ := hrel
    have HO := Lib.hid hown
    have HV := Lib.hid htv
    have HB := Lib.hid hbel
    have HGE := Lib.hid hge
    have B5 := Lib.hid (bl B4.out hbel)
    clear hown htv hbel hge
    by_cases hlt : k < n
    · obtain ⟨b5, o5, a5, c5, rfl, l5, q5, r5⟩ := (HT.out.below B5.out (Nat.le_refl _)).at_ (show k < tss.length by rw [H3.out]; exact hlt)
      have R5 := Lib.hid r5
      have HMk := Lib.hid (HMT.out k (by rw [H3.out]; exact hlt))
      have HLk := Lib.hid (HLB.out k (by rw [H3.out]; exact hlt))
      rw [HLk.out, HM.out] at q5
      have LR := Lib.hid (show (tss.getD k []).length = m by rw [HLk.out, HM.out])
      have LV := Lib.hid (show (viaL (tss.getD k []) uss).length = q by rw [viaL_len, HQ.out])
      have k0 : (0 : Int) ≤ (k : Int) := by omega
      have k1 : (k : Int) < (n : Int) := by omega
      generalize tss.getD k [] = row at *
      clear r5
      go_wp2_with fail
      refine (via_okF m m a5 u c5 f row uss _ R5.out (HU.out.below B5.out (Nat.le_refl _)) LR.out H4.out rfl HMZ.out N2.out E2.out (by rw [HQ.out]; exact N3.out)).mono ?_
      rintro e w6 ⟨b6, c6, rfl, hfr, hr, hb⟩
      have HB6 := Lib.hid (HB.out.trans (hb.mono HB.out.size))
      have hne6 : (u11 : Value).ownBlock ≠ some b6 := fun e => by have := HO.out.lt e; omega
      have HV6 := Lib.hid ((HV.out.fresh hb).snoc (c := c6) hr LV.out hne6)
      have HO6 := Lib.hid (HO.out.kept (Mem.Kept.of_below hb) (fun b hb' => by have := HO.out.lt hb'; omega))
      have HS6 := Lib.hid HB6.out.size
      clear hb hr hfr hne6
      rw [HQ.out]
      go_wp2_with (at_builtin; refine Mem.wpList_append_fresh _ rfl _ _ 27 rfl 22 i0 (.slice none 0 0) 1 24 Try.underlying27 hi0 hz0 hz1 hz2 rfl (by decide) _ _ _ rfl (HO6.out.alloc _) (some ⟨w6.heap.size, 0, none⟩) 1 1 [.slice (some ⟨b6, 0, none⟩) q c6] rfl rfl (fun _ => ⟨_, rfl, cell_one_new _ _ _⟩) (by simp [Value.oneCell']) (by simp [maxLen]; omega) (by omega) ?_; intro v' w7 hown1 hg1 hf1)
      have HK7 := Lib.hid ((Mem.Kept.refl (fun b => (u11 : Value).ownBlock = some b) _).grown hg1 (fun k e => .inl e))
      have HV7 := Lib.hid ((HV6.out.fresh ((Below.refl _ _).alloc (Nat.le_refl _) (.cells #[.slice (some ⟨b6, 0, none⟩) q c6] 22))).kept HK7.out (o' := v') hf1)
      have HGE7 := Lib.hid (show ∀ b, v'.ownBlock = some b → w4.heap.size ≤ b from fun b hb => (hf1 b hb).elim (HGE.out b) (fun e => by have := HS6.out; simp only [World.size_alloc] at e; omega))
      have HB7 := Lib.hid ((HB6.out.alloc (HS6.out) (.cells #[.slice (some ⟨b6, 0, none⟩) q c6] 22)).trans (HK7.out.below (fun b _ hb => HGE.out b hb) (by have := HS6.out; simp only [World.size_alloc]; omega)))
      have HOO := Lib.hid hown1
      clear hown1 hg1 hf1
      go_wp2_with fail
      go_roundw
      case rel => exact ⟨k + 1, _, by omega, by go_num, HOO.out, by rw [← HMk.out]; exact HV7.out, HGE7.out, HB7.out⟩
      case measure => simp [intOf]; omega
    · obtain rfl : n = k := by omega
      have HV2 := Lib.hid (show TabV wr vs (tss.map fun row => viaL row uss) by
        have := HV.out.tab
        rw [List.take_of_length_le (by rw [H3.out]; exact Nat.le_refl _)] at this
        exact this)
      obtain ⟨a11, c11, rfl, hnn, htb⟩ := tab_of_ownM HO.out HV2.out
      clear hnn
      have TB := Lib.hid htb
      have LMAP := Lib.hid (show (tss.map fun row => viaL row uss).length = n by rw [List.length_map, H3.out])
      have LM0 := Lib.hid (show ((tss.map fun row => viaL row uss).getD 0 []).length = q from EM.out.2 0 (by rw [H3.out]; exact HZ.out))
      have R3' := Lib.hid (R34.out.below HB.out (Nat.le_refl _))
      have R4' := Lib.hid (R4.out.below HB.out (Nat.le_refl _))
      have LQ := Lib.hid (show (viaL (viaL xs tss) uss).length = q by rw [LY.out])
      rw [LMAP.out]
      have C8 := Lib.hid (via_okq n n q a a11 c c11 xs (tss.map fun row => viaL row uss) (viaL (viaL xs tss) uss) wr (HA.out.below B5.out (Nat.le_refl _)) TB.out HX.out LMAP.out rfl HZ.out N1.out EM.out.1 N3.out LM0.out HVV.out.symm)
      clear htb HO HV HV2 HGE hlt
      go_wp2_with fail
      refine C8.out.mono ?_
      rintro e w8 ⟨a8, c8, rfl, hr, hb⟩
      have B8 := Lib.hid (bl B5.out hb)
      have R8 := Lib.hid hr
      have R38 := Lib.hid (R3'.out.below hb (Nat.le_refl _))
      have R48 := Lib.hid (R4'.out.below hb (Nat.le_refl _))
      clear hb hr
      go_wp2_with fail
      refine (same_n q a4 a8 c4 c8 (viaL (viaL xs tss) uss) _ R48.out R8.out LQ.out N3.out).mono ?_
      rintro e w9 ⟨rfl, hb⟩
      have B9 := Lib.hid (bl B8.out hb)
      have R39 := Lib.hid (R38.out.below hb (Nat.le_refl _))
      clear hb R8 R38 R48 R4' R3'
      obtain ⟨tb, toff, tvs, rfl, htlt, htv, htc⟩ := (HT.out.below B9.out (Nat.le_refl _)).cells (show 0 < tss.length by rw [H3.out]; exact HZ.out)
      obtain ⟨ab, aoff, rfl, halt, hac⟩ := (HA.out.below B9.out (Nat.le_refl _)).cells (show 0 < xs.length by rw [HX.out]; exact HZ.out)
      have TV := Lib.hid htv
      have TC := Lib.hid htc
      have AC := Lib.hid hac
      have TL := Lib.hid (show tvs.length = n by rw [htv.1, H3.out])
      have AL := Lib.hid (show (vals xs).length = n by simp [vals, HX.out])
      have AONE := Lib.hid (show ∀ u ∈ vals xs, u.oneCell' = true by intro u hu; obtain ⟨y, _, rfl⟩ := List.mem_map.1 hu; rfl)
      have TLT := Lib.hid htlt
      have ALT := Lib.hid halt
      clear htv htc hac htlt halt
      go_wp2_with (first
        | (at_builtin; refine Mem.wpList_append_fresh _ rfl (.tmp 127) (.tmp 128) 27 rfl 22 i0 (.slice none 0 0) 1 24 Try.underlying27 hi0 hz0 hz1 hz2 rfl (by decide) (.slice (some ⟨w9.heap.size, 0, none⟩) 0 0) 0 [] rfl (World.ownsRow_made w9 _ 0 (Nat.zero_le _) (by simp [maxLen]) (by simp)) (some ⟨tb, toff, none⟩) n d tvs rfl (by rw [TL.out, Nat.mul_one]) (fun _ => ⟨_, rfl, fun j u hu => (Below.cell (B := w9.heap.size) ((Below.refl _ _).alloc (Nat.le_refl _) _) (p := (⟨tb, toff, none⟩ : Addr).add j) (by rw [Addr.add_lit]; exact TLT.out)).trans (TC.out j u hu)⟩) TV.out.one (by simp [maxLen]; omega) (by omega) ?_; intro v10 w10 ho10 hg10 hf10; have HO10 := Lib.hid ho10; have HF10 := Lib.hid (show ∀ b, v10.ownBlock = some b → w9.heap.size ≤ b from fun b hb => (hf10 b hb).elim (fun e => by simp [Value.ownBlock] at e; omega) (fun e => by simp only [World.size_alloc] at e; omega)); have HK10 := Lib.hid ((Mem.Kept.refl (fun b => some b = some w9.heap.size) _).grown hg10 (fun k e => .inl e.symm)); have HB10 := Lib.hid (((Below.refl w9.heap.size w9).alloc (Nat.le_refl _) _).trans (HK10.out.below (fun b _ hb => by simp at hb; omega) (by simp))); clear ho10 hg10 hf10)
        | (at_builtin; refine Mem.wpList_append_fresh _ rfl (.tmp 129) (.tmp 130) 27 rfl 22 i0 (.slice none 0 0) 1 24 Try.underlying27 hi0 hz0 hz1 hz2 rfl (by decide) _ _ _ rfl HO10.out (some ⟨tb, toff, none⟩) n d tvs rfl (by rw [TL.out, Nat.mul_one]) (fun _ => ⟨_, rfl, fun j u hu => (Below.cell (B := w9.heap.size) HB10.out (p := (⟨tb, toff, none⟩ : Addr).add j) (by rw [Addr.add_lit]; exact TLT.out)).trans (TC.out j u hu)⟩) TV.out.one (by simp [maxLen]; omega) (by omega) ?_; intro v11 w11 ho11 hg11 hf11; have HK11 := Lib.hid ((Mem.Kept.refl (fun b => v10.ownBlock = some b) _).grown hg11 (fun k e => .inl e)); have HB11 := Lib.hid (HB10.out.trans (HK11.out.below (fun b _ hb => HF10.out b hb) HB10.out.size)); have TV11 := Lib.hid ((TV.out.below HB11.out).app (TV.out.below HB11.out)); obtain ⟨a11, c11, rfl, hn11, htw⟩ := tab_of_ownM (by simpa using ho11) TV11.out; have TW := Lib.hid htw; clear hn11 htw ho11 hg11 hf11 HO10 HF10 HK10 HB10 HK11 TV11)
        | (at_builtin; refine Mem.wpList_append_fresh _ rfl (.tmp 133) (.tmp 134) 22 rfl 37 j0 (.int .u64 0) 1 8 Try.underlying22 hj0 hy0 hy1 hy2 rfl (by decide) (.slice (some ⟨w11.heap.size, 0, none⟩) 0 0) 0 [] rfl (World.ownsRow_made w11 _ 0 (Nat.zero_le _) (by simp [maxLen]) (by simp)) (some ⟨ab, aoff, none⟩) n c (vals xs) rfl (by rw [AL.out, Nat.mul_one]) (fun _ => ⟨_, rfl, fun j u hu => (Below.cell (B := w9.heap.size) (HB11.out.alloc HB11.out.size _) (p := (⟨ab, aoff, none⟩ : Addr).add j) (by rw [Addr.add_lit]; exact ALT.out)).trans (AC.out j u hu)⟩) AONE.out (by simp [maxLen]; omega) (by omega) ?_; intro v12 w12 ho12 hg12 hf12; have HO12 := Lib.hid ho12; have HF12 := Lib.hid (show ∀ b, v12.ownBlock = some b → w11.heap.size ≤ b from fun b hb => (hf12 b hb).elim (fun e => by simp [Value.ownBlock] at e; omega) (fun e => by simp only [World.size_alloc] at e; omega)); have HK12 := Lib.hid ((Mem.Kept.refl (fun b => some b = some w11.heap.size) _).grown hg12 (fun k e => .inl e.symm)); have HB12 := Lib.hid (((Below.refl w11.heap.size w11).alloc (Nat.le_refl _) _).trans (HK12.out.below (fun b _ hb => by simp at hb; omega) (by simp))); have HB912 := Lib.hid (HB11.out.trans (HB12.out.mono HB11.out.size)); clear ho12 hg12 hf12)
        | (at_builtin; refine Mem.wpList_append_fresh _ rfl (.tmp 135) (.tmp 136) 22 rfl 37 j0 (.int .u64 0) 1 8 Try.underlying22 hj0 hy0 hy1 hy2 rfl (by decide) _ _ _ rfl HO12.out (some ⟨ab, aoff, none⟩) n c (vals xs) rfl (by rw [AL.out, Nat.mul_one]) (fun _ => ⟨_, rfl, fun j u hu => (Below.cell (B := w9.heap.size) HB912.out (p := (⟨ab, aoff, none⟩ : Addr).add j) (by rw [Addr.add_lit]; exact ALT.out)).trans (AC.out j u hu)⟩) AONE.out (by simp [maxLen]; omega) (by omega) ?_; intro v13 w13 ho13 hg13 hf13; have HK13 := Lib.hid ((Mem.Kept.refl (fun b => v12.ownBlock = some b) _).grown hg13 (fun k e => .inl e)); have HB13 := Lib.hid (HB12.out.trans (HK13.out.below (fun b _ hb => HF12.out b hb) HB12.out.size)); obtain ⟨a13, c13, rfl, hr13⟩ := row_of_own (l := xs ++ xs) (by rw [vals_app]; have h13 := ho13; simp at h13; exact h13) (fun x hx => UX.out x (by simpa using hx)); have R13 := Lib.hid hr13; clear hr13 ho13 hg13 hf13 HO12 HF12 HK12 HB12 HK13 HB912))
      have LXX := Lib.hid (show (xs ++ xs).length = n + n by rw [List.length_append, HX.out])
      have LTT := Lib.hid (show (tss ++ tss).length = n + n by rw [List.length_append, H3.out])
      have LT0 := Lib.hid (show ((tss ++ tss).getD 0 []).length = m by rw [getD_app_left (by rw [H3.out]; exact HZ.out), HM.out])
      have C14 := Lib.hid (via_okq (n + n) (n + n) m a13 a11 c13 c11 (xs ++ xs) (tss ++ tss) (viaL xs tss) w13 R13.out (TW.out.below HB13.out (Nat.le_refl _)) LXX.out LTT.out rfl (by have := HZ.out; omega) (by omega) ET.out N2.out LT0.out HTW.out)
      have R311 := Lib.hid (R39.out.below HB11.out (Nat.le_refl _))
      have HBX := Lib.hid (HB11.out.trans (HB13.out.mono HB11.out.size))
      have R313 := Lib.hid (R39.out.below HBX.out (Nat.le_refl _))
      have B13 := Lib.hid (bl B9.out HBX.out)
      have MS := Lib.hid (minL_self (viaL xs tss))
      rw [HX.out, H3.out]
      clear R311 HBX R39
      refine C14.out.mono ?_
      rintro e w14 ⟨a14, c14, rfl, hr, hb⟩
      have B14 := Lib.hid (bl B13.out hb)
      have R14 := Lib.hid hr
      have R314 := Lib.hid (R313.out.below hb (Nat.le_refl _))
      clear hb hr
      go_wp2_with fail
      refine (join_n m a3 a14 c3 c14 (viaL xs tss) (viaL xs tss) _ R314.out R14.out LX.out LX.out N2.out).mono ?_
      rintro e w15 ⟨a15, c15, rfl, hr, hb⟩
      have B15 := Lib.hid (bl B14.out hb)
      rw [MS.out] at hr
      have R15 := Lib.hid hr
      have R315 := Lib.hid (R314.out.below hb (Nat.le_refl _))
      have R145 := Lib.hid (R14.out.below hb (Nat.le_refl _))
      clear hb hr
      go_wp2_with fail
      refine (same_n m a14 a3 c14 c3 (viaL xs tss) _ R145.out R315.out LX.out N2.out).mono ?_
      rintro e w16 ⟨rfl, hb⟩
      have B16 := Lib.hid (bl B15.out hb)
      have R316 := Lib.hid (R315.out.below hb (Nat.le_refl _))
      have R156 := Lib.hid (R15.out.below hb (Nat.le_refl _))
      clear hb
      go_wp2_with fail
      refine (same_n m a15 a3 c15 c3 (viaL xs tss) _ R156.out R316.out LX.out N2.out).mono ?_
      rintro e w17 ⟨rfl, hb⟩
      have B17 := Lib.hid (bl B16.out hb)
      clear hb
      go_wp2_with fail
      refine (awake_any _).mono ?_
      rintro e w18 ⟨rfl, hb⟩
      have B18 := Lib.hid (bl B17.out hb)
      clear hb
      go_wp2
      go_ret
      exact ⟨rfl, B18.out⟩

theorem wVias (a t u : Option Addr) (c d f : Nat) (xs : List Int) (tss uss : List (List Int)) (w : World) (ha : Row w a xs) (ht : Tab w t tss) (hu : Tab w u uss) (l0 : xs.length ≤ 9223372036854775807)
    (l1 : tss.length ≤ 9223372036854775807) (l2 : uss.length ≤ 9223372036854775807) (m1 : ∀ i, i < tss.length → (tss.getD i []).length ≤ 9223372036854775807) (m2 : ∀ i, i < uss.length → (uss.getD i []).length ≤ 9223372036854775807) :
    Calls Try.prog 5 #[.slice a xs.length c, .slice t tss.length d, .slice u uss.length f] w fun e w' => e = .returned (.bool true) ∧ Below w.heap.size w w' := by
  by_cases h : 30 < xs.length ∨ ¬ Small tss ∨ ¬ Small uss ∨ tss.length = 0 ∨ uss.length = 0
  · exact wVias_awake a t u xs.length c d f tss uss w ht hu l0 l1 l2 m1 m2 h
  · have s1 : Small tss := Classical.byContradiction fun e => h (.inr (.inl e))
    have s2 : Small uss := Classical.byContradiction fun e => h (.inr (.inr (.inl e)))
    have hl : ¬ (30 < xs.length) := fun e => h (.inl e)
    have ht0 : tss.length ≠ 0 := fun e => h (.inr (.inr (.inr (.inl e))))
    have hu0 : uss.length ≠ 0 := fun e => h (.inr (.inr (.inr (.inr e))))
    by_cases hbad : (xs.length ≠ tss.length ∨ ¬ Even tss) ∨ ((tss.getD 0 []).length ≠ uss.length ∨ ¬ Even uss)
    · exact wVias_bad a t u c d f xs tss uss w ha ht hu (by omega) s1 s2 (by omega) (by omega) hbad
    · have e1 : xs.length = tss.length := Classical.byContradiction fun e => hbad (.inl (.inl e))
      have e2 : Even tss := Classical.byContradiction fun e => hbad (.inl (.inr e))
      have e3 : (tss.getD 0 []).length = uss.length := Classical.byContradiction fun e => hbad (.inr (.inl e))
      have e4 : Even uss := Classical.byContradiction fun e => hbad (.inr (.inr e))
      have := wVias_ok xs.length uss.length a t u c d f xs tss uss w ha ht hu rfl (by omega) s1 s2 e1.symm (by omega) rfl (by omega) e3 e2 e4
      rw [← e1]
      exact this
end Go.Proofs.Ytedijnokbemegaa
