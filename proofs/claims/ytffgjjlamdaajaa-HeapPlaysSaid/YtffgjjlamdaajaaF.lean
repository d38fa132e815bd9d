/- A heap: what Lower and Key return, and what the heap holds then. -/
import Derived.Test.YtffgjjlamdaajaaE
import Derived.Laws.ResultCell
namespace Go.Proofs.Ytffgjjlamdaajaa
open Go.RowKit

theorem flat_set4 : ∀ (l : List Th) (j : Nat) (k : Ky), j < l.length →
    ((((flat l).set (j * 5 + 1) (.int .u64 k.1)).set (j * 5 + 2) (.int .u64 k.2.1)).set (j * 5 + 3) (.int .i64 k.2.2.1)).set (j * 5 + 4) (.int .i64 k.2.2.2) = flat (l.set j ((g l j).1, k))
  | [], _, _, h => by simp at h
  | _ :: _, 0, _, _ => rfl
  | _ :: r, j + 1, k, h => by
    have := flat_set4 r j k (by simpa using h)
    rw [show (j + 1) * 5 = j * 5 + 1 + 1 + 1 + 1 + 1 by omega]
    simp only [flat, List.set_cons_succ, this, g, List.getD_cons_succ]
/-- A key laid at a place of a row. -/
abbrev lay4 (w : World) (b j : Nat) (k : Ky) : World :=
  (((w.setCell ⟨b, j * 5 + 1, none⟩ (.int .u64 k.1)).setCell ⟨b, j * 5 + 2, none⟩ (.int .u64 k.2.1)).setCell ⟨b, j * 5 + 3, none⟩ (.int .i64 k.2.2.1)).setCell ⟨b, j * 5 + 4, none⟩ (.int .i64 k.2.2.2)
theorem own_lay4 {w : World} {b n cap : Nat} {l : List Th} (h : Own w 69 5 (.slice (some ⟨b, 0, none⟩) n cap) l.length (flat l)) (hn : n = l.length) {j : Nat} (hj : j < l.length) (k : Ky) :
    Own (lay4 w b j k) 69 5 (.slice (some ⟨b, 0, none⟩) n cap) (l.set j ((g l j).1, k)).length (flat (l.set j ((g l j).1, k))) := by
  subst hn
  obtain ⟨g', cap', cur, e, hb, h1, h2, h3, h4⟩ := h.of_pos (by omega)
  simp only [Value.slice.injEq, Option.some.injEq, Addr.mk.injEq, and_true, true_and] at e
  obtain ⟨rfl, rfl⟩ := e
  rw [List.length_set]
  refine Own.mk ((((hb.set_ (j * 5 + 1) _).set_ (j * 5 + 2) _).set_ (j * 5 + 3) _).set_ (j * 5 + 4) _) h1 h2 (by simpa using h3) ?_
  simp only [Array.toList_setIfInBounds, List.take_set, h4]
  exact flat_set4 l j k hj
theorem kept_lay4 (w : World) (b j : Nat) (k : Ky) : Kept (fun q => q = b) w (lay4 w b j k) :=
  ((((Kept.refl (fun q => q = b) w).setCell (p := ⟨b, j * 5 + 1, none⟩) (.inl rfl) _).setCell (p := ⟨b, j * 5 + 2, none⟩) (.inl rfl) _).setCell (p := ⟨b, j * 5 + 3, none⟩) (.inl rfl) _).setCell (p := ⟨b, j * 5 + 4, none⟩) (.inl rfl) _

theorem H0.drew {w : World} {p m : Nat} {s : Value} {l : List Th} {f : Int → Option Int} (h : H0 w p s m l f) : H0 w.drew p s m l f := ⟨h.blk, h.own, h.map, h.ne1, h.ne2, h.ne3⟩
theorem lower_mem {w : World} {p b n cap m : Nat} {l : List Th} {f : Int → Option Int} (h : H0 w p (.slice (some ⟨b, 0, none⟩) n cap) m l f) (hn : n = l.length) {j : Nat} (hj : j < n) (k : Ky) :
    H0 (lay4 w b j k).drew p (.slice (some ⟨b, 0, none⟩) n cap) m (l.set j ((g l j).1, k)) f ∧ Kept (O p (.slice (some ⟨b, 0, none⟩) n cap) m) w (lay4 w b j k).drew := by
  have hk := kept_lay4 w b j k
  refine ⟨H0.drew ⟨hk.blk h.blk (fun e => h.ne1 (by simp [Value.ownBlock, e])), own_lay4 h.own hn (hn ▸ hj) k, h.map.kept hk (fun e => h.ne3 (by simp [Value.ownBlock, e])), h.ne1, h.ne2, h.ne3⟩, ?_⟩
  exact (hk.mono (fun _ _ e => .inr (.inr (by simp [Value.ownBlock, e])))).drew

/-- What Lower leaves. -/
def LowerPost (p : Nat) (s : Value) (m : Nat) (S : List Th) (id : Int) (k : Ky) (w : World) (e : Ending) (w' : World) : Prop :=
  e = .returned (.int .i64 (lowerE S id k)) ∧ Hp w' p s m (lowerS S id k) ∧ Kept (O p s m) w w'

set_option maxHeartbeats 1000000 in
theorem lower_none (p : Nat) (s : Value) (m : Nat) (S : List Th) (id : Int) (k : Ky) (w : World) (h : Hp w p s m S) (hh : hasS S id = false) :
    Calls Try.prog 16 #[.pointer (some ⟨p, 0, none⟩), .int .i64 id, kyV k] w (LowerPost p s m S id k w) := by
  have HH := Lib.hid h
  obtain ⟨l, f, h0, hA, _, hp, _⟩ := h
  have HM := Lib.hid h0.map
  have hs : (f id).isSome = false := (hA.has hp id).trans hh
  obtain ⟨v, hv⟩ : ∃ v, (f id).getD 0 = v := ⟨_, rfl⟩
  have HS := Lib.hid hh
  have q1 := h0.blk.cell 1
  simp at q1
  have hplt := h0.blk.lt
  clear h0 hA hp hh
  obtain ⟨k1, k2, k3, k4⟩ := k
  go_enter Try.func16, Try.ntmps16
  go_wp2_with (at_lookup; refine wpList_look _ rfl _ _ 63 3 3 rfl und63 und3 (zero3 _) m f (by exact HM.out.fresh ((Below.refl _ _).alloc (Nat.le_refl _) _)) id v false hv hs rfl rfl ?_)
  go_ret
  refine ⟨by unfold lowerE; rw [HS.out]; rfl, ?_, Kept.of_fresh (by go_grown) _⟩
  unfold lowerS lowerB
  rw [HS.out, Bool.false_and, if_neg (by simp)]
  exact HH.out.fresh (by go_grown)

set_option maxHeartbeats 4000000 in
theorem lower_there (p : Nat) (s : Value) (m : Nat) (S : List Th) (id : Int) (k : Ky) (w : World) (h : Hp w p s m S) (hl : S.length ≤ 1000000) (hh : hasS S id = true) :
    Calls Try.prog 16 #[.pointer (some ⟨p, 0, none⟩), .int .i64 id, kyV k] w (LowerPost p s m S id k w) := by
  have HHp := Lib.hid h
  obtain ⟨l, f, h0, hA, hHe, hp, hSo⟩ := h
  obtain ⟨j, hj, hfj, hgj⟩ := hA.key hp hh
  obtain ⟨b, cap, cur, rfl, hb, _⟩ := h0.own.of_pos (by omega)
  obtain ⟨n, hn⟩ : ∃ n, n = l.length := ⟨_, rfl⟩
  have hnl : n ≤ 1000000 := by rw [hn, hp.length_eq]; exact hl
  have HN := Lib.hid hn
  obtain ⟨c0, c1, c2, c3, c4⟩ := own_cells h0.own hj
  rw [hgj] at c0 c1 c2 c3 c4
  have q0 := h0.blk.cell 0
  have q1 := h0.blk.cell 1
  simp at q0 q1
  rw [← hn] at q0 hj h0
  have hplt := h0.blk.lt
  have hblt := hb.lt
  have HH := Lib.hid h0
  have HA := Lib.hid hA
  have HHe := Lib.hid hHe
  have HO := Lib.hid (fun hk : ltK k (keyS S id) = true => ordered_lower (k := k) hA.once hp hSo hh hk (by rw [← hn]; exact hj) hgj)
  have HS := Lib.hid hh
  have hv0 : (f id).getD 0 = (j : Int) := by rw [hfj]; rfl
  have hok : (f id).isSome = true := by rw [hfj]; rfl
  have HG := Lib.hid hgj
  have HL := Lib.hid (fun W => less_any k (keyS S id) W)
  have HF := Lib.hid (fun o => hb.frozen o)
  have j0 : (0 : Int) ≤ (j : Int) := by omega
  have j1 : (j : Int) < (n : Int) := by omega
  clear h0 hA hHe hp hSo hh hn hb hfj hgj
  have HE : Hid (lowerE S id k = if ltK k (keyS S id) then 0 else 1) := Lib.hid (by unfold lowerE; rw [HS.out, if_pos rfl])
  have HB : Hid (lowerB S id k = ltK k (keyS S id)) := Lib.hid (by unfold lowerB; rw [HS.out, Bool.true_and])
  generalize keyS S id = y at *
  obtain ⟨k1, k2, k3, k4⟩ := k
  obtain ⟨y1, y2, y3, y4⟩ := y
  dsimp only at c0 c1 c2 c3 c4
  go_enter Try.func16, Try.ntmps16
  go_wp2_with (at_lookup; refine wpList_look _ rfl _ _ 63 3 3 rfl und63 und3 (zero3 _) m f (by exact HH.out.map.fresh ((Below.refl _ _).alloc (Nat.le_refl _) _)) id j true hv0 hok rfl rfl ?_)
  generalize hw0 : w.alloc _ = w0
  have B0 : Below w.heap.size w w0 := by rw [← hw0]; go_grown
  have K0 : Blk w0 w.heap.size 24 #[.int .u64 k1, .int .u64 k2, .int .i64 k3, .int .i64 k4] := by rw [← hw0]; exact Blk.new w 24 _
  have Z0 : w.heap.size < w0.heap.size := by rw [← hw0]; simp
  clear hw0
  replace q0 := (B0.cell (p := ⟨p, 0, none⟩) hplt).trans q0
  replace c0 := (B0.cell (p := ⟨b, j * 5, none⟩) hblt).trans c0
  replace c1 := (B0.cell (p := ⟨b, j * 5 + 1, none⟩) hblt).trans c1
  replace c2 := (B0.cell (p := ⟨b, j * 5 + 2, none⟩) hblt).trans c2
  replace c3 := (B0.cell (p := ⟨b, j * 5 + 3, none⟩) hblt).trans c3
  replace c4 := (B0.cell (p := ⟨b, j * 5 + 4, none⟩) hblt).trans c4
  have d0 := K0.cell 0
  have d1 := K0.cell 1
  have d2 := K0.cell 2
  have d3 := K0.cell 3
  simp at d0 d1 d2 d3
  have HB0 := Lib.hid B0
  have HK0 := Lib.hid K0
  clear B0 K0
  go_still_tail 9, (by kernel_rfl)
  change wpList _ _ _ _ _ w0.drew
  go_wp2_with fail
  refine (HL.out _).mono ?_
  rintro e w1 ⟨rfl, hb⟩
  have kb := HK0.out.drew.below hb Z0
  have hb' : Below w.heap.size w w1 := bl (show Below w.heap.size w w0.drew from HB0.out.drew) hb
  have hb2 : Below w0.heap.size w0 w1 := ⟨hb.os, hb.tape, hb.output, hb.size, hb.block⟩
  have H1 := Lib.hid (HH.out.fresh hb')
  have HB1 := Lib.hid hb'
  have HP1 := Lib.hid (HHp.out.fresh hb')
  cases hlt : ltK (k1, k2, k3, k4) (y1, y2, y3, y4)
  · rw [hlt] at HE HB
    clear hb kb hb' hb2
    go_wp2_with fail
    go_ret
    refine ⟨by rw [HE.out]; rfl, ?_, Kept.of_fresh HB1.out _⟩
    unfold lowerS
    rw [HB.out, if_neg (by simp)]
    exact HP1.out
  · rw [hlt] at HE HB
    have HO2 := Lib.hid (HO.out hlt)
    have hpl0 : p < w0.heap.size := by omega
    have hbl0 : b < w0.heap.size := by omega
    have r0 := (hb2.cell (p := ⟨p, 0, none⟩) hpl0).trans q0
    have b0 := (hb2.cell (p := ⟨b, j * 5, none⟩) hbl0).trans c0
    have b1 := (hb2.cell (p := ⟨b, j * 5 + 1, none⟩) hbl0).trans c1
    have b2 := (hb2.cell (p := ⟨b, j * 5 + 2, none⟩) hbl0).trans c2
    have b3 := (hb2.cell (p := ⟨b, j * 5 + 3, none⟩) hbl0).trans c3
    have b4 := (hb2.cell (p := ⟨b, j * 5 + 4, none⟩) hbl0).trans c4
    have fr : ∀ o, w1.frozen? ⟨b, o, none⟩ = false := fun o => (World.frozen?_of_block (w := w) (hb'.block b hblt)).trans (HF.out o)
    have e0 := kb.cell 0
    have e1 := kb.cell 1
    have e2 := kb.cell 2
    have e3 := kb.cell 3
    simp at e0 e1 e2 e3
    clear hb kb hb' hb2 d0 d1 d2 d3 c0 c1 c2 c3 c4 q0 q1 HO HL
    go_wp2_with fail
    go_region
    go_wp2_with fail
    have HM := Lib.hid (lower_mem H1.out HN.out hj (k1, k2, k3, k4))
    rw [HG.out] at HM
    refine (rise_any p b n cap m (l.set j (id, k1, k2, k3, k4)) f j _ (by rw [List.length_set, HN.out]) (by exact HM.out.1) hnl hj (by have := HA.out.rekey (i := j) (by rw [← HN.out]; exact hj) (k1, k2, k3, k4); rw [HG.out] at this; exact this) (HHe.out.rekey (by rw [← HN.out]; exact hj) (by rw [HG.out]; exact .inl ((ltK_iff _ _).1 hlt)))).mono ?_
    rintro e w5 ⟨rfl, l5, f5, hm5, hh5⟩
    have M5 := Lib.hid hm5
    have H5 := Lib.hid hh5
    clear hm5 hh5
    go_wp2_with fail
    go_ret
    refine ⟨by rw [HE.out]; rfl, ?_, ?_⟩
    · rw [← HN.out]
      exact Hp.of_done M5.out H5.out HO2.out.1 HO2.out.2
    · rw [← HN.out]
      exact ((Kept.of_fresh HB1.out _).trans HM.out.2 (fun _ e => .inl e)).trans M5.out.kept (fun _ e => .inl e)

theorem lower_any (p : Nat) (s : Value) (m : Nat) (S : List Th) (id : Int) (k : Ky) (w : World) (h : Hp w p s m S) (hl : S.length ≤ 1000000) :
    Calls Try.prog 16 #[.pointer (some ⟨p, 0, none⟩), .int .i64 id, kyV k] w (LowerPost p s m S id k w) := by
  cases hh : hasS S id
  · exact lower_none p s m S id k w h hh
  · exact lower_there p s m S id k w h hl hh

theorem lower_nil (id : Int) (k : Ky) (w : World) : Calls Try.prog 16 #[.pointer none, .int .i64 id, kyV k] w fun e w' => e = .returned (.int .i64 2) ∧ Below w.heap.size w w' := by
  obtain ⟨k1, k2, k3, k4⟩ := k
  go_enter Try.func16, Try.ntmps16
  go_wp2_with fail
  go_ret
  exact ⟨rfl, by go_grown⟩
end Go.Proofs.Ytffgjjlamdaajaa
