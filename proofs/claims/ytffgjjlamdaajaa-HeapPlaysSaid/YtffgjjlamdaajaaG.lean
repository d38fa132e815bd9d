/- A heap: what Pop returns, and what the heap holds then. -/
import Derived.Test.YtffgjjlamdaajaaF
namespace Go.Proofs.Ytffgjjlamdaajaa
open Go.RowKit

theorem results_tct {fn : Func} {t p u : Tmp} {ty : TypeId} (h : fn.results = #[.tmp t, .cell p ty, .tmp u]) (tmps : Array Value) (P : Program) (w : World) :
    (results fn tmps).run P w =
      ((asAddr (tmps.getD p undef)).run P w).andThen fun a w₁ => ((loadVar ty a).run P w₁).andThen fun v w₂ => .ok (.tuple #[tmps.getD t undef, v, tmps.getD u undef]) w₂ := by
  simp only [results, h]
  simp [Sem.run_bind, Result.andThen]

/-- What Pop returns. -/
def popV : List Th → Value
  | [] => .tuple #[.int .i64 0, kyV (0, 0, 0, 0), .bool false]
  | x :: _ => .tuple #[.int .i64 x.1, kyV x.2, .bool true]
/-- What Pop leaves. -/
def PopPost (p : Nat) (s : Value) (m : Nat) (S : List Th) (w : World) (e : Ending) (w' : World) : Prop :=
  ∃ s', e = .returned (popV S) ∧ Hp w' p s' m S.tail ∧ Kept (O p s m) w w' ∧ Fresh w s s'

set_option maxHeartbeats 1000000 in
theorem pop_nil (w : World) : Calls Try.prog 18 #[.pointer none] w fun e w' => e = .returned (popV []) ∧ Below w.heap.size w w' := by
  go_enter Try.func18, Try.ntmps18
  go_wp2_with fail
  refine (len_nil _).mono ?_
  rintro e w1 ⟨rfl, rfl⟩
  go_wp2_with fail
  refine bodyPost_ret (by rw [results_tct rfl]; go_simp; first | rfl | (go_simp; rfl)) rfl ?_
  exact ⟨rfl, by go_grown⟩

set_option maxHeartbeats 1000000 in
theorem pop_none (p : Nat) (s : Value) (m : Nat) (w : World) (h : Hp w p s m []) : Calls Try.prog 18 #[.pointer (some ⟨p, 0, none⟩)] w (PopPost p s m [] w) := by
  have HH := Lib.hid h
  clear h
  go_enter Try.func18, Try.ntmps18
  go_wp2_with fail
  refine (len_any p s m [] _ (by exact HH.out.fresh (by go_grown))).mono ?_
  rintro e w1 ⟨rfl, rfl⟩
  go_wp2_with fail
  refine bodyPost_ret (by rw [results_tct rfl]; go_simp; first | rfl | (go_simp; rfl)) rfl ?_
  exact ⟨s, rfl, HH.out.fresh (by go_grown), Kept.of_fresh (by go_grown) _, fun _ e => .inl e⟩

theorem own_take {w : World} {b n cap : Nat} {l : List Th} (h : Own w 69 5 (.slice (some ⟨b, 0, none⟩) (n + 1) cap) l.length (flat l)) (hl : l.length = n + 1) :
    Own w 69 5 (.slice (some ⟨b, 0, none⟩) n cap) (l.take n).length (flat (l.take n)) := by
  obtain ⟨g', cap', cur, e, hb, h1, h2, h3, h4⟩ := h.of_pos (by omega)
  simp only [Value.slice.injEq, Option.some.injEq, Addr.mk.injEq, and_true] at e
  obtain ⟨rfl, _, rfl⟩ := e
  rw [List.length_take, hl, Nat.min_eq_left (by omega)]
  refine Own.mk hb (by omega) h2 h3 ?_
  rw [flat_take, ← h4, List.take_take, hl, Nat.min_eq_left (by omega)]
theorem pop_h0 {w : World} {p b n cap m : Nat} {l : List Th} {f : Int → Option Int} (h : H0 w p (.slice (some ⟨b, 0, none⟩) (n + 1) cap) m l f) (hl : l.length = n + 1) :
    H0 (w.setCell ⟨p, 0, none⟩ (.slice (some ⟨b, 0, none⟩) n cap)) p (.slice (some ⟨b, 0, none⟩) n cap) m (l.take n) f ∧ Kept (fun q => q = p) w (w.setCell ⟨p, 0, none⟩ (.slice (some ⟨b, 0, none⟩) n cap)) := by
  have hk := (Kept.refl (fun q => q = p) w).setCell (p := ⟨p, 0, none⟩) (.inl rfl) (.slice (some ⟨b, 0, none⟩) n cap)
  have n1 : (Value.slice (some ⟨b, 0, none⟩) n cap).ownBlock ≠ some p := h.ne1
  exact ⟨⟨h.blk.set_ 0 _, (own_take h.own hl).kept hk (fun q hb e => n1 (e ▸ hb)), h.map.kept hk h.ne2, n1, h.ne2, h.ne3⟩, hk⟩

set_option maxHeartbeats 4000000 in
theorem pop_some (p : Nat) (s : Value) (m : Nat) (S : List Th) (w : World) (h : Hp w p s m S) (hl : S.length ≤ 1000000) (h1 : 0 < S.length) : Calls Try.prog 18 #[.pointer (some ⟨p, 0, none⟩)] w (PopPost p s m S w) := by
  have HHp := Lib.hid h
  obtain ⟨l, f, h0, hA, hHe, hp, hSo⟩ := h
  obtain ⟨n, hn⟩ : ∃ n, l.length = n + 1 := ⟨l.length - 1, by have := hp.length_eq; omega⟩
  have hSn : S.length = n + 1 := by rw [← hp.length_eq, hn]
  obtain ⟨b, cap, cur, rfl, hb, _⟩ := h0.own.of_pos (by omega)
  have hnl : n ≤ 1000000 := by omega
  obtain ⟨c0, c1, c2, c3, c4⟩ := own_cells h0.own (j := 0) (by omega)
  simp only [Nat.zero_mul, Nat.zero_add] at c0 c1 c2 c3 c4
  have q0 := h0.blk.cell 0
  simp at q0
  rw [hn] at q0
  have hplt := h0.blk.lt
  have hblt := hb.lt
  have HH := Lib.hid h0
  have HA := Lib.hid hA
  have HHe := Lib.hid hHe
  have HN := Lib.hid hn
  obtain ⟨hO1, hO2, hO3⟩ := ordered_pop hHe hn hp hSo
  have HO2 := Lib.hid hO2
  have HO3 := Lib.hid hO3
  have HO1 := Lib.hid hO1
  clear h0 hA hHe hp hSo hb hO1 hO2 hO3
  generalize hx : g l 0 = x at *
  have HX := Lib.hid hx
  clear hx
  have hw : IntKind.i64.wrap ((n : Int) + 1 - 1) = (n : Int) := by rw [IntWalk.i64_in _ (by omega)]; omega
  have hw2 : IntKind.i64.wrap (n : Int) = (n : Int) := IntWalk.i64_in _ (by omega)
  have he0 : (((n : Int) + 1) == 0) = false := by simp; omega
  have n0 : (0 : Int) < (n : Int) + 1 := by omega
  go_enter Try.func18, Try.ntmps18
  go_wp2_with fail
  refine (len_any p _ m S _ (by exact HHp.out.fresh (by go_grown))).mono ?_
  rintro e w1 ⟨rfl, hww⟩
  rw [hSn]
  subst hww
  go_wp2_with fail
  go_region
  generalize hw0 : World.drew _ = w0
  have B0 : Below w.heap.size w w0 := by rw [← hw0]; go_grown
  have K1 : Blk w0 w.heap.size 24 #[.int .u64 0, .int .u64 0, .int .i64 0, .int .i64 0] := by rw [← hw0]; exact ((Blk.new w 24 _).alloc _).drew
  have K2 : Blk w0 (w.heap.size + 1) 69 #[.int .i64 x.1, .int .u64 x.2.1, .int .u64 x.2.2.1, .int .i64 x.2.2.2.1, .int .i64 x.2.2.2.2] := by
    rw [← hw0]
    have := Blk.new (w.alloc (.cells #[.int .u64 0, .int .u64 0, .int .i64 0, .int .i64 0] 24)) 69 #[.int .i64 x.1, .int .u64 x.2.1, .int .u64 x.2.2.1, .int .i64 x.2.2.2.1, .int .i64 x.2.2.2.2]
    rw [World.size_alloc] at this
    exact this.drew
  clear hw0 c0 c1 c2 c3 c4 q0
  have hO : ∀ q, O p (.slice (some ⟨b, 0, none⟩) (n + 1) cap) m q → q < w.heap.size := fun q hq => HH.out.lt (by rw [HN.out]; exact hq)
  have HOb := Lib.hid hO
  have HB0 := Lib.hid B0
  have hsw := swap_two p b cap m l f 0 n w0 (HH.out.fresh B0) (by rw [HN.out]; omega) (by rw [HN.out]; omega) (by rw [HN.out]; omega) HA.out
  rw [HN.out] at hsw
  clear hO B0
  go_wp2_with fail
  refine (show Calls _ _ _ _ _ from hsw).mono ?_
  rintro e w2 ⟨rfl, hh2, hk2⟩
  have A2 := Lib.hid (HA.out.swp (i := 0) (k := n) (by rw [HN.out]; omega) (by rw [HN.out]; omega))
  generalize upd (upd f (g l n).1 (some ((0 : Nat) : Int))) (g l 0).1 (some (n : Int)) = f2 at hh2 A2
  have Y1 := Lib.hid (hk2.blk K1 (fun e => by have := HOb.out _ e; omega))
  have Y2 := Lib.hid (hk2.blk K2 (fun e => by have := HOb.out _ e; omega))
  have H2 := Lib.hid hh2
  have KK2 := Lib.hid ((Kept.of_fresh HB0.out (O p (.slice (some ⟨b, 0, none⟩) (n + 1) cap) m)).trans hk2 (fun _ e => .inl e))
  have q0 := hh2.blk.cell 0
  have f0 := hh2.blk.frozen 0
  simp at q0
  clear hh2 hk2 K1 K2 hsw
  have hl2 : (swp l 0 n).length = n + 1 := by rw [swp_len, HN.out]
  obtain ⟨capn, hcapn⟩ : ∃ capn : Nat, n + 1 ≤ capn ∧ capn = cap := by
    obtain ⟨_, _, _, e, _, h2, _⟩ := H2.out.own.of_pos (by omega)
    simp only [Value.slice.injEq] at e
    exact ⟨cap, by rw [hl2] at h2; omega, rfl⟩
  have hcap : (n : Int) ≤ (cap : Int) := by omega
  have hn0 : (0 : Int) ≤ (n : Int) := by omega
  have hnc : n ≤ cap := by omega
  clear hcapn
  go_wp2_with fail
  have H3 := Lib.hid (pop_h0 H2.out hl2)
  have hwp : ¬ w.heap.size = p := by omega
  have hwp2 : ¬ w.heap.size + 1 = p := by omega
  generalize hw3 : w2.setCell ⟨p, 0, none⟩ (.slice (some ⟨b, 0, none⟩) n cap) = w3 at H3
  have Y3 := Lib.hid (show Blk w3 w.heap.size 24 #[.int .u64 0, .int .u64 0, .int .i64 0, .int .i64 0] from H3.out.2.blk Y1.out hwp)
  have Y4 := Lib.hid (show Blk w3 (w.heap.size + 1) 69 #[.int .i64 x.1, .int .u64 x.2.1, .int .u64 x.2.2.1, .int .i64 x.2.2.2.1, .int .i64 x.2.2.2.2] from H3.out.2.blk Y2.out hwp2)
  have q1 := H3.out.1.blk.cell 1
  have e0 := Y4.out.cell 0
  simp at q1 e0
  clear hw3 q0 f0
  go_still_tail 6, (by kernel_rfl)
  change wpList _ _ _ _ _ w3.drew
  go_wp2_with (at_delete; refine wpList_delete _ rfl _ _ 63 3 3 rfl und63 und3 m f2 (by exact H3.out.1.map) x.1 rfl rfl ?_; intro w4 hm4 hk4)
  have H4 := Lib.hid (H3.out.1.remap hm4 (kept_undrew hk4))
  have HK4 := Lib.hid (kept_undrew hk4)
  clear hm4 hk4 q1 e0
  have hg0 : g (swp l 0 n) n = x := by
    rw [← HX.out]
    have := swp_get l (i := 0) (k := n) (j := n) (by rw [HN.out]; omega) (by rw [HN.out]; omega) (by rw [HN.out]; omega)
    rw [if_pos rfl] at this
    exact this
  have A4 := Lib.hid (show At ((swp l 0 n).take n) (upd f2 x.1 none) by have := A2.out.last hl2; rw [hg0] at this; exact this)
  have S4 := Lib.hid (HHe.out.pop HN.out)
  have hl4 : ((swp l 0 n).take n).length = n := by rw [List.length_take, hl2]; omega
  generalize (swp l 0 n).take n = l4 at *
  refine (show Calls _ _ _ _ _ from sink_any p b n cap m l4 _ 0 w4 hl4 H4.out hnl (by omega) A4.out S4.out).mono ?_
  rintro e w5 ⟨rfl, l5, f5, hm5, hh5⟩
  have M5 := Lib.hid hm5
  have H5 := Lib.hid hh5
  have hO4 : ∀ q, w.heap.size ≤ q → ¬ O p (.slice (some ⟨b, 0, none⟩) n cap) m q := fun q hq e => by
    have := HOb.out q e
    omega
  have Y5 := hm5.kept.blk (HK4.out.blk Y3.out (by have := HOb.out m (.inr (.inl rfl)); omega)) (hO4 _ (Nat.le_refl _))
  have Y6 := hm5.kept.blk (HK4.out.blk Y4.out (by have := HOb.out m (.inr (.inl rfl)); omega)) (hO4 _ (by omega))
  have e0 := Y6.cell 0
  have e1 := Y6.cell 1
  have e2 := Y6.cell 2
  have e3 := Y6.cell 3
  have e4 := Y6.cell 4
  have d0 := Y5.cell 0
  have d1 := Y5.cell 1
  have d2 := Y5.cell 2
  have d3 := Y5.cell 3
  have fr : ∀ o, w5.frozen? ⟨w.heap.size, o, none⟩ = false := fun o => Y5.frozen o
  simp at e0 e1 e2 e3 e4 d0 d1 d2 d3
  clear hm5 hh5 Y5 Y6
  go_wp2_with fail
  go_region
  go_wp2_with fail
  refine bodyPost_ret (by rw [results_tct rfl]; go_simp; first | rfl | (go_simp; rfl)) rfl ?_
  have kall : Kept (O p (.slice (some ⟨b, 0, none⟩) (n + 1) cap) m) w w5 :=
    ((KK2.out.trans H3.out.2 (fun _ e => .inl (.inl e))).trans HK4.out (fun _ e => .inl (.inr (.inl e)))).trans M5.out.kept (fun _ e => .inl e)
  have k6 : Kept (fun q => q = w.heap.size) w5 ((((w5.setCell ⟨w.heap.size, 0, none⟩ (.int .u64 x.2.1)).setCell ⟨w.heap.size, 1, none⟩ (.int .u64 x.2.2.1)).setCell ⟨w.heap.size, 2, none⟩ (.int .i64 x.2.2.2.1)).setCell ⟨w.heap.size, 3, none⟩ (.int .i64 x.2.2.2.2)).drew :=
    (((((Kept.refl (fun q => q = w.heap.size) w5).setCell (p := ⟨w.heap.size, 0, none⟩) (.inl rfl) _).setCell (p := ⟨w.heap.size, 1, none⟩) (.inl rfl) _).setCell (p := ⟨w.heap.size, 2, none⟩) (.inl rfl) _).setCell (p := ⟨w.heap.size, 3, none⟩) (.inl rfl) _).drew
  refine ⟨.slice (some ⟨b, 0, none⟩) n cap, by rw [HO1.out]; rfl, (Hp.of_done M5.out H5.out HO2.out HO3.out).kept k6 (fun q hq e => by subst e; exact hO4 _ (Nat.le_refl _) hq), ?_, fun _ e => .inl e⟩
  rw [HN.out]
  exact kall.trans k6 (fun q e => .inr (by omega))

theorem pop_any (p : Nat) (s : Value) (m : Nat) (S : List Th) (w : World) (h : Hp w p s m S) (hl : S.length ≤ 1000000) : Calls Try.prog 18 #[.pointer (some ⟨p, 0, none⟩)] w (PopPost p s m S w) := by
  cases S with
  | nil => exact pop_none p s m w h
  | cons x r => exact pop_some p s m _ w h hl (by simp)
end Go.Proofs.Ytffgjjlamdaajaa
