/- A heap in memory; two things change places: what is left. -/
import Derived.Test.YtffgjjlamdaajaaA
import Derived.BigRegion
namespace Go.Proofs.Ytffgjjlamdaajaa
open Go.RowKit

/-- The cells of a list of things. -/
def flat : List Th → List Value
  | [] => []
  | x :: r => .int .i64 x.1 :: .int .u64 x.2.1 :: .int .u64 x.2.2.1 :: .int .i64 x.2.2.2.1 :: .int .i64 x.2.2.2.2 :: flat r

theorem flat_len : ∀ l, (flat l).length = l.length * 5
  | [] => rfl
  | _ :: r => by simp only [flat, List.length_cons, flat_len r]; omega
theorem flat_app : ∀ a b, flat (a ++ b) = flat a ++ flat b
  | [], _ => rfl
  | _ :: r, b => by simp only [flat, List.cons_append, flat_app r b]
theorem flat_take : ∀ (l : List Th) (n : Nat), flat (l.take n) = (flat l).take (n * 5)
  | [], n => by simp [flat]
  | x :: r, 0 => by simp [flat]
  | x :: r, n + 1 => by
    rw [show (n + 1) * 5 = n * 5 + 1 + 1 + 1 + 1 + 1 by omega]
    simp only [List.take_succ_cons, flat, flat_take r n]
theorem flat_get : ∀ (l : List Th) (j : Nat), j < l.length → (flat l)[j * 5]? = some (.int .i64 (g l j).1) ∧ (flat l)[j * 5 + 1]? = some (.int .u64 (g l j).2.1) ∧ (flat l)[j * 5 + 2]? = some (.int .u64 (g l j).2.2.1) ∧
    (flat l)[j * 5 + 3]? = some (.int .i64 (g l j).2.2.2.1) ∧ (flat l)[j * 5 + 4]? = some (.int .i64 (g l j).2.2.2.2)
  | [], _, h => by simp at h
  | _ :: _, 0, _ => ⟨rfl, rfl, rfl, rfl, rfl⟩
  | _ :: r, j + 1, h => by
    have := flat_get r j (by simpa using h)
    rw [show (j + 1) * 5 = j * 5 + 1 + 1 + 1 + 1 + 1 by omega]
    simp only [flat, List.getElem?_cons_succ, g, List.getD_cons_succ]
    exact this
theorem flat_set : ∀ (l : List Th) (j : Nat) (x : Th), j < l.length →
    (((((flat l).set (j * 5) (.int .i64 x.1)).set (j * 5 + 1) (.int .u64 x.2.1)).set (j * 5 + 2) (.int .u64 x.2.2.1)).set (j * 5 + 3) (.int .i64 x.2.2.2.1)).set (j * 5 + 4) (.int .i64 x.2.2.2.2) = flat (l.set j x)
  | [], _, _, h => by simp at h
  | _ :: _, 0, _, _ => rfl
  | _ :: r, j + 1, x, h => by
    have := flat_set r j x (by simpa using h)
    rw [show (j + 1) * 5 = j * 5 + 1 + 1 + 1 + 1 + 1 by omega]
    simp only [flat, List.set_cons_succ, this]
theorem flat_one (l : List Th) : ∀ v ∈ flat l, v.oneCell' = true := by
  induction l with
  | nil => simp [flat]
  | cons x r ih =>
    intro v hv
    simp only [flat, List.mem_cons] at hv
    rcases hv with rfl | rfl | rfl | rfl | rfl | hv
    · rfl
    · rfl
    · rfl
    · rfl
    · rfl
    · exact ih v hv

/-- The cells of one thing of a row. -/
structure At5 (w : World) (b j : Nat) (x : Th) : Prop where
  c0 : w.cell? ⟨b, j * 5, none⟩ = some (.int .i64 x.1)
  c1 : w.cell? ⟨b, j * 5 + 1, none⟩ = some (.int .u64 x.2.1)
  c2 : w.cell? ⟨b, j * 5 + 2, none⟩ = some (.int .u64 x.2.2.1)
  c3 : w.cell? ⟨b, j * 5 + 3, none⟩ = some (.int .i64 x.2.2.2.1)
  c4 : w.cell? ⟨b, j * 5 + 4, none⟩ = some (.int .i64 x.2.2.2.2)

theorem own_cells {w : World} {b n cap : Nat} {l : List Th} (h : Own w 69 5 (.slice (some ⟨b, 0, none⟩) n cap) l.length (flat l)) {j : Nat} (hj : j < l.length) : At5 w b j (g l j) := by
  obtain ⟨h0, h1, h2, h3, h4⟩ := flat_get l j hj
  have a0 := World.ownsRow.cells h (g := b) rfl _ _ h0
  have a1 := World.ownsRow.cells h (g := b) rfl _ _ h1
  have a2 := World.ownsRow.cells h (g := b) rfl _ _ h2
  have a3 := World.ownsRow.cells h (g := b) rfl _ _ h3
  have a4 := World.ownsRow.cells h (g := b) rfl _ _ h4
  rw [Addr.add_lit, Nat.zero_add] at a0 a1 a2 a3 a4
  exact ⟨a0, a1, a2, a3, a4⟩
theorem At5.of_block {w w' : World} {b j : Nat} {x : Th} (h : At5 w b j x) (e : w'.heap[b]? = w.heap[b]?) : At5 w' b j x :=
  ⟨(World.cell?_of_block (w := w) e).trans h.c0, (World.cell?_of_block (w := w) e).trans h.c1, (World.cell?_of_block (w := w) e).trans h.c2, (World.cell?_of_block (w := w) e).trans h.c3, (World.cell?_of_block (w := w) e).trans h.c4⟩

/-- A thing laid at a place of a row. -/
abbrev lay5 (w : World) (b j : Nat) (x : Th) : World :=
  ((((w.setCell ⟨b, j * 5, none⟩ (.int .i64 x.1)).setCell ⟨b, j * 5 + 1, none⟩ (.int .u64 x.2.1)).setCell ⟨b, j * 5 + 2, none⟩ (.int .u64 x.2.2.1)).setCell ⟨b, j * 5 + 3, none⟩ (.int .i64 x.2.2.2.1)).setCell ⟨b, j * 5 + 4, none⟩ (.int .i64 x.2.2.2.2)

theorem own_lay {w : World} {b n cap : Nat} {l : List Th} (h : Own w 69 5 (.slice (some ⟨b, 0, none⟩) n cap) l.length (flat l)) (hn : n = l.length) {j : Nat} (hj : j < l.length) (x : Th) :
    Own (lay5 w b j x) 69 5 (.slice (some ⟨b, 0, none⟩) n cap) (l.set j x).length (flat (l.set j x)) := by
  subst hn
  obtain ⟨g', cap', cur, e, hb, h1, h2, h3, h4⟩ := h.of_pos (by omega)
  simp only [Value.slice.injEq, Option.some.injEq, Addr.mk.injEq, and_true, true_and] at e
  obtain ⟨rfl, rfl⟩ := e
  rw [List.length_set]
  refine Own.mk (((((hb.set_ (j * 5) _).set_ (j * 5 + 1) _).set_ (j * 5 + 2) _).set_ (j * 5 + 3) _).set_ (j * 5 + 4) _) h1 h2 (by simpa using h3) ?_
  simp only [Array.toList_setIfInBounds, List.take_set, h4]
  exact flat_set l j x hj
theorem kept_lay (w : World) (b j : Nat) (x : Th) : Kept (fun k => k = b) w (lay5 w b j x) :=
  (((((Kept.refl (fun k => k = b) w).setCell (p := ⟨b, j * 5, none⟩) (.inl rfl) _).setCell (p := ⟨b, j * 5 + 1, none⟩) (.inl rfl) _).setCell (p := ⟨b, j * 5 + 2, none⟩) (.inl rfl) _).setCell (p := ⟨b, j * 5 + 3, none⟩) (.inl rfl) _).setCell (p := ⟨b, j * 5 + 4, none⟩) (.inl rfl) _

/-- A heap: a block of two cells, a row that it owns, and a map. -/
structure H0 (w : World) (p : Nat) (s : Value) (m : Nat) (l : List Th) (f : Int → Option Int) : Prop where
  blk : Blk w p 66 #[s, .map (some m)]
  own : Own w 69 5 s l.length (flat l)
  map : MapF w m f
  ne1 : s.ownBlock ≠ some p
  ne2 : m ≠ p
  ne3 : s.ownBlock ≠ some m

/-- The blocks of a heap. -/
def O (p : Nat) (s : Value) (m : Nat) (b : Nat) : Prop := b = p ∨ b = m ∨ s.ownBlock = some b

section
variable {w w' : World} {p : Nat} {s : Value} {m : Nat} {l : List Th} {f : Int → Option Int}
theorem H0.lt (h : H0 w p s m l f) {b : Nat} (hb : O p s m b) : b < w.heap.size := by
  rcases hb with rfl | rfl | hb
  · exact h.blk.lt
  · exact h.map.lt
  · exact h.own.lt hb
theorem H0.kept {S : Nat → Prop} (h : H0 w p s m l f) (hk : Kept S w w') (hS : ∀ b, O p s m b → ¬ S b) : H0 w' p s m l f :=
  ⟨hk.blk h.blk (hS p (.inl rfl)), h.own.kept hk (fun b hb => hS b (.inr (.inr hb))), h.map.kept hk (hS m (.inr (.inl rfl))), h.ne1, h.ne2, h.ne3⟩
theorem H0.fresh (h : H0 w p s m l f) (hk : Below w.heap.size w w') : H0 w' p s m l f :=
  ⟨h.blk.below hk h.blk.lt, h.own.kept (Kept.of_below hk) (fun b hb => by have := h.own.lt hb; omega), h.map.fresh hk, h.ne1, h.ne2, h.ne3⟩
theorem H0.drewN (h : H0 w p s m l f) (n : Nat) : H0 (w.drewN n) p s m l f := ⟨h.blk, h.own, h.map, h.ne1, h.ne2, h.ne3⟩
end

/-- What swap leaves. -/
def SwapPost (p : Nat) (s : Value) (m : Nat) (l : List Th) (f : Int → Option Int) (i k : Nat) (w : World) (e : Ending) (w' : World) : Prop :=
  e = .returned (.tuple #[]) ∧ H0 w' p s m (swp l i k) (upd (upd f (g l k).1 (some i)) (g l i).1 (some k)) ∧ Kept (O p s m) w w'

theorem und63 : Try.prog.underlying 63 = some (.map 3 3) := by kernel_rfl
theorem zero3 (w : World) : (zeroValue 3).run Try.prog w = .ok (.int .i64 0) w := by kernel_rfl

theorem kept_undrew {S : Nat → Prop} {w w' : World} (h : Kept S w.drew w') : Kept S w w' := ⟨h.os, h.tape, h.output, h.size, h.block⟩
theorem upd_hit {f : Int → Option Int} {a k v : Int} (h : f a = some v) : upd f k (some v) a = some v := by
  unfold upd
  split
  · rfl
  · exact h
theorem own_drew {w : World} {e k n : Nat} {s : Value} {xs : List Value} (h : Own w e k s n xs) : Own w.drew e k s n xs := h
theorem swp_own {w : World} {b cap : Nat} {l : List Th} (h : Own w 69 5 (.slice (some ⟨b, 0, none⟩) l.length cap) l.length (flat l)) {i k : Nat} (hi : i < l.length) (hk : k < l.length) :
    Own (lay5 (lay5 w b i (g l k)) b k (g l i)) 69 5 (.slice (some ⟨b, 0, none⟩) l.length cap) (swp l i k).length (flat (swp l i k)) :=
  own_lay (own_lay h rfl hi (g l k)) (by simp) (j := k) (by simpa using hk) (g l i)

set_option maxHeartbeats 4000000 in
theorem swap_two (p : Nat) (b cap m : Nat) (l : List Th) (f : Int → Option Int) (i k : Nat) (w : World) (h : H0 w p (.slice (some ⟨b, 0, none⟩) l.length cap) m l f) (hl : l.length ≤ 1000000) (hi : i < l.length) (hk : k < l.length) (hA : At l f) :
    Calls Try.prog 30 #[.pointer (some ⟨p, 0, none⟩), .int .i64 i, .int .i64 k] w (SwapPost p (.slice (some ⟨b, 0, none⟩) l.length cap) m l f i k w) := by
  have q0 := h.blk.cell 0
  have q1 := h.blk.cell 1
  simp at q0 q1
  obtain ⟨ci0, ci1, ci2, ci3, ci4⟩ := own_cells h.own hi
  obtain ⟨ck0, ck1, ck2, ck3, ck4⟩ := own_cells h.own hk
  have i0 : (0 : Int) ≤ (i : Int) := by omega
  have i1 : (i : Int) < (l.length : Int) := by omega
  have k0 : (0 : Int) ≤ (k : Int) := by omega
  have k1 : (k : Int) < (l.length : Int) := by omega
  have HH := Lib.hid h
  have HA := Lib.hid hA
  have hlay := own_lay h.own rfl hi (g l k)
  obtain ⟨yk0, yk1, yk2, yk3, yk4⟩ := own_cells hlay (j := k) (by simpa using hk)
  obtain ⟨_, _, cur, e, hb, _⟩ := h.own.of_pos (by omega)
  simp only [Value.slice.injEq, Option.some.injEq, Addr.mk.injEq, and_true, true_and] at e
  obtain ⟨rfl, rfl⟩ := e
  have fr : ∀ o, w.frozen? ⟨b, o, none⟩ = false := fun o => hb.frozen o
  have pb : ¬ b = p := fun e => h.ne1 (by simp [Value.ownBlock, e])
  have HW := Lib.hid (swp_own h.own hi hk)
  have HI := Lib.hid (show f (g l i).1 = some (i : Int) from hA.at_ i hi)
  have HK := Lib.hid (show f (g l k).1 = some (k : Int) from hA.at_ k hk)
  have hki : g (swp l i k) k = g l i := by
    have := swp_get l hi hk hk
    rw [if_pos rfl] at this
    exact this
  have hik : g (swp l i k) i = g l k := by
    have := swp_get l hi hk hi
    by_cases e : i = k
    · subst e; exact hki
    · rw [if_neg e, if_pos rfl] at this
      exact this
  clear h hlay hb hA
  generalize hgi : g l i = x at *
  generalize hgk : g l k = y at *
  have HX := Lib.hid hgi
  have HY := Lib.hid hgk
  have HKI := Lib.hid hki
  have HIK := Lib.hid hik
  clear hki hik hgi hgk
  go_enter Try.func30, Try.ntmps30
  go_wp2_with fail
  go_region
  go_wp2_with fail
  generalize hwq : World.drew (World.setCell (World.setCell _ _ _) _ _) = wq
  have HQ := Lib.hid (show Own wq 69 5 (.slice (some ⟨b, 0, none⟩) l.length cap) (swp l i k).length (flat (swp l i k)) by rw [← hwq]; exact own_drew HW.out)
  have HKp := Lib.hid (show Kept (fun q => q = b) w wq by rw [← hwq]; exact ((kept_lay w b i y).trans (kept_lay _ b k x) (fun _ h => .inl h)).drew)
  clear hwq ci0 ci1 ci2 ci3 ci4 ck0 ck1 ck2 ck3 ck4 yk0 yk1 yk2 yk3 yk4 fr q0 q1
  have HQ0 : H0 wq p (.slice (some ⟨b, 0, none⟩) l.length cap) m (swp l i k) f := ⟨HKp.out.blk HH.out.blk (fun e => pb e.symm), by rw [swp_len]; rw [swp_len] at HQ; exact HQ.out, HH.out.map.kept HKp.out (fun e => HH.out.ne3 (by simp [Value.ownBlock, e])), HH.out.ne1, HH.out.ne2, HH.out.ne3⟩
  have ci := (own_cells HQ.out (j := i) (by rw [swp_len]; exact hi)).c0
  have ck := (own_cells HQ.out (j := k) (by rw [swp_len]; exact hk)).c0
  rw [HIK.out] at ci
  rw [HKI.out] at ck
  have q0 := HQ0.blk.cell 0
  have q1 := HQ0.blk.cell 1
  simp at q0 q1
  obtain ⟨st1, he1, hs1⟩ := run_entry (P := Try.prog) (w := wq.drew) und63 und3 HQ0.map HK.out
  obtain ⟨w1, ht1, hm1, hk1, _⟩ := run_store (P := Try.prog) (t := 63) (w := wq.drew) HQ0.map hs1 (i : Int)
  obtain ⟨st2, he2, hs2⟩ := run_entry (P := Try.prog) (w := w1) und63 und3 hm1 (k := x.1) (v := i) (upd_hit HI.out)
  obtain ⟨w2, ht2, hm2, hk2, _⟩ := run_store (P := Try.prog) (t := 63) (w := w1) hm1 hs2 (k : Int)
  have H1 := Lib.hid HQ0
  have HM2 := Lib.hid hm2
  have HK1 := Lib.hid hk1
  have HK2 := Lib.hid hk2
  clear HQ0 hm1 hm2 hk1 hk2 hs1 hs2
  go_region
  go_wp2_with fail
  go_end0
  have hk3 : Kept (fun q => q = m) wq w2 := (kept_undrew HK1.out).trans HK2.out (fun _ h => .inl h)
  refine ⟨rfl, ⟨hk3.blk H1.out.blk (fun e => H1.out.ne2 e.symm), H1.out.own.kept hk3 (fun q e1 e2 => H1.out.ne3 (by rw [e1, e2])), by rw [HX.out, HY.out]; exact HM2.out, H1.out.ne1, H1.out.ne2, H1.out.ne3⟩, ?_⟩
  exact (HKp.out.mono (fun _ _ e => .inr (.inr (by simp [Value.ownBlock, e])))).trans hk3 (fun _ e => .inl (.inr (.inl e)))
end Go.Proofs.Ytffgjjlamdaajaa
