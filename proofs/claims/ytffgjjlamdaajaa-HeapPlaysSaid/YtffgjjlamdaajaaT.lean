/- A heap beside a row of keys, a row of bools and a key: what each store and call leaves; the plain law of what comes out in order. -/
import Derived.Test.YtffgjjlamdaajaaR
import Derived.Test.YtffgjjlamdaajaaJ
import Derived.Laws.OwnMore
namespace Go.Proofs.Ytffgjjlamdaajaa
open Go.RowKit

/-! ### rows of keys -/
def kflat : List Ky → List Value
  | [] => []
  | x :: r => .int .u64 x.1 :: .int .u64 x.2.1 :: .int .i64 x.2.2.1 :: .int .i64 x.2.2.2 :: kflat r
theorem kflat_len : ∀ l, (kflat l).length = l.length * 4
  | [] => rfl
  | _ :: r => by simp only [kflat, List.length_cons, kflat_len r]; omega
theorem kflat_app : ∀ a b, kflat (a ++ b) = kflat a ++ kflat b
  | [], _ => rfl
  | _ :: r, b => by simp only [kflat, List.cons_append, kflat_app r b]
theorem kflat_get : ∀ (l : List Ky) (j : Nat), j < l.length → (kflat l)[j * 4]? = some (.int .u64 (l.getD j (0, 0, 0, 0)).1) ∧ (kflat l)[j * 4 + 1]? = some (.int .u64 (l.getD j (0, 0, 0, 0)).2.1) ∧
    (kflat l)[j * 4 + 2]? = some (.int .i64 (l.getD j (0, 0, 0, 0)).2.2.1) ∧ (kflat l)[j * 4 + 3]? = some (.int .i64 (l.getD j (0, 0, 0, 0)).2.2.2)
  | [], _, h => by simp at h
  | _ :: _, 0, _ => ⟨rfl, rfl, rfl, rfl⟩
  | _ :: r, j + 1, h => by
    have := kflat_get r j (by simpa using h)
    rw [show (j + 1) * 4 = j * 4 + 1 + 1 + 1 + 1 by omega]
    simp only [kflat, List.getElem?_cons_succ, List.getD_cons_succ]
    exact this
theorem kflat_set : ∀ (l : List Ky) (j : Nat) (x : Ky), j < l.length →
    ((((kflat l).set (j * 4) (.int .u64 x.1)).set (j * 4 + 1) (.int .u64 x.2.1)).set (j * 4 + 2) (.int .i64 x.2.2.1)).set (j * 4 + 3) (.int .i64 x.2.2.2) = kflat (l.set j x)
  | [], _, _, h => by simp at h
  | _ :: _, 0, _, _ => rfl
  | _ :: r, j + 1, x, h => by
    have := kflat_set r j x (by simpa using h)
    rw [show (j + 1) * 4 = j * 4 + 1 + 1 + 1 + 1 by omega]
    simp only [kflat, List.set_cons_succ, this]
theorem kflat_one (l : List Ky) : ∀ v ∈ kflat l, v.oneCell' = true := by
  induction l with
  | nil => simp [kflat]
  | cons x r ih =>
    intro v hv
    simp only [kflat, List.mem_cons] at hv
    rcases hv with rfl | rfl | rfl | rfl | hv
    · rfl
    · rfl
    · rfl
    · rfl
    · exact ih v hv
theorem kflat_at : ∀ (l : List Ky) (j : Nat) (u : Value), (kflat l)[j]? = some u → ∃ i r, j = i * 4 + r ∧ i < l.length ∧
    ((r = 0 ∧ u = .int .u64 (l.getD i (0, 0, 0, 0)).1) ∨ (r = 1 ∧ u = .int .u64 (l.getD i (0, 0, 0, 0)).2.1) ∨ (r = 2 ∧ u = .int .i64 (l.getD i (0, 0, 0, 0)).2.2.1) ∨ (r = 3 ∧ u = .int .i64 (l.getD i (0, 0, 0, 0)).2.2.2))
  | [], j, u, h => by simp [kflat] at h
  | x :: r, 0, u, h => by simp [kflat] at h; exact ⟨0, 0, rfl, by simp, .inl ⟨rfl, h.symm⟩⟩
  | x :: r, 1, u, h => by simp [kflat] at h; exact ⟨0, 1, rfl, by simp, .inr (.inl ⟨rfl, h.symm⟩)⟩
  | x :: r, 2, u, h => by simp [kflat] at h; exact ⟨0, 2, rfl, by simp, .inr (.inr (.inl ⟨rfl, h.symm⟩))⟩
  | x :: r, 3, u, h => by simp [kflat] at h; exact ⟨0, 3, rfl, by simp, .inr (.inr (.inr ⟨rfl, h.symm⟩))⟩
  | x :: r, j + 4, u, h => by
    simp only [kflat, List.getElem?_cons_succ] at h
    obtain ⟨i, q, e, hi, h2⟩ := kflat_at r j u h
    refine ⟨i + 1, q, by omega, by simpa using hi, ?_⟩
    simpa only [List.getD_cons_succ] using h2
theorem RowK.src {w w' : World} {a : Option Addr} {l : List Ky} (h : RowK w a l) (hb : Below w.heap.size w w') : 0 < l.length → ∃ a', a = some a' ∧ ∀ j u, (kflat l)[j]? = some u → w'.cell? (a'.add j) = some u := by
  intro h0
  rcases h with rfl | ⟨b, off, e, hlt, hc⟩
  · simp at h0
  · refine ⟨⟨b, off, none⟩, e, fun j u hu => ?_⟩
    obtain ⟨i, r, rfl, hi, h2⟩ := kflat_at l j u hu
    obtain ⟨q0, q1, q2, q3⟩ := hc i hi
    rw [Addr.add_lit]
    refine (hb.cell hlt).trans ?_
    rcases h2 with ⟨rfl, rfl⟩ | ⟨rfl, rfl⟩ | ⟨rfl, rfl⟩ | ⟨rfl, rfl⟩
    · rw [Nat.add_zero]; exact q0
    · rw [← Nat.add_assoc]; exact q1
    · rw [← Nat.add_assoc]; exact q2
    · rw [← Nat.add_assoc]; exact q3
abbrev kcells (k : Ky) : Array Value := #[.int .u64 k.1, .int .u64 k.2.1, .int .i64 k.2.2.1, .int .i64 k.2.2.2]
/-- The cells of a key of a row. -/
theorem own_key {w : World} {b n cap : Nat} {l : List Ky} (h : Own w 24 4 (.slice (some ⟨b, 0, none⟩) n cap) n (kflat l)) {j : Nat} (hj : j < l.length) :
    w.cell? ⟨b, j * 4, none⟩ = some (.int .u64 (l.getD j (0, 0, 0, 0)).1) ∧ w.cell? ⟨b, j * 4 + 1, none⟩ = some (.int .u64 (l.getD j (0, 0, 0, 0)).2.1) ∧ w.cell? ⟨b, j * 4 + 2, none⟩ = some (.int .i64 (l.getD j (0, 0, 0, 0)).2.2.1) ∧ w.cell? ⟨b, j * 4 + 3, none⟩ = some (.int .i64 (l.getD j (0, 0, 0, 0)).2.2.2) := by
  obtain ⟨h0, h1, h2, h3⟩ := kflat_get l j hj
  have a0 := World.ownsRow.cells h (g := b) rfl _ _ h0
  have a1 := World.ownsRow.cells h (g := b) rfl _ _ h1
  have a2 := World.ownsRow.cells h (g := b) rfl _ _ h2
  have a3 := World.ownsRow.cells h (g := b) rfl _ _ h3
  rw [Addr.add_lit, Nat.zero_add] at a0 a1 a2 a3
  exact ⟨a0, a1, a2, a3⟩
abbrev layK (w : World) (b o : Nat) (x : Ky) : World :=
  (((w.setCell ⟨b, o, none⟩ (.int .u64 x.1)).setCell ⟨b, o + 1, none⟩ (.int .u64 x.2.1)).setCell ⟨b, o + 2, none⟩ (.int .i64 x.2.2.1)).setCell ⟨b, o + 3, none⟩ (.int .i64 x.2.2.2)
theorem own_layK {w : World} {b n cap : Nat} {l : List Ky} (h : Own w 24 4 (.slice (some ⟨b, 0, none⟩) n cap) n (kflat l)) (hn : n = l.length) {j : Nat} (hj : j < l.length) (x : Ky) :
    Own (layK w b (j * 4) x) 24 4 (.slice (some ⟨b, 0, none⟩) n cap) n (kflat (l.set j x)) := by
  obtain ⟨g', cap', cur, e, hb, h1, h2, h3, h4⟩ := h.of_pos (by omega)
  simp only [Value.slice.injEq, Option.some.injEq, Addr.mk.injEq, and_true, true_and] at e
  obtain ⟨rfl, rfl⟩ := e
  refine Own.mk ((((hb.set_ (j * 4) _).set_ (j * 4 + 1) _).set_ (j * 4 + 2) _).set_ (j * 4 + 3) _) h1 h2 (by simpa using h3) ?_
  simp only [Array.toList_setIfInBounds, List.take_set, h4]
  exact kflat_set l j x hj
theorem kept_layK (w : World) (b o : Nat) (x : Ky) : Kept (fun k => k = b) w (layK w b o x) :=
  ((((Kept.refl (fun k => k = b) w).setCell (p := ⟨b, o, none⟩) (.inl rfl) _).setCell (p := ⟨b, o + 1, none⟩) (.inl rfl) _).setCell (p := ⟨b, o + 2, none⟩) (.inl rfl) _).setCell (p := ⟨b, o + 3, none⟩) (.inl rfl) _

/-! ### rows of bools -/
def bools (l : List Bool) : List Value := l.map .bool
theorem bools_get (xs : List Bool) {i : Nat} (h : i < xs.length) : (bools xs)[i]? = some (.bool (xs.getD i false)) := by simp [bools, h]
theorem own_bool {w : World} {b n cap : Nat} {xs : List Bool} (h : Own w 4 1 (.slice (some ⟨b, 0, none⟩) n cap) n (bools xs)) {i : Nat} (hi : i < xs.length) : w.cell? ⟨b, i, none⟩ = some (.bool (xs.getD i false)) := by
  have a := World.ownsRow.cells h (g := b) rfl _ _ (bools_get xs hi)
  rw [Addr.add_lit, Nat.zero_add] at a
  exact a
theorem own_putb {w : World} {b n cap : Nat} {xs : List Bool} (h : Own w 4 1 (.slice (some ⟨b, 0, none⟩) n cap) n (bools xs)) {i : Nat} (hi : i < n) (x : Bool) :
    Own (w.setCell ⟨b, i, none⟩ (.bool x)) 4 1 (.slice (some ⟨b, 0, none⟩) n cap) n (bools (xs.set i x)) := by
  obtain ⟨g', cap', cur, e, hb, h1, h2, h3, h4⟩ := h.of_pos (by omega)
  simp only [Value.slice.injEq, Option.some.injEq, Addr.mk.injEq, and_true, true_and] at e
  obtain ⟨rfl, rfl⟩ := e
  refine Own.mk (hb.set_ i _) h1 h2 (by simpa using h3) ?_
  rw [Array.toList_setIfInBounds, List.take_set, h4]
  simp [bools]

theorem set4 (a b c d x y z u : Value) : (((#[a, b, c, d].setIfInBounds 0 x).setIfInBounds 1 y).setIfInBounds 2 z).setIfInBounds 3 u = #[x, y, z, u] := by simp

/-! ### side by side -/
/-- Heaps and a row of keys. -/
structure GS (w wr : World) (L : List HD) (z : Value) (n : Nat) (ks : List Ky) : Prop where
  sys : Sys w wr L
  own : Own wr 24 4 z n (kflat ks)
  row : Row w L z
/-- Heaps, a row of keys, a row of bools, a key. -/
structure GT (w wr : World) (L : List HD) (z : Value) (n : Nat) (ks : List Ky) (zc : Value) (bs : List Bool) (c : Nat) (k : Ky) : Prop where
  gs : GS w wr L z n ks
  came : Own wr 4 1 zc n (bools bs)
  rowc : Row w L zc
  blk : Blk wr c 24 (kcells k)
  out : Out L c
  hc : w.heap.size ≤ c
  d1 : ∀ b, z.ownBlock = some b → zc.ownBlock ≠ some b
  d2 : z.ownBlock ≠ some c
  d3 : zc.ownBlock ≠ some c
section
variable {w wr w' : World} {L L' : List HD} {z zc : Value} {n : Nat} {ks : List Ky} {bs : List Bool} {c : Nat} {k : Ky}
theorem GS.call (h : GS w wr L z n ks) (hs : Sys w w' L') (hf : Far wr L w' L') : GS w w' L' z n ks := ⟨hs, (h.row.far hf h.own).2, (h.row.far hf h.own).1⟩
theorem GS.mono (h : GS w wr L z n ks) (hb : Below wr.heap.size wr w') : GS w w' L z n ks := h.call (h.sys.mono hb) (far_mono hb)
theorem GS.kept {T : Nat → Prop} (h : GS w wr L z n ks) (hk : Kept T wr w') (hT : ∀ b, T b → w.heap.size ≤ b ∧ Out L b) (hz : ∀ b, z.ownBlock = some b → ¬ T b) : GS w w' L z n ks := ⟨h.sys.kept hk hT, h.own.kept hk hz, h.row⟩
theorem GT.call (h : GT w wr L z n ks zc bs c k) (hs : Sys w w' L') (hf : Far wr L w' L') : GT w w' L' z n ks zc bs c k :=
  ⟨h.gs.call hs hf, (h.rowc.far hf h.came).2, (h.rowc.far hf h.came).1, hf.blk h.blk h.out, hf.out h.blk.lt h.out, h.hc, h.d1, h.d2, h.d3⟩
theorem GT.mono (h : GT w wr L z n ks zc bs c k) (hb : Below wr.heap.size wr w') : GT w w' L z n ks zc bs c k := h.call (h.gs.sys.mono hb) (far_mono hb)
theorem GT.put {b cap : Nat} (h : GT w wr L z n ks (.slice (some ⟨b, 0, none⟩) n cap) bs c k) {i : Nat} (hi : i < n) (x : Bool) :
    GT w (wr.setCell ⟨b, i, none⟩ (.bool x)) L z n ks (.slice (some ⟨b, 0, none⟩) n cap) (bs.set i x) c k := by
  have hk : Kept (fun q => q = b) wr (wr.setCell ⟨b, i, none⟩ (.bool x)) := (Kept.refl (fun q => q = b) wr).setCell (p := ⟨b, i, none⟩) (.inl rfl) _
  refine ⟨h.gs.kept hk (fun q e => by subst e; exact h.rowc _ rfl) (fun q hq e => h.d1 q hq (by rw [e]; rfl)), own_putb h.came hi x, h.rowc, hk.blk h.blk (fun e => h.d3 (by rw [e]; rfl)), h.out, h.hc, h.d1, h.d2, h.d3⟩
theorem GT.lay (h : GT w wr L z n ks zc bs c k) (x : Ky) : GT w (layK wr c 0 x) L z n ks zc bs c x := by
  have hk := kept_layK wr c 0 x
  refine ⟨h.gs.kept hk (fun q e => by subst e; exact ⟨h.hc, h.out⟩) (fun q hq e => h.d2 (by rw [← e]; exact hq)), h.came.kept hk (fun q hq e => h.d3 (by rw [← e]; exact hq)), h.rowc, ?_, h.out, h.hc, h.d1, h.d2, h.d3⟩
  have := (((h.blk.set_ 0 (.int .u64 x.1)).set_ 1 (.int .u64 x.2.1)).set_ 2 (.int .i64 x.2.2.1)).set_ 3 (.int .i64 x.2.2.2)
  rw [set4] at this
  exact this
end

/-! ### what comes out in order -/
/-- Which things came, as far as some came. -/
def came (S : List Th) (n y : Nat) : List Bool := (List.range n).map (fun (j : Nat) => (S.take y).any (fun x => x.1 == (j : Int)))
theorem came_len (S : List Th) (n y : Nat) : (came S n y).length = n := by simp [came]
theorem came_zero (S : List Th) (n : Nat) : came S n 0 = List.replicate n false := by
  refine List.ext_getElem (by simp [came]) fun i h1 h2 => ?_
  simp [came]
theorem came_at (S : List Th) {n y i : Nat} (hi : i < n) : (came S n y).getD i false = (S.take y).any (fun x => x.1 == (i : Int)) := by simp [came, hi]
theorem came_succ {S : List Th} {n y j : Nat} (hy : y < S.length) (hj : (g S y).1 = (j : Int)) : (came S n y).set j true = came S n (y + 1) := by
  have e : S.take (y + 1) = S.take y ++ [g S y] := by simp [g, hy]
  refine List.ext_getElem (by simp [came]) fun i h1 h2 => ?_
  simp only [came, List.getElem_set, List.getElem_map, List.getElem_range, e, List.any_append, List.any_cons, List.any_nil, Bool.or_false, hj]
  split
  · rename_i q; subst q; simp
  · rename_i q
    have : ((j : Int) == (i : Int)) = false := by simp; omega
    rw [this, Bool.or_false]
theorem came_new {S : List Th} (ho : Once S) {n y j : Nat} (hy : y < S.length) (hn : j < n) (hj : (g S y).1 = (j : Int)) : (came S n y).getD j false = false := by
  rw [came_at S hn, List.any_eq_false]
  intro x hx
  have e : S = S.take y ++ g S y :: S.drop (y + 1) := by
    have : g S y = S[y] := by simp [g, hy]
    rw [this, List.getElem_cons_drop, List.take_append_drop]
  rw [e] at ho
  have := (List.pairwise_append.1 ho).2.2 x hx (g S y) List.mem_cons_self
  rw [hj] at this
  simpa using this
theorem gone {S : List Th} (ho : Once S) {y : Nat} (hy : y < S.length) : hasS (S.drop (y + 1)) (g S y).1 = false := by
  cases h : hasS (S.drop (y + 1)) (g S y).1
  · rfl
  · obtain ⟨x, hx, hxe⟩ := hasS_iff.1 h
    have e : S = S.take y ++ g S y :: S.drop (y + 1) := by
      have : g S y = S[y] := by simp [g, hy]
      rw [this, List.getElem_cons_drop, List.take_append_drop]
    rw [e] at ho
    have := (List.pairwise_cons.1 (List.pairwise_append.1 ho).2.1).1 x hx
    exact absurd hxe.symm this
theorem in_order {S : List Th} (hs : Sorted S) {y : Nat} (hy : y + 1 < S.length) : ltK (g S (y + 1)).2 (g S y).2 = false ∧ ((g S (y + 1)).2 = (g S y).2 → (g S y).1 < (g S (y + 1)).1) := by
  have h : lt (g S y) (g S (y + 1)) := by
    have := List.pairwise_iff_getElem.1 hs y (y + 1) (by omega) hy (by omega)
    simpa [g, hy, show y < S.length by omega] using this
  rcases h with h | ⟨h1, h2⟩
  · exact ⟨ltK_false (fun q => ltP_irr _ (ltP_trans h q)), fun e => by rw [e] at h; exact (ltP_irr _ h).elim⟩
  · exact ⟨by rw [h1]; exact ltK_irr _, fun _ => h2⟩
/-- What came last. -/
def bef (S : List Th) : Nat → Int × Ky
  | 0 => (-1, 0, 0, 0, 0)
  | y + 1 => g S y
end Go.Proofs.Ytffgjjlamdaajaa
