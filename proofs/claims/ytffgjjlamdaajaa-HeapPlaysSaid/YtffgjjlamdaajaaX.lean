/- The reference's Pop: what it holds while it goes on; which thing is the first. -/
import Derived.Test.YtffgjjlamdaajaaW
namespace Go.Proofs.Ytffgjjlamdaajaa
open Go.RowKit

abbrev kys (R : List Th) : List Ky := R.map (·.2)
theorem ids_at (R : List Th) (i : Nat) : (ids R).getD i 0 = (g R i).1 := by
  by_cases h : i < R.length
  · simp [g, h]
  · have h' : R.length ≤ i := by omega
    simp [g, List.getD_eq_getElem?_getD, List.getElem?_eq_none h']
theorem kys_at (R : List Th) (i : Nat) : (kys R).getD i (0, 0, 0, 0) = (g R i).2 := by
  by_cases h : i < R.length
  · simp [g, h]
  · have h' : R.length ≤ i := by omega
    simp [g, List.getD_eq_getElem?_getD, List.getElem?_eq_none h']

/-- The place of the first thing, as far as the row was looked through. -/
def best (R : List Th) : Nat → Nat
  | 0 => 0
  | i + 1 => if i = 0 then 0 else if ahead (g R i) (g R (best R i)) then i else best R i
theorem best_lt (R : List Th) : ∀ i, 0 < i → best R i < i
  | 0, h => by omega
  | i + 1, _ => by
    unfold best
    split
    · omega
    · split
      · omega
      · have := best_lt R i (by omega); omega
theorem best_first (R : List Th) : ∀ i, ∀ j, j < i → ¬ lt (g R j) (g R (best R i))
  | 0, j, h => by omega
  | i + 1, j, h => by
    unfold best
    split
    · rename_i e; subst e
      obtain rfl : j = 0 := by omega
      exact lt_irr _
    · rename_i e
      split
      · rename_i ha
        have ha' := (ahead_iff _ _).1 ha
        by_cases q : j = i
        · subst q; exact lt_irr _
        · exact fun k => best_first R i j (by omega) (lt_trans k ha')
      · rename_i ha
        by_cases q : j = i
        · subst q; exact fun k => ha ((ahead_iff _ _).2 k)
        · exact best_first R i j (by omega)
/-- All but one. -/
def without (R : List Th) (b : Nat) : List Th := R.take b ++ R.drop (b + 1)
/-- What comes out first, and what is left. -/
theorem srt_best {R : List Th} (ho : Once R) {b : Nat} (hb : b < R.length) (hf : ∀ j, j < R.length → ¬ lt (g R j) (g R b)) : srt R = g R b :: srt (without R b) := by
  have hp : R.Perm (g R b :: without R b) := by
    have e : g R b = R[b] := by simp [g, hb]
    have e2 : R = R.take b ++ g R b :: R.drop (b + 1) := by rw [e, List.getElem_cons_drop, List.take_append_drop]
    conv => lhs; rw [e2]
    exact List.perm_middle
  have ho2 : Once (g R b :: without R b) := ho.perm hp
  have h2 : Sorted (g R b :: srt (without R b)) := by
    refine List.pairwise_cons.2 ⟨fun y hy => ?_, srt_sorted (List.pairwise_cons.1 ho2).2⟩
    have hy' := (srt_perm _).mem_iff.1 hy
    have hyR : y ∈ R := hp.mem_iff.2 (List.mem_cons_of_mem _ hy')
    obtain ⟨j, hj, e⟩ := List.mem_iff_getElem.1 hyR
    have e2 : g R j = y := by simp [g, hj, e]
    have h3 := hf j hj
    rw [e2] at h3
    rcases lt_tri (g R b) y with h | h | h
    · exact h
    · exact absurd (by rw [h]) ((List.pairwise_cons.1 ho2).1 y hy')
    · exact absurd h h3
  exact (srt_eq ho h2 (hp.trans ((srt_perm _).symm.cons _))).symm
theorem erase_ids (R : List Th) (b : Nat) : ids (without R b) = (ids R).take b ++ (ids R).drop (b + 1) := by simp [without, ids]
theorem erase_kys (R : List Th) (b : Nat) : kys (without R b) = (kys R).take b ++ (kys R).drop (b + 1) := by simp [without, kys]

/-- The reference's heap, two rows that are being made, and two keys. -/
structure PC (w0 w : World) (r0 : Nat) (si0 sk0 : Value) (r : Nat) (si sk : Value) (I : List Int) (K : List Ky) (vi vk : Value) (A : List Int) (B : List Ky) (c3 c8 : Nat) (k : Ky) : Prop where
  r2 : R2 w r si sk I K
  ri : Own w 3 1 vi A.length (ints A)
  rk : Own w 28 4 vk B.length (kflat B)
  ni : ∀ b, vi.ownBlock = some b → w0.heap.size ≤ b ∧ b ≠ c3 ∧ b ≠ c8 ∧ ¬ OR r si sk b
  nk : ∀ b, vk.ownBlock = some b → w0.heap.size ≤ b ∧ b ≠ c3 ∧ b ≠ c8 ∧ ¬ OR r si sk b
  ne : ∀ b, vi.ownBlock = some b → vk.ownBlock ≠ some b
  nr : ∀ b, OR r si sk b → b ≠ c3 ∧ b ≠ c8
  b3 : Blk w c3 28 (kcells (0, 0, 0, 0))
  b8 : Blk w c8 28 (kcells k)
  kept : Kept (OR r0 si0 sk0) w0 w
  fresh : FreshR w0 r0 si0 sk0 si sk
  same : r = r0
  h3 : w0.heap.size ≤ c3
section
variable {w0 w w' : World} {r0 r : Nat} {si0 sk0 si sk vi vk v' : Value} {I A X : List Int} {K B Y : List Ky} {c3 c8 n : Nat} {k : Ky}
theorem PC.mono (h : PC w0 w r0 si0 sk0 r si sk I K vi vk A B c3 c8 k) (hb : Below w.heap.size w w') : PC w0 w' r0 si0 sk0 r si sk I K vi vk A B c3 c8 k :=
  ⟨h.r2.fresh hb, h.ri.kept (Kept.of_below hb) (fun b e => by have := h.ri.lt e; omega), h.rk.kept (Kept.of_below hb) (fun b e => by have := h.rk.lt e; omega), h.ni, h.nk, h.ne, h.nr, h.b3.below hb h.b3.lt, h.b8.below hb h.b8.lt,
    h.kept.trans (Kept.of_fresh hb (OR r0 si0 sk0)) (fun _ e => .inl e), h.fresh, h.same, h.h3⟩
theorem PC.swap_aux (h : PC w0 w r0 si0 sk0 r si sk I K vi vk A B c3 c8 k) {T : Nat → Prop} (hk : Kept T w w') (h1 : ∀ b, T b → w0.heap.size ≤ b ∧ b ≠ c3 ∧ b ≠ c8 ∧ ¬ OR r si sk b) :
    R2 w' r si sk I K ∧ Blk w' c3 28 (kcells (0, 0, 0, 0)) ∧ Blk w' c8 28 (kcells k) ∧ Kept (OR r0 si0 sk0) w0 w' :=
  ⟨h.r2.kept hk (fun b e1 e2 => (h1 b e2).2.2.2 e1), hk.blk h.b3 (fun e => (h1 _ e).2.1 rfl), hk.blk h.b8 (fun e => (h1 _ e).2.2.1 rfl), h.kept.trans hk (fun b e => .inr (h1 b e).1)⟩
theorem PC.app_i (h : PC w0 w r0 si0 sk0 r si sk I K vi vk A B c3 c8 k) (ho : Own w' 3 1 v' n (ints A ++ ints X)) (hn : n = A.length + X.length) (hg : w.grownBy w' vi.ownBlock) (hf : Fresh w vi v') :
    PC w0 w' r0 si0 sk0 r si sk I K v' vk (A ++ X) B c3 c8 k := by
  subst hn
  have hk := (Kept.refl (fun b => vi.ownBlock = some b) w).grown hg (fun _ e => .inl e)
  obtain ⟨a1, a2, a3, a4⟩ := h.swap_aux hk (fun b e => h.ni b e)
  have hw := h.kept.size
  refine ⟨a1, by rw [List.length_append, ints_app]; exact ho, h.rk.kept hk (fun b e1 e2 => h.ne b e2 e1), fun b e => ?_, h.nk, fun b e1 e2 => ?_, h.nr, a2, a3, a4, h.fresh, h.same, h.h3⟩
  · rcases hf b e with q | q
    · exact h.ni b q
    · exact ⟨by omega, fun e => by have := h.b3.lt; omega, fun e => by have := h.b8.lt; omega, fun e => by have := h.r2.lt e; omega⟩
  · rcases hf b e1 with q | q
    · exact h.ne b q e2
    · have := h.rk.lt e2; omega
theorem PC.app_k (h : PC w0 w r0 si0 sk0 r si sk I K vi vk A B c3 c8 k) (ho : Own w' 28 4 v' n (kflat B ++ kflat Y)) (hn : n = B.length + Y.length) (hg : w.grownBy w' vk.ownBlock) (hf : Fresh w vk v') :
    PC w0 w' r0 si0 sk0 r si sk I K vi v' A (B ++ Y) c3 c8 k := by
  subst hn
  have hk := (Kept.refl (fun b => vk.ownBlock = some b) w).grown hg (fun _ e => .inl e)
  obtain ⟨a1, a2, a3, a4⟩ := h.swap_aux hk (fun b e => h.nk b e)
  have hw := h.kept.size
  refine ⟨a1, h.ri.kept hk (fun b e1 e2 => h.ne b e1 e2), by rw [List.length_append, kflat_app]; exact ho, h.ni, fun b e => ?_, fun b e1 e2 => ?_, h.nr, a2, a3, a4, h.fresh, h.same, h.h3⟩
  · rcases hf b e with q | q
    · exact h.nk b q
    · exact ⟨by omega, fun e => by have := h.b3.lt; omega, fun e => by have := h.b8.lt; omega, fun e => by have := h.r2.lt e; omega⟩
  · rcases hf b e2 with q | q
    · exact h.ne b e1 q
    · have := h.ri.lt e1; omega
theorem PC.empty_i (h : PC w0 w r0 si0 sk0 r si sk I K vi vk A B c3 c8 k) : PC w0 (w.alloc (.cells #[] 3)) r0 si0 sk0 r si sk I K (.slice (some ⟨w.heap.size, 0, none⟩) 0 0) vk [] B c3 c8 k := by
  have h' := h.mono (w' := w.alloc (.cells #[] 3)) (by go_grown)
  have hw := h.kept.size
  refine ⟨h'.r2, Own.mk (Blk.new w 3 #[]) (by simp) (by omega) rfl rfl, h'.rk, fun b e => ?_, h'.nk, fun b e1 e2 => ?_, h'.nr, h'.b3, h'.b8, h'.kept, h'.fresh, h'.same, h'.h3⟩
  · simp only [Value.ownBlock, Option.some.injEq] at e
    subst e
    exact ⟨hw, fun e => by have := h.b3.lt; omega, fun e => by have := h.b8.lt; omega, fun e => by have := h.r2.lt e; omega⟩
  · simp only [Value.ownBlock, Option.some.injEq] at e1
    have := h.rk.lt e2
    omega
theorem PC.empty_k (h : PC w0 w r0 si0 sk0 r si sk I K vi vk A B c3 c8 k) : PC w0 (w.alloc (.cells #[] 28)) r0 si0 sk0 r si sk I K vi (.slice (some ⟨w.heap.size, 0, none⟩) 0 0) A [] c3 c8 k := by
  have h' := h.mono (w' := w.alloc (.cells #[] 28)) (by go_grown)
  have hw := h.kept.size
  refine ⟨h'.r2, h'.ri, Own.mk (Blk.new w 28 #[]) (by simp) (by omega) rfl rfl, h'.ni, fun b e => ?_, fun b e1 e2 => ?_, h'.nr, h'.b3, h'.b8, h'.kept, h'.fresh, h'.same, h'.h3⟩
  · simp only [Value.ownBlock, Option.some.injEq] at e
    subst e
    exact ⟨hw, fun e => by have := h.b3.lt; omega, fun e => by have := h.b8.lt; omega, fun e => by have := h.r2.lt e; omega⟩
  · simp only [Value.ownBlock, Option.some.injEq] at e2
    have := h.ri.lt e1
    omega
theorem PC.store_i (h : PC w0 w r0 si0 sk0 r si sk I K vi vk A B c3 c8 k) : PC w0 (w.setCell ⟨r, 0, none⟩ vi) r0 si0 sk0 r vi sk A K (.slice none 0 0) vk [] B c3 c8 k := by
  have hk : Kept (fun b => b = r) w (w.setCell ⟨r, 0, none⟩ vi) := (Kept.refl (fun b => b = r) w).setCell (p := ⟨r, 0, none⟩) (.inl rfl) vi
  have n1 : vi.ownBlock ≠ some r := fun e => (h.ni r e).2.2.2 (.inl rfl)
  have n2 : vk.ownBlock ≠ some r := fun e => (h.nk r e).2.2.2 (.inl rfl)
  refine ⟨⟨h.r2.blk.set_ 0 vi, h.ri.kept hk (fun b e1 e2 => n1 (e2 ▸ e1)), h.r2.ok.kept hk (fun b e1 e2 => h.r2.ne2 (e2 ▸ e1)), n1, h.r2.ne2, fun b e1 e2 => (h.ni b e1).2.2.2 (.inr (.inr e2))⟩, Own.nil _ _ _, h.rk.kept hk (fun b e1 e2 => n2 (e2 ▸ e1)),
    fun b e => by simp [Value.ownBlock] at e, fun b e => ⟨(h.nk b e).1, (h.nk b e).2.1, (h.nk b e).2.2.1, ?_⟩, fun b e => by simp [Value.ownBlock] at e, ?_, hk.blk h.b3 (fun e => (h.nr r (.inl rfl)).1 e.symm), hk.blk h.b8 (fun e => (h.nr r (.inl rfl)).2 e.symm), ?_, ?_, h.same, h.h3⟩
  · rintro (q | q | q)
    · exact n2 (q ▸ e)
    · exact h.ne b q e
    · exact (h.nk b e).2.2.2 (.inr (.inr q))
  · rintro b (q | q | q)
    · exact h.nr b (.inl q)
    · exact ⟨(h.ni b q).2.1, (h.ni b q).2.2.1⟩
    · exact h.nr b (.inr (.inr q))
  · exact h.kept.trans hk (fun b e => .inl (.inl (e.trans h.same)))
  · rintro b (q | q | q)
    · exact .inl (.inl q)
    · exact .inr (h.ni b q).1
    · exact h.fresh b (.inr (.inr q))
theorem PC.store_k (h : PC w0 w r0 si0 sk0 r si sk I K vi vk A B c3 c8 k) : PC w0 (w.setCell ⟨r, 1, none⟩ vk) r0 si0 sk0 r si vk I B vi (.slice none 0 0) A [] c3 c8 k := by
  have hk : Kept (fun b => b = r) w (w.setCell ⟨r, 1, none⟩ vk) := (Kept.refl (fun b => b = r) w).setCell (p := ⟨r, 1, none⟩) (.inl rfl) vk
  have n1 : vi.ownBlock ≠ some r := fun e => (h.ni r e).2.2.2 (.inl rfl)
  have n2 : vk.ownBlock ≠ some r := fun e => (h.nk r e).2.2.2 (.inl rfl)
  refine ⟨⟨h.r2.blk.set_ 1 vk, h.r2.oi.kept hk (fun b e1 e2 => h.r2.ne1 (e2 ▸ e1)), h.rk.kept hk (fun b e1 e2 => n2 (e2 ▸ e1)), h.r2.ne1, n2, fun b e1 e2 => (h.nk b e2).2.2.2 (.inr (.inl e1))⟩, h.ri.kept hk (fun b e1 e2 => n1 (e2 ▸ e1)), Own.nil _ _ _,
    fun b e => ⟨(h.ni b e).1, (h.ni b e).2.1, (h.ni b e).2.2.1, ?_⟩, fun b e => by simp [Value.ownBlock] at e, fun b e1 e2 => by simp [Value.ownBlock] at e2, ?_, hk.blk h.b3 (fun e => (h.nr r (.inl rfl)).1 e.symm), hk.blk h.b8 (fun e => (h.nr r (.inl rfl)).2 e.symm), ?_, ?_, h.same, h.h3⟩
  · rintro (q | q | q)
    · exact n1 (q ▸ e)
    · exact (h.ni b e).2.2.2 (.inr (.inl q))
    · exact h.ne b e q
  · rintro b (q | q | q)
    · exact h.nr b (.inl q)
    · exact h.nr b (.inr (.inl q))
    · exact ⟨(h.nk b q).2.1, (h.nk b q).2.2.1⟩
  · exact h.kept.trans hk (fun b e => .inl (.inl (e.trans h.same)))
  · rintro b (q | q | q)
    · exact .inl (.inl q)
    · exact h.fresh b (.inr (.inl q))
    · exact .inr (h.nk b q).1
end
end Go.Proofs.Ytffgjjlamdaajaa
