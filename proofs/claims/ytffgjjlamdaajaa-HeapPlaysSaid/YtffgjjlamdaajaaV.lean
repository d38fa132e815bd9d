/- The reference: a row of numbers beside a row of keys; Find, Push: what each returns and leaves. -/
import Derived.Test.YtffgjjlamdaajaaT
import Derived.BigRegion
namespace Go.Proofs.Ytffgjjlamdaajaa
open Go.RowKit

theorem own_keyE {e : TypeId} {w : World} {b n cap : Nat} {l : List Ky} (h : Own w e 4 (.slice (some ⟨b, 0, none⟩) n cap) n (kflat l)) {j : Nat} (hj : j < l.length) :
    w.cell? ⟨b, j * 4, none⟩ = some (.int .u64 (l.getD j (0, 0, 0, 0)).1) ∧ w.cell? ⟨b, j * 4 + 1, none⟩ = some (.int .u64 (l.getD j (0, 0, 0, 0)).2.1) ∧ w.cell? ⟨b, j * 4 + 2, none⟩ = some (.int .i64 (l.getD j (0, 0, 0, 0)).2.2.1) ∧ w.cell? ⟨b, j * 4 + 3, none⟩ = some (.int .i64 (l.getD j (0, 0, 0, 0)).2.2.2) := by
  obtain ⟨h0, h1, h2, h3⟩ := kflat_get l j hj
  have a0 := World.ownsRow.cells h (g := b) rfl _ _ h0
  have a1 := World.ownsRow.cells h (g := b) rfl _ _ h1
  have a2 := World.ownsRow.cells h (g := b) rfl _ _ h2
  have a3 := World.ownsRow.cells h (g := b) rfl _ _ h3
  rw [Addr.add_lit, Nat.zero_add] at a0 a1 a2 a3
  exact ⟨a0, a1, a2, a3⟩
theorem own_layE {e : TypeId} {w : World} {b n cap : Nat} {l : List Ky} (h : Own w e 4 (.slice (some ⟨b, 0, none⟩) n cap) n (kflat l)) (hn : n = l.length) {j : Nat} (hj : j < l.length) (x : Ky) :
    Own (layK w b (j * 4) x) e 4 (.slice (some ⟨b, 0, none⟩) n cap) n (kflat (l.set j x)) := by
  obtain ⟨g', cap', cur, e, hb, h1, h2, h3, h4⟩ := h.of_pos (by omega)
  simp only [Value.slice.injEq, Option.some.injEq, Addr.mk.injEq, and_true, true_and] at e
  obtain ⟨rfl, rfl⟩ := e
  refine Own.mk ((((hb.set_ (j * 4) _).set_ (j * 4 + 1) _).set_ (j * 4 + 2) _).set_ (j * 4 + 3) _) h1 h2 (by simpa using h3) ?_
  simp only [Array.toList_setIfInBounds, List.take_set, h4]
  exact kflat_set l j x hj

/-- The reference's heap in memory: its block, its two rows. -/
structure R2 (w : World) (r : Nat) (si sk : Value) (I : List Int) (K : List Ky) : Prop where
  blk : Blk w r 47 #[si, sk]
  oi : Own w 3 1 si I.length (ints I)
  ok : Own w 28 4 sk K.length (kflat K)
  ne1 : si.ownBlock ≠ some r
  ne2 : sk.ownBlock ≠ some r
  ne3 : ∀ b, si.ownBlock = some b → sk.ownBlock ≠ some b
def OR (r : Nat) (si sk : Value) (b : Nat) : Prop := b = r ∨ si.ownBlock = some b ∨ sk.ownBlock = some b
def FreshR (w : World) (r : Nat) (si sk si' sk' : Value) : Prop := ∀ b, OR r si' sk' b → OR r si sk b ∨ w.heap.size ≤ b
section
variable {w w' : World} {r : Nat} {si sk si' sk' : Value} {I : List Int} {K : List Ky}
theorem R2.lt (h : R2 w r si sk I K) {b : Nat} (hb : OR r si sk b) : b < w.heap.size := by
  rcases hb with rfl | hb | hb
  · exact h.blk.lt
  · exact h.oi.lt hb
  · exact h.ok.lt hb
theorem R2.kept {T : Nat → Prop} (h : R2 w r si sk I K) (hk : Kept T w w') (hT : ∀ b, OR r si sk b → ¬ T b) : R2 w' r si sk I K :=
  ⟨hk.blk h.blk (hT r (.inl rfl)), h.oi.kept hk (fun b hb => hT b (.inr (.inl hb))), h.ok.kept hk (fun b hb => hT b (.inr (.inr hb))), h.ne1, h.ne2, h.ne3⟩
theorem R2.fresh (h : R2 w r si sk I K) (hb : Below w.heap.size w w') : R2 w' r si sk I K := h.kept (Kept.of_below hb) (fun b hb' e => by have := h.lt hb'; omega)
/-- A number is put behind the numbers. -/
theorem R2.put_i (h : R2 w r si sk I K) {x : Int} {n : Nat} (ho : Own w' 3 1 si' n (ints I ++ [.int .i64 x])) (hn : n = I.length + 1) (hg : w.grownBy w' si.ownBlock) (hf : Fresh w si si') :
    Blk w' r 47 #[si, sk] ∧ R2 (w'.setCell ⟨r, 0, none⟩ si') r si' sk (I ++ [x]) K ∧ Kept (OR r si sk) w (w'.setCell ⟨r, 0, none⟩ si') ∧ FreshR w r si sk si' sk := by
  subst hn
  have hk := (Kept.refl (fun b => si.ownBlock = some b) w).grown hg (fun _ e => .inl e)
  have hb : Blk w' r 47 #[si, sk] := hk.blk h.blk h.ne1
  have hk2 : Kept (fun b => b = r) w' (w'.setCell ⟨r, 0, none⟩ si') := (Kept.refl (fun b => b = r) w').setCell (p := ⟨r, 0, none⟩) (.inl rfl) si'
  have n1 : si'.ownBlock ≠ some r := fun e => (hf r e).elim h.ne1 (fun q => by have := h.blk.lt; omega)
  refine ⟨hb, ⟨hb.set_ 0 si', ?_, (h.ok.kept hk (fun b e1 e2 => h.ne3 b e2 e1)).kept hk2 (fun b e1 e2 => h.ne2 (e2 ▸ e1)), n1, h.ne2, fun b e1 e2 => ?_⟩, ?_, ?_⟩
  · rw [List.length_append, ints_app]
    exact ho.kept hk2 (fun b e1 e2 => n1 (e2 ▸ e1))
  · rcases hf b e1 with q | q
    · exact h.ne3 b q e2
    · have := h.ok.lt e2; omega
  · exact (hk.mono (fun _ _ e => .inr (.inl e))).trans hk2 (fun b e => .inl (.inl e))
  · rintro b (e | e | e)
    · exact .inl (.inl e)
    · exact (hf b e).imp (fun q => .inr (.inl q)) id
    · exact .inl (.inr (.inr e))
/-- A key is put behind the keys. -/
theorem R2.put_k (h : R2 w r si sk I K) {x : Ky} {n : Nat} (ho : Own w' 28 4 sk' n (kflat K ++ [.int .u64 x.1, .int .u64 x.2.1, .int .i64 x.2.2.1, .int .i64 x.2.2.2])) (hn : n = K.length + 1) (hg : w.grownBy w' sk.ownBlock) (hf : Fresh w sk sk') :
    Blk w' r 47 #[si, sk] ∧ R2 (w'.setCell ⟨r, 1, none⟩ sk') r si sk' I (K ++ [x]) ∧ Kept (OR r si sk) w (w'.setCell ⟨r, 1, none⟩ sk') ∧ FreshR w r si sk si sk' := by
  subst hn
  have hk := (Kept.refl (fun b => sk.ownBlock = some b) w).grown hg (fun _ e => .inl e)
  have hb : Blk w' r 47 #[si, sk] := hk.blk h.blk h.ne2
  have hk2 : Kept (fun b => b = r) w' (w'.setCell ⟨r, 1, none⟩ sk') := (Kept.refl (fun b => b = r) w').setCell (p := ⟨r, 1, none⟩) (.inl rfl) sk'
  have n1 : sk'.ownBlock ≠ some r := fun e => (hf r e).elim h.ne2 (fun q => by have := h.blk.lt; omega)
  refine ⟨hb, ⟨hb.set_ 1 sk', (h.oi.kept hk (fun b e1 e2 => h.ne3 b e1 e2)).kept hk2 (fun b e1 e2 => h.ne1 (e2 ▸ e1)), ?_, h.ne1, n1, fun b e1 e2 => ?_⟩, ?_, ?_⟩
  · rw [List.length_append, kflat_app]
    exact ho.kept hk2 (fun b e1 e2 => n1 (e2 ▸ e1))
  · rcases hf b e2 with q | q
    · exact h.ne3 b e1 q
    · have := h.oi.lt e1; omega
  · exact (hk.mono (fun _ _ e => .inr (.inr e))).trans hk2 (fun b e => .inl (.inl e))
  · rintro b (e | e | e)
    · exact .inl (.inl e)
    · exact .inl (.inr (.inl e))
    · exact (hf b e).imp (fun q => .inr (.inr q)) id
end
theorem FreshR.trans {w w' : World} {r : Nat} {a b a' b' a'' b'' : Value} (h : FreshR w r a b a' b') (k : FreshR w' r a' b' a'' b'') (hs : w.heap.size ≤ w'.heap.size) : FreshR w r a b a'' b'' := fun c hc => (k c hc).elim (h c) (fun q => .inr (by omega))

theorem first_at : ∀ {xs : List Int} {x : Int}, x ∈ xs → ∃ r, r < xs.length ∧ xs.getD r 0 = x ∧ ∀ j, j < r → xs.getD j 0 ≠ x
  | [], _, h => by simp at h
  | y :: r, x, h => by
    by_cases e : y = x
    · exact ⟨0, by simp, by simpa using e, fun j hj => by omega⟩
    · have hr : x ∈ r := (List.mem_cons.1 h).resolve_left (fun e2 => e e2.symm)
      obtain ⟨i, h1, h2, h3⟩ := first_at hr
      refine ⟨i + 1, by simp; omega, by simpa using h2, fun j hj => ?_⟩
      cases j with
      | zero => simpa using e
      | succ j => simpa using h3 j (by omega)
theorem notin_at {xs : List Int} {x : Int} (h : x ∉ xs) {k : Nat} (hk : k < xs.length) : xs.getD k 0 ≠ x := by
  intro e
  apply h
  rw [← e, List.getD_eq_getElem?_getD, List.getElem?_eq_getElem hk]
  exact List.getElem_mem hk

set_option maxHeartbeats 1000000 in
theorem find_no (r : Nat) (si sk : Value) (I : List Int) (K : List Ky) (id : Int) (w : World) (h : R2 w r si sk I K) (hl : I.length ≤ 1000000) (hx : id ∉ I) :
    Calls Try.prog 24 #[.pointer (some ⟨r, 0, none⟩), .int .i64 id] w fun e w' => e = .returned (.int .i64 (-1)) ∧ w = w' := by
  have HI := Lib.hid h.oi
  have HX := Lib.hid hx
  obtain ⟨ai, ci, rfl⟩ := h.oi.of_any
  have q0 := h.blk.cell 0
  simp at q0
  clear h hx
  go_enter Try.func24, Try.ntmps24
  go_wp2
  go_loop [5] (fun i => ∃ k : Nat, k ≤ I.length ∧ i = .int .i64 k)
    (fun i => I.length - (intOf i).toNat)
  case atStart => exact ⟨0, by omega, rfl⟩
  case round =>
    obtain ⟨k, hk, rfl⟩ := hrel
    by_cases hlt : k < I.length
    · obtain ⟨b, _, _, eb, _, _⟩ := HI.out.of_pos (by omega)
      simp only [Value.slice.injEq, true_and] at eb
      obtain ⟨rfl, rfl⟩ := eb
      have c1 := own_int HI.out hlt
      have k0 : (0 : Int) ≤ (k : Int) := by omega
      have k1 : (k : Int) < (I.length : Int) := by omega
      have hne : (I.getD k 0 == id) = false := by have := notin_at HX.out hlt; simpa using this
      generalize I.getD k 0 = y at *
      go_wp2
      go_round
      case rel => exact ⟨k + 1, by omega, by go_num⟩
      case measure => simp [intOf]; omega
    · have k1 : ¬ (k : Int) < (I.length : Int) := by omega
      go_wp2
      go_ret
      exact ⟨rfl, rfl⟩

set_option maxHeartbeats 1000000 in
theorem find_yes (r : Nat) (si sk : Value) (I : List Int) (K : List Ky) (id : Int) (q : Nat) (w : World) (h : R2 w r si sk I K) (hl : I.length ≤ 1000000) (hq : q < I.length) (h1 : I.getD q 0 = id) (h2 : ∀ j, j < q → I.getD j 0 ≠ id) :
    Calls Try.prog 24 #[.pointer (some ⟨r, 0, none⟩), .int .i64 id] w fun e w' => e = .returned (.int .i64 q) ∧ w = w' := by
  have HI := Lib.hid h.oi
  have HE := Lib.hid h1
  have HN := Lib.hid h2
  obtain ⟨bi, ci, _, eb, _, _⟩ := h.oi.of_pos (by omega)
  subst eb
  have q0 := h.blk.cell 0
  simp at q0
  clear h h1 h2
  go_enter Try.func24, Try.ntmps24
  go_wp2
  go_loop [5] (fun i => ∃ k : Nat, k ≤ q ∧ i = .int .i64 k)
    (fun i => I.length - (intOf i).toNat)
  case atStart => exact ⟨0, by omega, rfl⟩
  case round =>
    obtain ⟨k, hk, rfl⟩ := hrel
    have c1 := own_int HI.out (i := k) (by omega)
    have k0 : (0 : Int) ≤ (k : Int) := by omega
    have k1 : (k : Int) < (I.length : Int) := by omega
    by_cases hlt : k < q
    · have hne : (I.getD k 0 == id) = false := by have := HN.out k hlt; simpa using this
      generalize I.getD k 0 = y at *
      go_wp2
      go_round
      case rel => exact ⟨k + 1, by omega, by go_num⟩
      case measure => simp [intOf]; omega
    · obtain rfl : k = q := by omega
      rw [HE.out] at c1
      go_wp2
      go_ret
      exact ⟨rfl, rfl⟩
end Go.Proofs.Ytffgjjlamdaajaa
