/- The reference: Push and Lower: what each returns and leaves. -/
import Derived.Test.YtffgjjlamdaajaaV
import Derived.StillTailTactics
namespace Go.Proofs.Ytffgjjlamdaajaa
open Go.RowKit

theorem info28z : (Try.prog.info? 28).map (fun i => (i.zero, i.size, i.bytes)) = some (some (.agg #[.int .u64 0, .int .u64 0, .int .i64 0, .int .i64 0]), 4, 32) := by kernel_rfl
theorem cells_four (w : World) (t : TypeId) (c0 c1 c2 c3 : Value) (n : Nat) (hn : n = w.heap.size) : ∀ j u, [c0, c1, c2, c3][j]? = some u → (w.alloc (.cells #[c0, c1, c2, c3] t)).cell? ((⟨n, 0, none⟩ : Addr).add j) = some u := by
  subst hn
  intro j u hu
  rw [Addr.add_lit, Nat.zero_add]
  rw [show (w.alloc (.cells #[c0, c1, c2, c3] t)).cell? ⟨w.heap.size, j, none⟩ = #[c0, c1, c2, c3][j]? from (Blk.new w t _).cell j]
  rw [← hu, ← Array.getElem?_toList]

/-- What a writing call of the reference leaves. -/
def RPost (r : Nat) (si sk : Value) (E : Int) (I' : List Int) (K' : List Ky) (w : World) (e : Ending) (w' : World) : Prop :=
  ∃ si' sk', e = .returned (.int .i64 E) ∧ R2 w' r si' sk' I' K' ∧ Kept (OR r si sk) w w' ∧ FreshR w r si sk si' sk'

set_option maxHeartbeats 2000000 in
theorem rpush_there (r : Nat) (si sk : Value) (I : List Int) (K : List Ky) (id : Int) (k : Ky) (w : World) (h : R2 w r si sk I K) (hl : I.length ≤ 1000000) (hx : id ∈ I) :
    Calls Try.prog 19 #[.pointer (some ⟨r, 0, none⟩), .int .i64 id, kyV k] w (RPost r si sk 15 I K w) := by
  obtain ⟨q, h1, h2, h3⟩ := first_at hx
  have H := Lib.hid (fun w' hb => find_yes r si sk I K id q w' (h.fresh (w' := w') hb) hl h1 h2 h3)
  have HR := Lib.hid h
  clear h h2 h3 hx h1
  obtain ⟨k1, k2, k3, k4⟩ := k
  have q0 : ¬ (q : Int) < 0 := by omega
  have q0' : (0 : Int) ≤ (q : Int) := by omega
  go_enter Try.func19, Try.ntmps19
  go_wp2_with fail
  refine (H.out _ (by go_grown)).mono ?_
  rintro e w' ⟨rfl, hww⟩
  subst hww
  go_wp2_with fail
  go_ret
  exact ⟨si, sk, rfl, HR.out.fresh (by go_grown), Kept.of_fresh (by go_grown) _, fun b hb => .inl hb⟩

set_option maxHeartbeats 4000000 in
theorem rpush_new (r : Nat) (si sk : Value) (I : List Int) (K : List Ky) (id : Int) (k : Ky) (w : World) (h : R2 w r si sk I K) (hl : I.length ≤ 999999) (hlk : K.length ≤ 999999) (hx : id ∉ I) :
    Calls Try.prog 19 #[.pointer (some ⟨r, 0, none⟩), .int .i64 id, kyV k] w (RPost r si sk 0 (I ++ [id]) (K ++ [k]) w) := by
  obtain ⟨i0, hi0, hz0, hz1, hz2⟩ := info_parts info3z
  obtain ⟨i1, ji0, jz0, jz1, jz2⟩ := info_parts info28z
  have H := Lib.hid (fun w' hb => find_no r si sk I K id w' (h.fresh (w' := w') hb) (by omega) hx)
  obtain ⟨ai, ci, rfl⟩ := h.oi.of_any
  obtain ⟨ak, ck, rfl⟩ := h.ok.of_any
  have c0 := h.blk.cell 0
  have c1 := h.blk.cell 1
  simp at c0 c1
  have hrlt := h.blk.lt
  have HR := Lib.hid h
  clear h hx
  obtain ⟨k1, k2, k3, k4⟩ := k
  go_enter Try.func19, Try.ntmps19
  go_wp2_with fail
  refine (H.out _ (by go_grown)).mono ?_
  rintro e w' ⟨rfl, hww⟩
  subst hww
  have HR1 := Lib.hid (HR.out.fresh (w' := (w.alloc (.cells #[.int .u64 k1, .int .u64 k2, .int .i64 k3, .int .i64 k4] 28)).alloc (.cells #[.int .i64 id] 3)) (by go_grown))
  go_wp2_with (at_builtin; refine wpList_append_fresh _ rfl (.tmp 15) (.tmp 17) 37 rfl 3 i0 (.int .i64 0) 1 8 Try.underlying37 hi0 hz0 hz1 hz2 rfl (by decide) _ _ _ rfl HR1.out.oi (some ⟨w.heap.size + 1, 0, none⟩) 1 1 [.int .i64 id] rfl rfl (fun _ => ⟨_, rfl, by simpa using cell_one_new (w.alloc (.cells #[.int .u64 k1, .int .u64 k2, .int .i64 k3, .int .i64 k4] 28)) (.int .i64 id) 3⟩) (by simp [Value.oneCell']) (by simp [maxLen]; omega) (by omega) ?_; intro si' w2 ho2 hg2 hf2; obtain ⟨ai', ci', rfl⟩ := ho2.of_any; have hq := HR1.out.put_i ho2 rfl hg2 hf2; have d0 := hq.1.cell 0; have df := hq.1.frozen; simp at d0; have K2 := Lib.hid (((Kept.refl (fun b => (Value.slice ai I.length ci).ownBlock = some b) _).grown hg2 (fun _ e => .inl e)).blk ((Blk.new w 28 #[.int .u64 k1, .int .u64 k2, .int .i64 k3, .int .i64 k4]).alloc (.cells #[.int .i64 id] 3)) (fun e => by have := HR.out.oi.lt e; omega)))
  generalize hw3 : w2.setCell _ _ = w3 at *
  have K3 := Lib.hid (show Blk w3 w.heap.size 28 #[.int .u64 k1, .int .u64 k2, .int .i64 k3, .int .i64 k4] by rw [← hw3]; exact K2.out.far (by show w.heap.size ≠ r; omega) _)
  have R3 := Lib.hid hq.2.1
  have KP3 := Lib.hid ((Kept.of_fresh (show Below w.heap.size w ((w.alloc (.cells #[.int .u64 k1, .int .u64 k2, .int .i64 k3, .int .i64 k4] 28)).alloc (.cells #[.int .i64 id] 3)) by go_grown) (OR r (.slice ai I.length ci) (.slice ak K.length ck))).trans hq.2.2.1 (fun _ e => .inl e))
  have F3 := Lib.hid (show FreshR w r (.slice ai I.length ci) (.slice ak K.length ck) (.slice ai' (I.length + 1) ci') (.slice ak K.length ck) from fun b hb => (hq.2.2.2 b hb).imp (fun q => q) (fun e => by simp at e; omega))
  clear hw3 hq ho2 hg2 hf2 d0 df c0 c1 K2
  have c0 := R3.out.blk.cell 0
  have c1 := R3.out.blk.cell 1
  have e0 := K3.out.cell 0
  have e1 := K3.out.cell 1
  have e2 := K3.out.cell 2
  have e3 := K3.out.cell 3
  simp at c0 c1 e0 e1 e2 e3
  have hrlt3 := R3.out.blk.lt
  have hklt3 := K3.out.lt
  have hsz3 := KP3.out.size
  go_region_law (refine step_append_fresh _ rfl (.tmp 25) (.tmp 27) 45 rfl 28 i1 (.agg #[.int .u64 0, .int .u64 0, .int .i64 0, .int .i64 0]) 4 32 Try.underlying45 ji0 jz0 jz1 jz2 rfl (by decide) (.slice ak K.length ck) K.length (kflat K) (by simp [Act.eval]) (by first | exact (own_drew R3.out.ok).alloc _ | exact own_drew (R3.out.ok.alloc _)) (some ⟨w3.heap.size, 0, none⟩) 1 1 [.int .u64 k1, .int .u64 k2, .int .i64 k3, .int .i64 k4] (by simp [Act.eval]) rfl (fun _ => ⟨_, rfl, by exact cells_four _ _ _ _ _ _ _ (by simp)⟩) (by simp [Value.oneCell']) (by simp [maxLen]; omega) (by omega) ?_; intro sk' w4 ho hg hf; obtain ⟨ak', ck', rfl⟩ := ho.of_any; have kq := (R3.out.fresh (by go_grown)).put_k (x := (k1, k2, k3, k4)) ho rfl hg hf; have g1 := kq.1.cell 1; have g0 := kq.1.cell 0; have gf := kq.1.frozen; simp at g0 g1; have R4 := Lib.hid kq.2.1; have KP4 := Lib.hid (show Kept (OR r (.slice ai' (I.length + 1) ci') (.slice ak K.length ck)) w3 (w4.setCell ⟨r, 1, none⟩ (.slice ak' (K.length + 1) ck')) from (Kept.of_fresh (by go_grown) (OR r (.slice ai' (I.length + 1) ci') (.slice ak K.length ck))).trans kq.2.2.1 (fun _ e => .inl e)); have F4 := Lib.hid (show FreshR w3 r (.slice ai' (I.length + 1) ci') (.slice ak K.length ck) (.slice ai' (I.length + 1) ci') (.slice ak' (K.length + 1) ck') from fun b hb => (kq.2.2.2 b hb).imp (fun q => q) (fun e => by simp at e; omega)); clear ho hg hf kq)
  all_goals
    go_wp2_with fail
    go_ret
    refine ⟨_, _, rfl, ?_, ?_, F3.out.trans F4.out hsz3⟩
    · exact R4.out
    · refine KP3.out.trans KP4.out (fun b hb => ?_)
      rcases hb with e | e | e
      · exact .inl (.inl e)
      · exact (F3.out b (.inr (.inl e)))
      · exact .inl (.inr (.inr e))

set_option maxHeartbeats 2000000 in
theorem rlower_none (r : Nat) (si sk : Value) (I : List Int) (K : List Ky) (id : Int) (k : Ky) (w : World) (h : R2 w r si sk I K) (hl : I.length ≤ 1000000) (hx : id ∉ I) :
    Calls Try.prog 20 #[.pointer (some ⟨r, 0, none⟩), .int .i64 id, kyV k] w (RPost r si sk 14 I K w) := by
  have H := Lib.hid (fun w' hb => find_no r si sk I K id w' (h.fresh (w' := w') hb) hl hx)
  have HR := Lib.hid h
  clear h hx
  obtain ⟨k1, k2, k3, k4⟩ := k
  go_enter Try.func20, Try.ntmps20
  go_wp2_with fail
  refine (H.out _ (by go_grown)).mono ?_
  rintro e w' ⟨rfl, hww⟩
  subst hww
  go_wp2_with fail
  go_ret
  exact ⟨si, sk, rfl, HR.out.fresh (by go_grown), Kept.of_fresh (by go_grown) _, fun b hb => .inl hb⟩

theorem r2_lay {w : World} {r b c n : Nat} {si : Value} {I : List Int} {K : List Ky} (h : R2 w r si (.slice (some ⟨b, 0, none⟩) n c) I K) (hn : n = K.length) {q : Nat} (hq : q < K.length) (k : Ky) :
    R2 (layK w b (q * 4) k) r si (.slice (some ⟨b, 0, none⟩) n c) I (K.set q k) := by
  have hk := kept_layK w b (q * 4) k
  subst hn
  refine ⟨hk.blk h.blk (fun e => h.ne2 (by rw [e]; rfl)), h.oi.kept hk (fun b' e1 e2 => h.ne3 b' e1 (by rw [e2]; rfl)), ?_, h.ne1, h.ne2, h.ne3⟩
  rw [List.length_set]
  exact own_layE h.ok rfl hq k

set_option maxHeartbeats 4000000 in
theorem rlower_there (r : Nat) (si sk : Value) (I : List Int) (K : List Ky) (id : Int) (k : Ky) (q : Nat) (w : World) (h : R2 w r si sk I K) (hl : I.length ≤ 1000000) (hk : K.length = I.length) (hq : q < I.length) (h1 : I.getD q 0 = id) (h2 : ∀ j, j < q → I.getD j 0 ≠ id)
    {E : Int} {K' : List Ky} (hE : (if ltK k (K.getD q (0, 0, 0, 0)) = true then (0 : Int) else 1) = E) (hK' : (if ltK k (K.getD q (0, 0, 0, 0)) = true then K.set q k else K) = K') :
    Calls Try.prog 20 #[.pointer (some ⟨r, 0, none⟩), .int .i64 id, kyV k] w (RPost r si sk E I K' w) := by
  have HE := Lib.hid hE
  have HK' := Lib.hid hK'
  clear hE hK'
  have H := Lib.hid (fun w' hb => find_yes r si sk I K id q w' (h.fresh (w' := w') hb) hl hq h1 h2)
  have HKI := Lib.hid hk
  obtain ⟨bk, ck, _, eb, _, _⟩ := h.ok.of_pos (by omega)
  subst eb
  have hqk : q < K.length := by omega
  have HR := Lib.hid h
  have HY := Lib.hid (fun (w' : World) (ho : Own w' 28 4 (.slice (some ⟨bk, 0, none⟩) K.length ck) K.length (kflat K)) => own_keyE ho hqk)
  have HLs := Lib.hid (fun (w' : World) (h' : R2 w' r si (.slice (some ⟨bk, 0, none⟩) K.length ck) I K) => r2_lay h' rfl hqk k)
  clear h h1 h2
  generalize K.getD q (0, 0, 0, 0) = y at *
  obtain ⟨y1, y2, y3, y4⟩ := y
  obtain ⟨k1, k2, k3, k4⟩ := k
  have j0 : (0 : Int) ≤ (q : Int) := by omega
  have j0' : ¬ (q : Int) < 0 := by omega
  have j1 : (q : Int) < (K.length : Int) := by omega
  clear hk
  go_enter Try.func20, Try.ntmps20
  go_wp2_with fail
  refine (H.out _ (by go_grown)).mono ?_
  rintro e w' ⟨rfl, hww⟩
  subst hww
  have B0 : Below w.heap.size w (w.alloc (.cells #[.int .u64 k1, .int .u64 k2, .int .i64 k3, .int .i64 k4] 28)) := by go_grown
  have K0 := Blk.new w 28 #[.int .u64 k1, .int .u64 k2, .int .i64 k3, .int .i64 k4]
  have R0 := HR.out.fresh B0
  generalize w.alloc (.cells #[.int .u64 k1, .int .u64 k2, .int .i64 k3, .int .i64 k4] 28) = w0 at *
  have HB0 := Lib.hid B0
  have HK0 := Lib.hid K0
  have HR0 := Lib.hid R0
  have c1 := R0.blk.cell 1
  obtain ⟨z0, z1, z2, z3⟩ := HY.out _ R0.ok
  have d0 := K0.cell 0
  have d1 := K0.cell 1
  have d2 := K0.cell 2
  have d3 := K0.cell 3
  simp at c1 d0 d1 d2 d3
  (try dsimp only at z0 z1 z2 z3)
  clear B0 K0 R0
  go_wp2_with fail
  go_still_tail 8, (by kernel_rfl)
  change wpList _ _ _ _ _ w0.drew
  go_wp2_with fail
  refine (refLess_any (k1, k2, k3, k4) (y1, y2, y3, y4) _).mono ?_
  rintro e w1 ⟨rfl, hb⟩
  have b01 : Below w0.heap.size w0 w1 := bl (by go_grown) hb
  have HB1 := Lib.hid (bl HB0.out b01)
  have HR1 := Lib.hid (HR0.out.fresh b01)
  have k1' := HK0.out.below b01 HK0.out.lt
  clear c1 z0 z1 z2 z3 d0 d1 d2 d3 hb b01
  cases hlt : ltK (k1, k2, k3, k4) (y1, y2, y3, y4)
  · obtain rfl : (1 : Int) = E := HE.out ▸ (if_neg (by rw [hlt]; simp)).symm
    obtain rfl : K = K' := HK'.out ▸ (if_neg (by rw [hlt]; simp)).symm
    go_wp2_with fail
    go_ret
    exact ⟨si, _, rfl, HR1.out, Kept.of_fresh HB1.out _, fun b hb => .inl hb⟩
  · obtain rfl : (0 : Int) = E := HE.out ▸ (if_pos hlt).symm
    obtain rfl : K.set q (k1, k2, k3, k4) = K' := HK'.out ▸ (if_pos hlt).symm
    have c1 := HR1.out.blk.cell 1
    obtain ⟨z0, z1, z2, z3⟩ := HY.out _ HR1.out.ok
    have d0 := k1'.cell 0
    have d1 := k1'.cell 1
    have d2 := k1'.cell 2
    have d3 := k1'.cell 3
    simp at c1 d0 d1 d2 d3
    (try dsimp only at z0 z1 z2 z3)
    obtain ⟨_, _, _, eb, hbk, _⟩ := HR1.out.ok.of_pos (by omega)
    simp only [Value.slice.injEq, Option.some.injEq, Addr.mk.injEq, and_true, true_and] at eb
    obtain ⟨rfl, rfl⟩ := eb
    have fr : ∀ o, w1.frozen? ⟨bk, o, none⟩ = false := fun o => hbk.frozen o
    have R9 := Lib.hid (HLs.out _ HR1.out)
    clear k1' hbk
    go_wp2_with fail
    go_region
    all_goals
      go_wp2_with fail
      go_ret
      refine ⟨si, _, rfl, ?_, ?_, fun b hb => .inl hb⟩
      · exact R9.out.fresh (show Below _ _ _ by go_grown)
      · exact ((Kept.of_fresh HB1.out (OR r si (.slice (some ⟨bk, 0, none⟩) K.length ck))).trans (kept_layK w1 bk (q * 4) (k1, k2, k3, k4)) (fun b e => .inl (.inr (.inr (by rw [e]; rfl))))).drew
end Go.Proofs.Ytffgjjlamdaajaa
