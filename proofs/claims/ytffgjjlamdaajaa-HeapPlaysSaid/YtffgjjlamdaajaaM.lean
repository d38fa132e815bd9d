/- The things of a heap, as they come out: what the law's helper returns. -/
import Derived.Test.YtffgjjlamdaajaaN
import Derived.Test.YtffgjjlamdaajaaPt
import Derived.OwnWalk
import Derived.Maps.AppendAt
namespace Go.Proofs.Ytffgjjlamdaajaa
open Go.RowKit

def ints (xs : List Int) : List Value := xs.map (fun x => .int .i64 x)
theorem ints_app (a b : List Int) : ints (a ++ b) = ints a ++ ints b := by simp [ints]
theorem ints_len (xs : List Int) : (ints xs).length = xs.length := by simp [ints]
theorem ints_one (xs : List Int) : ∀ u ∈ ints xs, u.oneCell' = true := by
  intro u hu
  obtain ⟨x, _, rfl⟩ := List.mem_map.1 hu
  rfl
theorem ints_get (xs : List Int) {i : Nat} (h : i < xs.length) : (ints xs)[i]? = some (.int .i64 (xs.getD i 0)) := by simp [ints, h]
theorem own_int {w : World} {b n cap : Nat} {xs : List Int} (h : Own w 3 1 (.slice (some ⟨b, 0, none⟩) n cap) n (ints xs)) {i : Nat} (hi : i < xs.length) : w.cell? ⟨b, i, none⟩ = some (.int .i64 (xs.getD i 0)) := by
  have a := World.ownsRow.cells h (g := b) rfl _ _ (ints_get xs hi)
  rw [Addr.add_lit, Nat.zero_add] at a
  exact a
theorem info3z : (Try.prog.info? 3).map (fun i => (i.zero, i.size, i.bytes)) = some (some (.int .i64 0), 1, 8) := by kernel_rfl

section
variable {w0 w w' w'' : World} {L L' L'' : List HD}
theorem Far.trans (h : Far w L w' L') (k : Far w' L' w'' L'') : Far w L w'' L'' :=
  ⟨Nat.le_trans h.1 k.1, fun c hc ho => ⟨(k.2 c (Nat.lt_of_lt_of_le hc h.1) (h.2 c hc ho).2).1.trans (h.2 c hc ho).1, (k.2 c (Nat.lt_of_lt_of_le hc h.1) (h.2 c hc ho).2).2⟩⟩
theorem Far.refl (w : World) (L : List HD) : Far w L w L := ⟨Nat.le_refl _, fun _ _ ho => ⟨rfl, ho⟩⟩
theorem Far.kept {T : Nat → Prop} (h : Far w L w' L') (hk : Kept T w' w'') (hT : ∀ b, T b → w.heap.size ≤ b) : Far w L w'' L' :=
  ⟨Nat.le_trans h.1 hk.size, fun c hc ho => ⟨(hk.block c (Nat.lt_of_lt_of_le hc h.1) (fun e => by have := hT c e; omega)).trans (h.2 c hc ho).1, (h.2 c hc ho).2⟩⟩
theorem Far.mono (h : Far w L w' L') (hb : Below w'.heap.size w' w'') : Far w L w'' L' := h.trans (far_mono hb)
theorem Sys.kept {T : Nat → Prop} (h : Sys w0 w L) (hk : Kept T w w') (hT : ∀ b, T b → w0.heap.size ≤ b ∧ Out L b) : Sys w0 w' L :=
  ⟨h.below.trans (hk.below (fun b _ e => (hT b e).1) h.below.size), fun x hx => ⟨(h.hp x hx).1.kept hk (fun b h1 h2 => (hT b h2).2 x hx h1), (h.hp x hx).2⟩, h.ap⟩
/-- A row of its own, in new memory, of none of the heaps. -/
def Row (w0 : World) (L : List HD) (z : Value) : Prop := ∀ b, z.ownBlock = some b → w0.heap.size ≤ b ∧ Out L b
theorem Row.far {z : Value} (h : Row w0 L z) (hf : Far w L w' L') {e k n : Nat} {xs : List Value} (ho : Own w e k z n xs) : Row w0 L' z ∧ Own w' e k z n xs :=
  ⟨fun b hb => ⟨(h b hb).1, hf.out (ho.lt hb) (h b hb).2⟩, hf.own ho (fun b hb => (h b hb).2)⟩
/-- An append to such a row. -/
theorem row_grown {z z' : Value} (h : Row w0 L z) (hs : Sys w0 w L) (hg : w.grownBy w' z.ownBlock) (hf : Fresh w z z') : Sys w0 w' L ∧ Row w0 L z' ∧ Kept (fun b => z.ownBlock = some b) w w' := by
  have hk := (Kept.refl (fun b => z.ownBlock = some b) w).grown hg (fun k e => .inl e)
  refine ⟨hs.kept hk (fun b e => h b e), fun b hb => ?_, hk⟩
  rcases hf b hb with e | e
  · exact h b e
  · exact ⟨Nat.le_trans hs.below.size e, hs.out e⟩
end

theorem take_ids (S : List Th) {y : Nat} (h : y < S.length) : ids (S.take (y + 1)) = ids (S.take y) ++ [(g S y).1] := by
  have e : S.take (y + 1) = S.take y ++ [g S y] := by simp [g, h]
  rw [e]
  simp [ids]

set_option maxHeartbeats 2000000 in
theorem sys_order {w0 w : World} {p m : Nat} {s : Value} {S : List Th} {L : List HD} (h : Sys w0 w ((p, s, m, S) :: L)) (hl : S.length ≤ 1000000) (n : Nat) (hn : n = S.length) :
    Calls Try.prog 17 #[.pointer (some ⟨p, 0, none⟩), .int .i64 n] w fun e w' => ∃ z s', e = .returned z ∧ Sys w0 w' ((p, s', m, []) :: L) ∧ Own w' 3 1 z n (ints (ids S)) ∧ Row w ((p, s', m, []) :: L) z ∧ Far w ((p, s, m, S) :: L) w' ((p, s', m, []) :: L) := by
  obtain ⟨i0, hi0, hz0, hz1, hz2⟩ := info_parts info3z
  have H0 := Lib.hid h
  have HN := Lib.hid hn
  replace hl : n ≤ 1000000 := by omega
  clear h hn
  go_enter Try.func17, Try.ntmps17
  go_wp2
  go_loopw [5, 6] (fun o i wr => ∃ (y : Nat) (t : Value), i = .int .i64 y ∧ y ≤ n ∧ Hid (Sys w0 wr ((p, t, m, S.drop y) :: L)) ∧ Hid (Own wr 3 1 o y (ints (ids (S.take y)))) ∧ Hid (Row w ((p, t, m, S.drop y) :: L) o) ∧ Hid (Far w ((p, s, m, S) :: L) wr ((p, t, m, S.drop y) :: L)))
    (fun _ i _ => n - (intOf i).toNat)
  case atStart =>
    have hb : Below w.heap.size w (w.alloc (.cells #[] 3)) := by go_grown
    exact ⟨0, s, rfl, by omega, Lib.hid (H0.out.mono hb), Lib.hid (Own.mk (Blk.new w 3 #[]) (by omega) (by omega) rfl rfl), Lib.hid (fun b hb => by
      simp only [Value.ownBlock, Option.some.injEq] at hb
      subst hb
      exact ⟨Nat.le_refl _, H0.out.out (Nat.le_refl _)⟩), Lib.hid (far_mono hb)⟩
  case round =>
    obtain ⟨y, t, rfl, hy, HS, HO, HR, HF⟩ := hrel
    obtain ⟨ao, co, rfl⟩ := HO.out.of_any
    by_cases hyn : y < n
    · have t1 : (y : Int) < (n : Int) := by omega
      have hys : y < S.length := by rw [← HN.out]; exact hyn
      have HV := Lib.hid (popV_drop hys)
      have HT := Lib.hid (take_ids S hys)
      have HL := Lib.hid (show (S.drop y).length ≤ 1000000 by rw [List.length_drop, ← HN.out]; omega)
      generalize g S y = x at *
      obtain ⟨id, x1, x2, x3, x4⟩ := x
      clear hys
      go_wp2_with fail
      refine (sys_pop HS.out HL.out HV.out (tail_drop S y)).mono ?_
      rintro e w1 ⟨t1, rfl, hs, hf⟩
      have HS1 := Lib.hid hs
      have HR1 := Lib.hid ((Row.far HR.out hf HO.out).1)
      have HO1 := Lib.hid ((Row.far HR.out hf HO.out).2)
      have HF1 := Lib.hid (HF.out.trans hf)
      clear hs hf
      go_wp2_with (at_builtin; refine wpList_append_fresh _ rfl _ _ 37 rfl 3 i0 (.int .i64 0) 1 8 Try.underlying37 hi0 hz0 hz1 hz2 rfl (by decide) _ _ _ rfl ((HO1.out.alloc _).alloc _) (some ⟨w1.heap.size + 1, 0, none⟩) 1 1 [.int .i64 id] rfl rfl (fun _ => ⟨_, rfl, by simpa using cell_one_new (w1.alloc (.cells #[.int .u64 x1, .int .u64 x2, .int .i64 x3, .int .i64 x4] 24)) (.int .i64 id) 3⟩) (by simp [Value.oneCell']) (by simp [maxLen]; omega) (by omega) ?_; intro v' w2 ho2 hg2 hf2)
      have hb2 : Below w1.heap.size w1 ((w1.alloc (.cells #[.int .u64 x1, .int .u64 x2, .int .i64 x3, .int .i64 x4] 24)).alloc (.cells #[.int .i64 id] 3)) := by go_grown
      have hq := row_grown (w0 := w0) (L := (p, t1, m, S.drop (y + 1)) :: L) (fun b hb => ⟨Nat.le_trans H0.out.below.size (HR1.out b hb).1, (HR1.out b hb).2⟩) (HS1.out.mono hb2) hg2 hf2
      have HS2 := Lib.hid hq.1
      have HF2 := Lib.hid ((HF1.out.mono hb2).kept hq.2.2 (fun b e => (HR1.out b e).1))
      have HR2 := Lib.hid (show Row w ((p, t1, m, S.drop (y + 1)) :: L) v' from fun b hb => ⟨(hf2 b hb).elim (fun e => (HR1.out b e).1) (fun e => by have h1 := HF1.out.1; have h2 := hb2.size; omega), (hq.2.1 b hb).2⟩)
      have HO2 := Lib.hid (show Own w2 3 1 v' (y + 1) (ints (ids (S.take (y + 1)))) by rw [HT.out, ints_app]; exact ho2)
      clear ho2 hg2 hf2 hq hb2
      go_wp2_with fail
      go_roundw
      case rel => exact ⟨y + 1, t1, by go_num, by omega, HS2, HO2, HR2, HF2⟩
      case measure => simp [intOf]; omega
    · obtain rfl : y = n := by omega
      have e1 : S.drop y = [] := by rw [HN.out]; simp
      have e2 : S.take y = S := by rw [HN.out]; simp
      rw [e1] at HS HR HF
      rw [e2] at HO
      clear e1 e2
      go_wp2
      go_ret
      exact ⟨_, t, rfl, HS.out, HO.out, HR.out, HF.out⟩
end Go.Proofs.Ytffgjjlamdaajaa
