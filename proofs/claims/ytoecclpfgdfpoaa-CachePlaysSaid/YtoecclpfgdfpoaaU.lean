/- The reference's cache: what each function returns, and what it leaves in memory. -/
import Derived.Test.YtoecclpfgdfpoaaK
import Derived.StillTailTactics
namespace Go.Proofs.Ytoecclpfgdfpoaa
open Go.RowKit

/-- The reference's cache: a block of two cells, and a row that it owns. -/
structure Rch (w : World) (p : Nat) (s : Value) (room : Int) (l : List Th) : Prop where
  blk : Blk w p 59 #[.int .i64 room, s]
  own : Own w 62 2 s l.length (flat l)
  ne : s.ownBlock ≠ some p

theorem Rch.lt {w : World} {p : Nat} {s : Value} {room : Int} {l : List Th} (h : Rch w p s room l) {b : Nat} (hb : O p s b) : b < w.heap.size := by
  rcases hb with rfl | hb
  · exact h.blk.lt
  · exact h.own.lt hb
theorem Rch.kept {w w' : World} {p : Nat} {s : Value} {room : Int} {l : List Th} {S : Nat → Prop} (h : Rch w p s room l) (hk : Kept S w w') (hS : ∀ b, O p s b → ¬ S b) : Rch w' p s room l :=
  ⟨hk.blk h.blk (hS p (.inl rfl)), h.own.kept hk (fun b hb => hS b (.inr hb)), h.ne⟩
theorem Rch.fresh {w w' : World} {p : Nat} {s : Value} {room : Int} {l : List Th} (h : Rch w p s room l) (hk : Below w.heap.size w w') : Rch w' p s room l :=
  ⟨h.blk.below hk h.blk.lt, h.own.kept (Kept.of_below hk) (fun b hb => by have := h.own.lt hb; omega), h.ne⟩

theorem rown_at {w : World} {a : Option Addr} {n cap : Nat} {l : List Th} (h : Own w 62 2 (.slice a n cap) l.length (flat l)) {j : Nat} (hj : j < l.length) :
    ∃ g, a = some ⟨g, 0, none⟩ ∧ g < w.heap.size ∧ w.cell? ⟨g, j * 2, none⟩ = some (.int .i64 (l.getD j (0, 0)).1) ∧ w.cell? ⟨g, j * 2 + 1, none⟩ = some (.int .i64 (l.getD j (0, 0)).2) := by
  obtain ⟨g, cap', cur, e1, hb, _⟩ := h.of_pos (by omega)
  simp only [Value.slice.injEq] at e1
  obtain ⟨rfl, rfl, rfl⟩ := e1
  obtain ⟨h1, h2⟩ := flat_get l j hj
  have c1 := World.ownsRow.cells h (g := g) rfl _ _ h1
  have c2 := World.ownsRow.cells h (g := g) rfl _ _ h2
  rw [Addr.add_lit, Nat.zero_add] at c1 c2
  exact ⟨g, rfl, hb.lt, c1, c2⟩

set_option maxHeartbeats 1000000 in
theorem rfind_some (p : Nat) (s : Value) (room : Int) (l : List Th) (k : Int) (r : Nat) (w : World) (h : Rch w p s room l) (hl : l.length ≤ 1000000) (hr : r < l.length)
    (hf : (l.getD r (0, 0)).1 = k) (hno : ∀ j, j < r → (l.getD j (0, 0)).1 ≠ k) :
    Calls Try.prog 28 #[.pointer (some ⟨p, 0, none⟩), .int .i64 k] w fun e w' => e = .returned (.int .i64 r) ∧ w = w' := by
  obtain ⟨a, cap, rfl⟩ := h.own.of_any
  have q1 := h.blk.cell 1
  simp at q1
  have HO := Lib.hid h.own
  have HF := Lib.hid hf
  have HN := Lib.hid hno
  clear h hf hno
  go_enter Try.func28, Try.ntmps28
  go_wp2
  go_loop [5] (fun i => ∃ j : Nat, j ≤ r ∧ i = .int .i64 j)
    (fun i => l.length - (intOf i).toNat)
  case atStart => exact ⟨0, by omega, rfl⟩
  case round =>
    obtain ⟨j, hj, rfl⟩ := hrel
    obtain ⟨g, rfl, hg, c1, _⟩ := rown_at HO.out (show j < l.length by omega)
    have j0 : (0 : Int) ≤ (j : Int) := by omega
    have j1 : (j : Int) < (l.length : Int) := by omega
    have hjl : j < l.length := by omega
    by_cases hlt : j < r
    · have hne : ((l.getD j (0, 0)).1 == k) = false := by have := HN.out j hlt; simpa using this
      generalize (l.getD j (0, 0)).1 = y at *
      go_wp2
      go_round
      case rel => exact ⟨j + 1, by omega, by go_num⟩
      case measure => simp [intOf]; omega
    · obtain rfl : j = r := by omega
      rw [HF.out] at c1
      go_wp2
      go_ret
      exact ⟨rfl, rfl⟩

set_option maxHeartbeats 1000000 in
theorem rfind_none (p : Nat) (s : Value) (room : Int) (l : List Th) (k : Int) (w : World) (h : Rch w p s room l) (hl : l.length ≤ 1000000) (hno : ∀ j, j < l.length → (l.getD j (0, 0)).1 ≠ k) :
    Calls Try.prog 28 #[.pointer (some ⟨p, 0, none⟩), .int .i64 k] w fun e w' => e = .returned (.int .i64 (-1)) ∧ w = w' := by
  obtain ⟨a, cap, rfl⟩ := h.own.of_any
  have q1 := h.blk.cell 1
  simp at q1
  have HO := Lib.hid h.own
  have HN := Lib.hid hno
  clear h hno
  go_enter Try.func28, Try.ntmps28
  go_wp2
  go_loop [5] (fun i => ∃ j : Nat, j ≤ l.length ∧ i = .int .i64 j)
    (fun i => l.length - (intOf i).toNat)
  case atStart => exact ⟨0, by omega, rfl⟩
  case round =>
    obtain ⟨j, hj, rfl⟩ := hrel
    by_cases hlt : j < l.length
    · obtain ⟨g, rfl, hg, c1, _⟩ := rown_at HO.out hlt
      have j0 : (0 : Int) ≤ (j : Int) := by omega
      have j1 : (j : Int) < (l.length : Int) := by omega
      have hne : ((l.getD j (0, 0)).1 == k) = false := by have := HN.out j hlt; simpa using this
      generalize (l.getD j (0, 0)).1 = y at *
      go_wp2
      go_round
      case rel => exact ⟨j + 1, by omega, by go_num⟩
      case measure => simp [intOf]; omega
    · go_wp2
      go_ret
      exact ⟨rfl, rfl⟩

/-- The first j without the one at i. -/
def wj (l : List Th) (i : Nat) : Nat → List Th
  | 0 => []
  | j + 1 => if j = i then wj l i j else wj l i j ++ [l.getD j (0, 0)]
theorem wj_low (l : List Th) (i : Nat) : ∀ j, j ≤ i → j ≤ l.length → wj l i j = l.take j
  | 0, _, _ => by simp [wj]
  | j + 1, h, h2 => by
    unfold wj
    rw [if_neg (by omega), wj_low l i j (by omega) (by omega), List.take_succ_eq_append_getElem (by omega)]
    simp [List.getD_eq_getElem?_getD, show j < l.length by omega]
theorem wj_high (l : List Th) (i : Nat) (hi : i < l.length) : ∀ d, i + 1 + d ≤ l.length → wj l i (i + 1 + d) = l.take i ++ (l.take (i + 1 + d)).drop (i + 1)
  | 0, _ => by
    unfold wj
    rw [if_pos rfl, wj_low l i i (Nat.le_refl _) (by omega)]
    simp
  | d + 1, h => by
    rw [show i + 1 + (d + 1) = (i + 1 + d) + 1 by omega]
    unfold wj
    rw [if_neg (by omega), wj_high l i hi d (by omega), List.append_assoc]
    congr 1
    rw [List.take_succ_eq_append_getElem (show i + 1 + d < l.length by omega), List.drop_append_of_le_length (by rw [List.length_take]; omega)]
    simp [List.getD_eq_getElem?_getD, show i + 1 + d < l.length by omega]
theorem wj_all (l : List Th) (i : Nat) (hi : i < l.length) : wj l i l.length = l.take i ++ l.drop (i + 1) := by
  obtain ⟨d, hd⟩ : ∃ d, l.length = i + 1 + d := ⟨l.length - (i + 1), by omega⟩
  have := wj_high l i hi d (by omega)
  rw [← hd, List.take_length] at this
  exact this
theorem wj_len (l : List Th) (i : Nat) : ∀ j, (wj l i j).length ≤ j
  | 0 => by simp [wj]
  | j + 1 => by
    have := wj_len l i j
    unfold wj
    split
    · omega
    · simp; omega

theorem info62z : (Try.prog.info? 62).map (fun i => (i.zero, i.size, i.bytes)) = some (some (.agg #[.int .i64 0, .int .i64 0]), 2, 16) := by kernel_rfl
theorem flat_snoc (l : List Th) (x : Th) : flat l ++ [.int .i64 x.1, .int .i64 x.2] = flat (l ++ [x]) := by rw [flat_app]; rfl

/-- A row of the reference's things in new memory. -/
def NewItems (l : List Th) (w : World) (e : Ending) (w' : World) : Prop :=
  ∃ s, e = .returned s ∧ Own w' 62 2 s l.length (flat l) ∧ (∀ b, s.ownBlock = some b → w.heap.size ≤ b) ∧ Below w.heap.size w w'

set_option maxHeartbeats 2000000 in
theorem without_any (p : Nat) (s : Value) (room : Int) (l : List Th) (i : Nat) (w : World) (h : Rch w p s room l) (hl : l.length ≤ 1000000) (hi : i < l.length) :
    Calls Try.prog 43 #[.pointer (some ⟨p, 0, none⟩), .int .i64 i] w (NewItems (l.take i ++ l.drop (i + 1)) w) := by
  obtain ⟨i0, hi0, hz0, hz1, hz2⟩ := info_parts info62z
  obtain ⟨a, cap, rfl⟩ := h.own.of_any
  have q1 := h.blk.cell 1
  simp at q1
  have hp := h.blk.lt
  have HO := Lib.hid h.own
  have HW := Lib.hid (wj_all l i hi)
  clear h
  go_enter Try.func43, Try.ntmps43
  go_wp2
  go_loopw [5, 6] (fun o j wr => ∃ k : Nat, k ≤ l.length ∧ j = .int .i64 k ∧ Own wr 62 2 o (wj l i k).length (flat (wj l i k)) ∧ (∀ b, o.ownBlock = some b → w.heap.size ≤ b) ∧ Below w.heap.size w wr)
    (fun _ j _ => l.length - (intOf j).toNat)
  case atStart => exact ⟨0, by omega, rfl, Own.nil _ _ _, fun b h => by simp [Value.ownBlock] at h, Below.refl _ _⟩
  case round =>
    obtain ⟨k, hk, rfl, ho, hge, hb⟩ := hrel
    have OO := Lib.hid ho
    have HGE := Lib.hid hge
    have HB := Lib.hid hb
    have q1' := (hb.cell (p := ⟨p, 1, none⟩) hp).trans q1
    clear ho hge hb
    by_cases hlt : k < l.length
    · obtain ⟨g, rfl, hg, c1, c2⟩ := rown_at HO.out hlt
      replace c1 := (HB.out.cell (p := ⟨g, k * 2, none⟩) hg).trans c1
      replace c2 := (HB.out.cell (p := ⟨g, k * 2 + 1, none⟩) hg).trans c2
      have k0 : (0 : Int) ≤ (k : Int) := by omega
      have k1 : (k : Int) < (l.length : Int) := by omega
      by_cases he : k = i
      · have hbe : ((k : Int) != (i : Int)) = false := by simp [he]
        have HS := Lib.hid (show wj l i (k + 1) = wj l i k from if_pos he)
        clear he
        go_wp2
        go_roundw
        case rel => exact ⟨k + 1, by omega, by go_num, by rw [HS.out]; exact OO.out, HGE.out, HB.out⟩
        case measure => simp [intOf]; omega
      · have hbe : ((k : Int) != (i : Int)) = true := by simp; omega
        have HS := Lib.hid (show wj l i (k + 1) = wj l i k ++ [l.getD k (0, 0)] from if_neg he)
        have HLN := Lib.hid (wj_len l i k)
        generalize l.getD k (0, 0) = v at *
        obtain ⟨vk, vv⟩ := v
        simp only at c1 c2
        have HLN2 := Lib.hid (show (wj l i k).length + 1 ≤ 1000001 by have := HLN.out; omega)
        obtain ⟨ao, co, rfl⟩ := OO.out.of_any
        clear he
        go_wp2_with (at_builtin; refine wpList_append_fresh _ rfl _ _ 57 rfl 62 i0 (.agg #[.int .i64 0, .int .i64 0]) 2 16 Try.underlying57 hi0 hz0 hz1 hz2 rfl (by decide) _ _ _ rfl (OO.out.alloc _) (some ⟨wr.heap.size, 0, none⟩) 1 1 [.int .i64 vk, .int .i64 vv] rfl rfl (fun _ => ⟨_, rfl, cells_two _ _ _ _⟩) (by simp [Value.oneCell']) (by have := HLN2.out; simp only [maxLen]; omega) (by have := HLN2.out; omega) ?_; intro v' w2 ho2 hg2 hf2)
        have HB2 := Lib.hid ((HB.out.alloc HB.out.size (.cells #[.int .i64 vk, .int .i64 vv] 62)).trans (((Kept.refl (fun b => (Value.slice ao (wj l i k).length co).ownBlock = some b) _).grown hg2 (fun k e => .inl e)).below (fun b _ hb => HGE.out b hb) (by have := HB.out.size; simp only [World.size_alloc]; omega)))
        have HGE2 := Lib.hid (show ∀ b, v'.ownBlock = some b → w.heap.size ≤ b from fun b hb => (hf2 b hb).elim (HGE.out b) (fun e => by have := HB.out.size; simp only [World.size_alloc] at e; omega))
        have HO2 := Lib.hid (show Own w2 62 2 v' (wj l i k ++ [(vk, vv)]).length (flat (wj l i k ++ [(vk, vv)])) by rw [← flat_snoc, List.length_append]; exact ho2)
        clear ho2 hg2 hf2
        go_wp2_with fail
        go_roundw
        case rel => exact ⟨k + 1, by omega, by go_num, by rw [HS.out]; exact HO2.out, HGE2.out, HB2.out⟩
        case measure => simp [intOf]; omega
    · obtain rfl : k = l.length := by omega
      rw [HW.out] at OO
      go_wp2
      go_ret
      exact ⟨_, rfl, OO.out, HGE.out, HB.out⟩

/-- What 'first' leaves. -/
def FirstPost (p : Nat) (room : Int) (l : List Th) (w : World) (e : Ending) (w' : World) : Prop :=
  ∃ s', e = .returned (.tuple #[]) ∧ Rch w' p s' room l ∧ Kept (fun b => b = p) w w' ∧ (∀ b, s'.ownBlock = some b → w.heap.size ≤ b)

set_option maxHeartbeats 2000000 in
theorem first_any (p : Nat) (s : Value) (room : Int) (l l2 : List Th) (x : Th) (a : Option Addr) (n cap : Nat) (w : World) (h : Rch w p s room l) (hl : l2.length ≤ 1000000) (hn : l2.length = n) (h2 : Own w 62 2 (.slice a n cap) n (flat l2)) :
    Calls Try.prog 42 #[.pointer (some ⟨p, 0, none⟩), .agg #[.int .i64 x.1, .int .i64 x.2], .slice a n cap] w (FirstPost p room (x :: l2) w) := by
  obtain ⟨i0, hi0, hz0, hz1, hz2⟩ := info_parts info62z
  obtain ⟨x1, x2⟩ := x
  have hp := h.blk.lt
  have HPB := Lib.hid h.blk
  have q1 := h.blk.cell 1
  have fp := h.blk.frozen 1
  simp at q1
  have HFL := Lib.hid (show (flat l2).length = n * 2 by rw [flat_len, hn])
  have HN := Lib.hid hn
  have HP := Lib.hid (show 0 < n → ∃ a', a = some a' ∧ ∀ j u, (flat l2)[j]? = some u → ((w.alloc (.cells #[.int .i64 x1, .int .i64 x2] 62)).alloc (.cells #[.int .i64 x1, .int .i64 x2] 62)).cell? (a'.add j) = some u from fun h0 => by
    obtain ⟨g, cap', cur, e1, hb, _⟩ := h2.of_pos h0
    simp only [Value.slice.injEq, true_and] at e1
    obtain ⟨rfl, rfl⟩ := e1
    refine ⟨_, rfl, fun j u hu => ?_⟩
    have c1 := World.ownsRow.cells h2 (g := g) rfl _ _ hu
    exact (Below.cell (B := w.heap.size) (((Below.refl _ w).alloc (Nat.le_refl _) _).alloc (by simp) _) (p := (⟨g, 0, none⟩ : Addr).add j) (by rw [Addr.add_lit]; exact hb.lt)).trans c1)
  have HM := Lib.hid (show Own ((w.alloc (.cells #[.int .i64 x1, .int .i64 x2] 62)).alloc (.cells #[.int .i64 x1, .int .i64 x2] 62)) 62 2 (.slice (some ⟨w.heap.size + 1, 0, none⟩) 1 1) 1 [.int .i64 x1, .int .i64 x2] from
    Own.mk (cur := #[.int .i64 x1, .int .i64 x2]) (by have := Blk.new (w.alloc (.cells #[.int .i64 x1, .int .i64 x2] 62)) 62 #[.int .i64 x1, .int .i64 x2]; simpa using this) (by omega) (by omega) rfl rfl)
  have hnl : n ≤ 1000000 := by omega
  have HB0 := Lib.hid (show Below w.heap.size w ((w.alloc (.cells #[.int .i64 x1, .int .i64 x2] 62)).alloc (.cells #[.int .i64 x1, .int .i64 x2] 62)) from ((Below.refl _ w).alloc (Nat.le_refl _) _).alloc (by simp) _)
  clear h h2 hn hl
  go_enter Try.func42, Try.ntmps42
  go_wp2_with (at_builtin; refine wpList_append_fresh _ rfl (.tmp 10) (.tmp 11) 57 rfl 62 i0 (.agg #[.int .i64 0, .int .i64 0]) 2 16 Try.underlying57 hi0 hz0 hz1 hz2 rfl (by decide) (.slice (some ⟨w.heap.size + 1, 0, none⟩) 1 1) 1 [.int .i64 x1, .int .i64 x2] rfl HM.out a n cap (flat l2) rfl HFL.out HP.out (flat_one l2) (by simp only [maxLen]; omega) (by omega) ?_; intro s' w2 ho hg hf; have hk1 := (Kept.refl (fun b => (Value.slice (some ⟨w.heap.size + 1, 0, none⟩) 1 1).ownBlock = some b) _).grown hg (fun k e => .inl e); have hb2 := HB0.out.trans (hk1.below (B := w.heap.size) (fun b _ hb => by simp [Value.ownBlock] at hb; omega) HB0.out.size); have kb := HPB.out.below hb2 hp; have k1 := kb.cell 1; have f1 := kb.frozen 1; simp at k1; have HB := Lib.hid hb2; have HF := Lib.hid (show ∀ b, s'.ownBlock = some b → w.heap.size ≤ b from fun b hb => (hf b hb).elim (fun e => by simp [Value.ownBlock] at e; omega) (fun e => Nat.le_trans HB0.out.size e)); have KB := Lib.hid kb; clear hg hf hk1 hb2 kb; obtain ⟨a', c', rfl⟩ := ho.of_any; have HO := Lib.hid ho; clear ho)
  go_wp2_with fail
  go_returns
  have hne : (Value.slice a' (1 + n) c').ownBlock ≠ some p := fun e => by have := HF.out p e; omega
  refine ⟨.slice a' (1 + n) c', rfl, ⟨by simpa using KB.out.set_ 1 (.slice a' (1 + n) c'), ?_, hne⟩, ?_, HF.out⟩
  · have := HO.out.kept (S := fun b => b = p) ((Kept.refl (fun b => b = p) w2).setCell (p := ⟨p, 1, none⟩) (.inl rfl) (.slice a' (1 + n) c')) (fun b hb e => hne (e ▸ hb))
    rw [show ((x1, x2) :: l2).length = 1 + n by rw [List.length_cons, HN.out]; omega]
    exact this
  · exact (Kept.of_fresh HB.out (fun b => b = p)).setCell (p := ⟨p, 1, none⟩) (.inl rfl) _
end Go.Proofs.Ytoecclpfgdfpoaa
