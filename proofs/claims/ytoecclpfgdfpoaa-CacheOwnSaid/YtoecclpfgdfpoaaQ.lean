/- A clone of a cache: what it returns; and what calls on a nil cache return. -/
import Derived.Test.YtoecclpfgdfpoaaK
import Derived.StillTailTactics
namespace Go.Proofs.Ytoecclpfgdfpoaa
open Go.RowKit

/-- A row of things in new memory. -/
def NewThings (l : List Th) (w : World) (e : Ending) (w' : World) : Prop :=
  ∃ s, e = .returned s ∧ Own w' 77 2 s l.length (flat l) ∧ (∀ b, s.ownBlock = some b → w.heap.size ≤ b) ∧ Below w.heap.size w w'

theorem src_of {w : World} {a : Option Addr} {cap : Nat} {l : List Th} (h : Own w 77 2 (.slice a l.length cap) l.length (flat l)) : 0 < l.length → ∃ a', a = some a' ∧ a'.block < w.heap.size ∧ ∀ j u, (flat l)[j]? = some u → w.cell? (a'.add j) = some u := by
  intro h0
  obtain ⟨g, cap', e1, hg⟩ := of_pos h h0
  simp only [Value.slice.injEq, true_and] at e1
  obtain ⟨rfl, rfl⟩ := e1
  exact ⟨_, rfl, hg, World.ownsRow.cells h (g := g) rfl⟩

set_option maxHeartbeats 1000000 in
theorem sclone_any (a : Option Addr) (cap : Nat) (l : List Th) (w : World) (h : Own w 77 2 (.slice a l.length cap) l.length (flat l)) (hl : l.length ≤ 1000000) :
    Calls Try.prog 41 #[.slice a l.length cap] w (NewThings l w) := by
  obtain ⟨i0, hi0, hz0, hz1, hz2⟩ := info_parts info77z
  have HS := Lib.hid (src_of h)
  have HO := Lib.hid h
  by_cases hn : (Value.slice a l.length cap) = .slice none 0 0
  · simp only [Value.slice.injEq] at hn
    obtain ⟨rfl, h0, rfl⟩ := hn
    obtain rfl : l = [] := List.eq_nil_of_length_eq_zero h0
    clear h
    have q70 : ∀ (w : World) (a : Option Addr) (n c n' c' : Nat), (binOp .eql 70 (.slice a n c) (.slice none n' c')).run Try.prog w = .ok (.bool a.isNone) w := fun w a n c n' c' => Lib.run_eql_slice_nil w _ _ a n c n' c' Try.underlying70
    go_enter Try.func41, Try.ntmps41
    go_wp2
    go_ret
    exact ⟨_, rfl, Own.nil _ _ _, fun b hb => by simp [Value.ownBlock] at hb, by go_grown⟩
  · obtain ⟨g, rfl⟩ : ∃ g, a = some g := by
      cases a with
      | some g => exact ⟨g, rfl⟩
      | none =>
        exfalso
        rcases h.2 with ⟨e, _⟩ | ⟨g, cap', cur, e, _⟩
        · exact hn e
        · simp at e
    clear h hn
    have q70 : ∀ (w : World) (a : Option Addr) (n c n' c' : Nat), (binOp .eql 70 (.slice a n c) (.slice none n' c')).run Try.prog w = .ok (.bool a.isNone) w := fun w a n c n' c' => Lib.run_eql_slice_nil w _ _ a n c n' c' Try.underlying70
    go_enter Try.func41, Try.ntmps41
    have HP := Lib.hid (show 0 < l.length → ∃ a', some g = some a' ∧ ∀ j u, (flat l)[j]? = some u → (w.alloc (.cells #[] 77)).cell? (a'.add j) = some u from fun h0 => ⟨g, rfl, fun j u hu => by
      obtain ⟨a', e1, e2, e3⟩ := HS.out h0
      cases e1
      exact (Below.cell (B := w.heap.size) ((Below.refl _ w).alloc (Nat.le_refl _) _) (p := g.add j) (by rw [show (g.add j).block = g.block by unfold Addr.add; split <;> rfl]; exact e2)).trans (e3 j u hu)⟩)
    have HM := Lib.hid (show Own (w.alloc (.cells #[] 77)) 77 2 (.slice (some ⟨w.heap.size, 0, none⟩) 0 0) 0 [] from World.ownsRow_made w _ 0 (Nat.zero_le _) (by simp [maxLen]) (by simp))
    have HFL := Lib.hid (flat_len l)
    go_wp2_with (at_builtin; refine wpList_append_fresh _ rfl (.tmp 5) (.tmp 6) 70 rfl 77 i0 (.agg #[.int .i64 0, .int .i64 0]) 2 16 Try.underlying70 hi0 hz0 hz1 hz2 rfl (by decide) (.slice (some ⟨w.heap.size, 0, none⟩) 0 0) 0 [] rfl HM.out (some g) l.length cap (flat l) rfl HFL.out HP.out (flat_one l) (by simp [maxLen]; omega) (by omega) ?_; intro s' w2 ho hg hf)
    have HO2 := Lib.hid (show Own w2 77 2 s' l.length (flat l) by simpa using ho)
    have HF := Lib.hid (show ∀ b, s'.ownBlock = some b → w.heap.size ≤ b from fun b hb => (hf b hb).elim (fun e => by simp [Value.ownBlock] at e; omega) (fun e => by simp only [World.size_alloc] at e; omega))
    have HB := Lib.hid (((Below.refl w.heap.size w).alloc (Nat.le_refl _) (.cells #[] 77)).trans (((Kept.refl (fun b => some b = some w.heap.size) _).grown hg (fun k e => .inl e.symm)).below (fun b _ hb => by simp at hb; omega) (by simp)))
    clear ho hg hf
    go_wp2_with fail
    go_ret
    exact ⟨_, rfl, HO2.out, HF.out, HB.out⟩

/-- A new cache with these things. -/
def ClonePost (room : Int) (l : List Th) (w : World) (e : Ending) (w' : World) : Prop :=
  ∃ q t, e = .returned (.pointer (some ⟨q, 0, none⟩)) ∧ Cch w' q t room l ∧ w.heap.size ≤ q ∧ (∀ b, t.ownBlock = some b → w.heap.size ≤ b) ∧ Below w.heap.size w w'

set_option maxHeartbeats 1000000 in
theorem clone_any (p : Nat) (s : Value) (room : Int) (l : List Th) (w : World) (h : Cch w p s room l) (hl : l.length ≤ 1000000) :
    Calls Try.prog 25 #[.pointer (some ⟨p, 0, none⟩)] w (ClonePost room l w) := by
  obtain ⟨a, cap, rfl⟩ := h.own.of_any
  have q0 := h.blk.cell 0
  have q1 := h.blk.cell 1
  simp at q0 q1
  have hp := h.blk.lt
  have HO := Lib.hid h.own
  clear h
  go_enter Try.func25, Try.ntmps25
  go_wp2_with fail
  go_region_with (go_at_call 41; refine (sclone_any a cap l _ (by exact HO.out) hl).mono ?_; rintro e w2 ⟨t, rfl, ho, hf, hb⟩; obtain ⟨a2, c2, rfl⟩ := ho.of_any; have q02 := (hb.cell (p := ⟨p, 0, none⟩) hp).trans q0; have q12 := (hb.cell (p := ⟨p, 1, none⟩) hp).trans q1; have HO2 := Lib.hid ho; have HF := Lib.hid hf; have HB := Lib.hid (show Below w.heap.size w w2 from ((Below.refl _ _).drew).trans hb); clear ho hf hb)
  all_goals
    go_wp2_with fail
    go_ret
    refine ⟨_, .slice a2 l.length c2, rfl, ⟨Blk.new _ _ _, HO2.out.alloc _, ?_⟩, HB.out.size, HF.out, HB.out.alloc HB.out.size _⟩
    intro e
    have := HO2.out.lt e
    omega

set_option maxHeartbeats 400000 in
theorem clone_nil (w : World) : Calls Try.prog 25 #[.pointer none] w fun e w' => e = .returned (.pointer none) ∧ w = w' := by
  go_enter Try.func25, Try.ntmps25
  go_wp2
  go_ret
  exact ⟨rfl, rfl⟩
theorem keys_nil (w : World) : Calls Try.prog 19 #[.pointer none] w fun e w' => e = .returned (.slice none 0 0) ∧ w = w' := by
  go_enter Try.func19, Try.ntmps19
  go_wp2
  go_ret
  exact ⟨rfl, rfl⟩

/-- The last V of a key: the acts are told from the last one on. -/
def la : List Ac → Int → Int
  | [], _ => 0
  | a :: r, k => if a.2.1 = k then a.2.2 else la r k
def lastV (acts : List Ac) (k : Int) : Int := la acts.reverse k
theorem lastV_snoc (acts : List Ac) (a : Ac) (k : Int) : lastV (acts ++ [a]) k = if a.2.1 = k then a.2.2 else lastV acts k := by
  unfold lastV
  rw [List.reverse_append]
  rfl

theorem val_puts (room : Int) (l : List Ac) : ∀ n, n ≤ l.length → ∀ k, k ∈ keys (puts room (l.take n)) → val (puts room (l.take n)) k = lastV (l.take n) k
  | 0, _, k, h => by simp [puts, keys] at h
  | n + 1, hn, k, h => by
    rw [puts_snoc _ _ _ (by omega)] at h ⊢
    rw [val_put h, show l.take (n + 1) = l.take n ++ [l.getD n (0, 0, 0)] by rw [List.take_succ_eq_append_getElem (by omega)]; simp [List.getD_eq_getElem?_getD, show n < l.length by omega], lastV_snoc]
    by_cases e : (l.getD n (0, 0, 0)).2.1 = k
    · rw [if_pos e, if_pos e]
    · rw [if_neg e, if_neg e]
      exact val_puts room l n (by omega) k ((keys_put_mem h).resolve_left (fun e2 => e e2.symm))

theorem la_cons (a : Ac) (r : List Ac) (k : Int) : la (a :: r) k = if a.2.1 = k then a.2.2 else la r k := rfl

set_option maxHeartbeats 2000000 in
theorem last_any (n : Nat) (a : Option Addr) (c : Nat) (l : List Ac) (k z : Int) (w : World) (ha : RowA w a l) (hn : l.length = n) (hl : n ≤ 1000000) (hz : lastV l k = z) :
    Calls Try.prog 26 #[.slice a n c, .int .i64 k] w fun e w' => e = .returned (.int .i64 z) ∧ w' = w := by
  have HA := Lib.hid ha
  have HN := Lib.hid hn
  have HT := Lib.hid (fun m hm => take_rev l m (0, 0, 0) hm)
  have HT2 := Lib.hid (show la (l.take n).reverse k = z by rw [← hn, List.take_length]; exact hz)
  clear ha hn hz
  go_enter Try.func26, Try.ntmps26
  go_wp2
  go_loop [5] (fun i => ∃ m : Nat, m ≤ n ∧ i = .int .i64 ((m : Int) - 1) ∧ la (l.take m).reverse k = z)
    (fun i => (intOf i + 1).toNat)
  case atStart => exact ⟨n, by omega, by go_num, HT2.out⟩
  case round =>
    obtain ⟨m, hm, rfl, hg⟩ := hrel
    have HG := Lib.hid hg
    clear hg HT2
    by_cases h0 : m = 0
    · subst h0
      have HZ := Lib.hid (show z = 0 from HG.out.symm)
      have e1 : ((0 : Nat) : Int) - 1 = -1 := rfl
      rw [e1]
      clear e1
      go_wp2
      go_ret
      exact ⟨by rw [HZ.out]; rfl, rfl⟩
    · obtain ⟨m, rfl⟩ : ∃ q, m = q + 1 := ⟨m - 1, by omega⟩
      have e1 : ((m + 1 : Nat) : Int) - 1 = (m : Int) := by omega
      rw [e1]
      clear e1
      have hmx : m < n := by omega
      have m0 : (0 : Int) ≤ (m : Int) := by omega
      have m1 : (m : Int) < (n : Int) := by omega
      obtain ⟨b, off, rfl, hbw, q0, q1, q2⟩ := HA.out.at_ (Below.refl _ _) (show m < l.length by rw [HN.out]; exact hmx)
      have HG2 := Lib.hid (show la (l.getD m (0, 0, 0) :: (l.take m).reverse) k = z by rw [← HT.out m (by rw [HN.out]; exact hmx)]; exact HG.out)
      generalize l.getD m (0, 0, 0) = x at *
      obtain ⟨x0, x1, x2⟩ := x
      simp only at q0 q1 q2
      by_cases ck : x1 = k
      · have HG3 := Lib.hid (show z = x2 by rw [← HG2.out, la_cons]; simp [ck])
        have dk : (x1 == k) = true := by simpa using ck
        clear ck
        go_wp2
        go_ret
        exact ⟨by rw [HG3.out]; rfl, rfl⟩
      · have HG3 := Lib.hid (show la (l.take m).reverse k = z by rw [← HG2.out, la_cons]; simp [ck])
        have dk : (x1 == k) = false := by simpa using ck
        clear ck
        go_wp2
        go_round
        case rel => exact ⟨m, by omega, by go_num, HG3.out⟩
        case measure => simp [intOf]
end Go.Proofs.Ytoecclpfgdfpoaa
