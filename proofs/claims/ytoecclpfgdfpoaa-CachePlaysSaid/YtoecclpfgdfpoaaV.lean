/- Drop, and the law's own divisor and remainder: what each function returns, and what the cache holds then. -/
import Derived.Test.YtoecclpfgdfpoaaT
namespace Go.Proofs.Ytoecclpfgdfpoaa
open Go.RowKit

/-- The remainder, none below 0. -/
def rmd (k d : Int) : Int := (k.tmod d + d).tmod d
theorem rmd_bd (k : Int) {d : Int} (h : 1 ≤ d) : 0 ≤ k.tmod d + d ∧ k.tmod d + d ≤ 2 * d ∧ 0 ≤ rmd k d ∧ rmd k d < d ∧ -d < k.tmod d ∧ k.tmod d < d := by
  have h1 : k.tmod d < d := Int.tmod_lt_of_pos k (by omega)
  have h2 : -d < k.tmod d := by
    have := Int.lt_tmod_of_pos k (show 0 < d by omega)
    omega
  have h3 : rmd k d < d := Int.tmod_lt_of_pos _ (by omega)
  have h4 : 0 ≤ rmd k d := Int.tmod_nonneg _ (by omega)
  exact ⟨by omega, by omega, h4, h3, h2, h1⟩

theorem rmd_mod (k : Int) {d : Int} (h : 1 ≤ d) : rmd k d = k.tmod d % d := by
  obtain ⟨b1, _⟩ := rmd_bd k h
  unfold rmd
  rw [Int.tmod_eq_emod_of_nonneg b1, Int.add_emod_right]

set_option maxHeartbeats 1000000 in
theorem rem35 (a b : Nat) (d left k : Int) (w : World) (h1 : 1 ≤ d) (h2 : d ≤ 5) (ha : w.cell? ⟨a, 0, none⟩ = some (.int .i64 d)) (hb : w.cell? ⟨b, 0, none⟩ = some (.int .i64 left)) :
    Calls Try.prog 35 #[.int .i64 k, .pointer (some ⟨a, 0, none⟩), .pointer (some ⟨b, 0, none⟩)] w fun e w' => e = .returned (.bool (rmd k d == left)) ∧ Below w.heap.size w w' := by
  obtain ⟨b1, b2, b3, b4, b5, b6⟩ := rmd_bd k h1
  have HZ := Lib.hid (rmd_mod k h1)
  have hne : ¬ d = 0 := by omega
  have hne2 : ¬ d = -1 := by omega
  generalize rmd k d = z at *
  generalize hq : k.tmod d = q at *
  have hw : IntKind.i64.wrap (q + d) = q + d := IntWalk.i64_in _ (by omega)
  go_enter Try.func35, Try.ntmps35
  go_wp2_with fail
  go_quiet (fail)
  go_wp2_with fail
  go_ret
  exact ⟨by rw [HZ.out]; rfl, drewN_below _ _⟩

set_option maxHeartbeats 1000000 in
theorem rem31 (a b : Nat) (d left k : Int) (w : World) (h1 : 1 ≤ d) (h2 : d ≤ 5) (ha : w.cell? ⟨a, 0, none⟩ = some (.int .i64 d)) (hb : w.cell? ⟨b, 0, none⟩ = some (.int .i64 left)) :
    Calls Try.prog 31 #[.int .i64 k, .pointer (some ⟨a, 0, none⟩), .pointer (some ⟨b, 0, none⟩)] w fun e w' => e = .returned (.bool (rmd k d == left)) ∧ Below w.heap.size w w' := by
  obtain ⟨b1, b2, b3, b4, b5, b6⟩ := rmd_bd k h1
  have HZ := Lib.hid (rmd_mod k h1)
  have hne : ¬ d = 0 := by omega
  have hne2 : ¬ d = -1 := by omega
  generalize rmd k d = z at *
  generalize hq : k.tmod d = q at *
  have hw : IntKind.i64.wrap (q + d) = q + d := IntWalk.i64_in _ (by omega)
  go_enter Try.func31, Try.ntmps31
  go_wp2_with fail
  go_quiet (fail)
  go_wp2_with fail
  go_ret
  exact ⟨by rw [HZ.out]; rfl, drewN_below _ _⟩

theorem calls35 (c d : Value) (k : Int) (W : World) : (callFunc 35 #[.int .i64 k, c, d]).run Try.prog W = .ok (.enter 35 #[.int .i64 k, c, d]) W := by kernel_rfl
theorem calls31 (c d : Value) (k : Int) (W : World) : (callFunc 31 #[.int .i64 k, c, d]).run Try.prog W = .ok (.enter 31 #[.int .i64 k, c, d]) W := by kernel_rfl

set_option maxHeartbeats 1000000 in
theorem by_any (x0 k v : Int) (w : World) : Calls Try.prog 29 #[.agg #[.int .i64 x0, .int .i64 k, .int .i64 v]] w fun e w' => e = .returned (.tuple #[.int .i64 (rmd k 5 + 1), .int .i64 (rmd v (rmd k 5 + 1))]) ∧ Below w.heap.size w w' := by
  obtain ⟨a1, a2, a3, a4, a5, a6⟩ := rmd_bd k (show (1 : Int) ≤ 5 by omega)
  obtain ⟨b1, b2, b3, b4, b5, b6⟩ := rmd_bd v (show (1 : Int) ≤ rmd k 5 + 1 by omega)
  have HZ2 := Lib.hid (rmd_mod v (show (1 : Int) ≤ rmd k 5 + 1 by omega))
  have e1 := rmd_mod k (show (1 : Int) ≤ 5 by omega)
  generalize hq : k.tmod 5 = q at *
  generalize rmd k 5 = z at *
  have hz : q % 5 = z := e1.symm
  clear e1
  generalize hr : v.tmod (z + 1) = r at *
  generalize rmd v (z + 1) = y at *
  have hw1 : IntKind.i64.wrap (q + 5) = q + 5 := IntWalk.i64_in _ (by omega)
  have hw2 : IntKind.i64.wrap (z + 1) = z + 1 := IntWalk.i64_in _ (by omega)
  have hw3 : IntKind.i64.wrap (r + (z + 1)) = r + (z + 1) := IntWalk.i64_in _ (by omega)
  have hn1 : ¬ z + 1 = 0 := by omega
  have hn2 : ¬ z + 1 = -1 := by omega
  go_enter Try.func29, Try.ntmps29
  go_wp2_with fail
  go_quiet (fail)
  go_wp2_with fail
  go_ret2
  have HY : y = (r + (z + 1)) % (z + 1) := by rw [HZ2.out, Int.add_emod_right]
  exact ⟨by rw [HY]; rfl, below_drewN (by go_grown) _⟩

theorem eqlf (F : Nat) (c d : Value) (w : World) : (binOp .eql 66 (.func (.func F) #[] #[c, d]) .nilFunc).run Try.prog w = .ok (.bool false) w := by kernel_rfl
theorem eqln (w : World) : (binOp .eql 66 .nilFunc .nilFunc).run Try.prog w = .ok (.bool true) w := by kernel_rfl

/-- What Drop leaves. -/
def DropPost (p : Nat) (s : Value) (room : Int) (f : Int → Bool) (l : List Th) (w : World) (e : Ending) (w' : World) : Prop :=
  ∃ s', e = .returned (.int .i64 ((l.length : Int) - ((stay f l).length : Int))) ∧ Cch w' p s' room (stay f l) ∧ Kept (O p s) w w' ∧ Fresh w s s'

theorem stay_len (f : Int → Bool) (l : List Th) : (stay f l).length ≤ l.length := List.length_filter_le _ _

set_option maxHeartbeats 2000000 in
theorem drop_any (F : Nat) (c d : Value) (p : Nat) (s : Value) (room : Int) (f : Int → Bool) (l : List Th) (w : World) (h : Cch w p s room l) (hl : l.length ≤ 1000000)
    (hF : ∀ (k : Int) (W : World), (callFunc F #[.int .i64 k, c, d]).run Try.prog W = .ok (.enter F #[.int .i64 k, c, d]) W) (ha : SuchK F c d (fun b => s.ownBlock = some b) w f) :
    Calls Try.prog 30 #[.pointer (some ⟨p, 0, none⟩), .func (.func F) #[] #[c, d]] w (DropPost p s room f l w) := by
  obtain ⟨a, cap, rfl⟩ := h.own.of_any
  have q1 := h.blk.cell 1
  simp at q1
  have hp := h.blk.lt
  have HPB := Lib.hid h.blk
  have HNE := Lib.hid h.ne
  have HO := Lib.hid (h.own.alloc (.cells #[.func (.func F) #[] #[c, d]] 66))
  have HLT := Lib.hid (fun b hb => h.own.lt (b := b) hb)
  have HA := Lib.hid (hand_any F w.heap.size c d (fun b => (Value.slice a l.length cap).ownBlock = some b) f (w.alloc (.cells #[.func (.func F) #[] #[c, d]] 66)) (by simp) (by simp) (fun e => by have := h.own.lt e; omega) hF
    (fun k W hW => ha k W (((Kept.refl _ w).alloc _).trans hW (fun _ h => .inl h))))
  have HSL := Lib.hid (stay_len f l)
  clear h ha
  have ef := eqlf F c d
  go_enter Try.func30, Try.ntmps30
  go_wp2_with fail
  refine (del_any 45 _ (.slice a l.length cap) f l _ HO.out hl (fun v W => calls45 v _ W) HA.out).mono ?_
  rintro e w1 ⟨s', rfl, ho, hk, hsb⟩
  have hpk : ¬ (Value.slice a l.length cap).ownBlock = some p := HNE.out
  have kb := hk.blk (HPB.out.alloc _) hpk
  have k1 := kb.cell 1
  have f1 := kb.frozen 1
  simp at k1
  obtain ⟨a', c', rfl⟩ := ho.of_any
  have OO := Lib.hid ho
  have KK := Lib.hid (((Kept.refl (fun b => (Value.slice a l.length cap).ownBlock = some b) w).alloc (.cells #[.func (.func F) #[] #[c, d]] 66)).trans hk (fun _ h => .inl h))
  have KB := Lib.hid kb
  have SB := Lib.hid hsb
  have hne : (Value.slice a' (stay f l).length c').ownBlock ≠ some p := fun e => HNE.out (hsb p e)
  have HNE2 := Lib.hid hne
  clear ho hk hsb kb hpk hne
  have hw : IntKind.i64.wrap ((l.length : Int) - ((stay f l).length : Int)) = (l.length : Int) - ((stay f l).length : Int) := by
    have := HSL.out
    rw [IntWalk.i64_in _ (by omega)]
  go_wp2_with fail
  go_ret
  refine ⟨.slice a' (stay f l).length c', rfl, ⟨by simpa using KB.out.set_ 1 (.slice a' (stay f l).length c'), ?_, HNE2.out⟩, ?_, fun b hb => .inl (SB.out b hb)⟩
  · exact OO.out.kept (S := fun b => b = p) ((Kept.refl (fun b => b = p) w1).setCell (p := ⟨p, 1, none⟩) (.inl rfl) _) (fun b hb e => HNE2.out (e ▸ hb))
  · exact (KK.out.mono (T := O p (.slice a l.length cap)) (fun b _ hb => .inr hb)).setCell (p := ⟨p, 1, none⟩) (.inl (.inl rfl)) _

set_option maxHeartbeats 1000000 in
theorem drop_nil (p : Nat) (w : World) : Calls Try.prog 30 #[.pointer (some ⟨p, 0, none⟩), .nilFunc] w fun e w' => e = .returned (.int .i64 0) ∧ Below w.heap.size w w' := by
  have en := eqln
  go_enter Try.func30, Try.ntmps30
  go_wp2_with fail
  go_ret
  exact ⟨rfl, by go_grown⟩
end Go.Proofs.Ytoecclpfgdfpoaa
