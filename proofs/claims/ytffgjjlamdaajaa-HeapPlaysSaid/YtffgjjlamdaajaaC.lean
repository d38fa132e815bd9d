/- A thing rises to its place: what is left. -/
import Derived.Test.YtffgjjlamdaajaaB
import Derived.StillTailTactics
import Derived.Deep.LoopGhost
namespace Go.Proofs.Ytffgjjlamdaajaa
open Go.RowKit

theorem drewN_below (w : World) (n : Nat) : Below w.heap.size w (w.drewN n) := ⟨rfl, rfl, rfl, Nat.le_refl _, fun _ _ => rfl⟩

/-- What stands while a thing rises or sinks. -/
structure Mid (w0 w : World) (p : Nat) (s : Value) (m : Nat) (l0 l : List Th) (f : Int → Option Int) : Prop where
  h : H0 w p s m l f
  at_ : At l f
  perm : l.Perm l0
  kept : Kept (O p s m) w0 w

theorem Mid.len {w0 w : World} {p : Nat} {s : Value} {m : Nat} {l0 l : List Th} {f : Int → Option Int} (h : Mid w0 w p s m l0 l f) : l.length = l0.length := h.perm.length_eq
theorem Mid.fresh {w0 w w' : World} {p : Nat} {s : Value} {m : Nat} {l0 l : List Th} {f : Int → Option Int} (h : Mid w0 w p s m l0 l f) (hb : Below w.heap.size w w') : Mid w0 w' p s m l0 l f :=
  ⟨h.h.fresh hb, h.at_, h.perm, h.kept.trans (Kept.of_fresh hb (O p s m)) (fun _ e => .inl e)⟩
theorem Mid.drew {w0 w : World} {p : Nat} {s : Value} {m : Nat} {l0 l : List Th} {f : Int → Option Int} (h : Mid w0 w p s m l0 l f) : Mid w0 w.drew p s m l0 l f :=
  ⟨⟨h.h.blk, h.h.own, h.h.map, h.h.ne1, h.h.ne2, h.h.ne3⟩, h.at_, h.perm, h.kept.drew⟩
theorem Mid.swapped {w0 w w' : World} {p : Nat} {s : Value} {m : Nat} {l0 l : List Th} {f : Int → Option Int} {i k : Nat} {e : Ending} (h : Mid w0 w p s m l0 l f) (hi : i < l.length) (hk : k < l.length) (hs : SwapPost p s m l f i k w e w') :
    Mid w0 w' p s m l0 (swp l i k) (upd (upd f (g l k).1 (some i)) (g l i).1 (some k)) :=
  ⟨hs.2.1, h.at_.swp hi hk, (swp_perm l hi hk).trans h.perm, h.kept.trans hs.2.2 (fun _ e => .inl e)⟩

/-- What rise and sink leave. -/
def DonePost (p : Nat) (s : Value) (m : Nat) (l0 : List Th) (w : World) (e : Ending) (w' : World) : Prop :=
  e = .returned (.tuple #[]) ∧ ∃ l f, Mid w w' p s m l0 l f ∧ Heaped l

theorem swap_mid {w0 w : World} {p b n cap m : Nat} {l0 l : List Th} {f : Int → Option Int} (h : Mid w0 w p (.slice (some ⟨b, 0, none⟩) n cap) m l0 l f) (hn : l.length = n) (hl : n ≤ 1000000) {i k : Nat} (hi : i < n) (hk : k < n) :
    Calls Try.prog 30 #[.pointer (some ⟨p, 0, none⟩), .int .i64 i, .int .i64 k] w fun e w' => e = .returned (.tuple #[]) ∧ ∃ f', Mid w0 w' p (.slice (some ⟨b, 0, none⟩) n cap) m l0 (swp l i k) f' := by
  subst hn
  exact (swap_two p b cap m l f i k w h.h hl hi hk h.at_).mono fun e w' hs => ⟨hs.1, _, h.swapped hi hk hs⟩

theorem Mid.cells {w0 w : World} {p b n cap m : Nat} {l0 l : List Th} {f : Int → Option Int} (h : Mid w0 w p (.slice (some ⟨b, 0, none⟩) n cap) m l0 l f) {j : Nat} (hj : j < l.length) : At5 w b j (g l j) := own_cells h.h.own hj

set_option maxHeartbeats 2000000 in
theorem rise_any (p b n cap m : Nat) (l0 : List Th) (f0 : Int → Option Int) (i : Nat) (w : World) (hn : l0.length = n) (h : H0 w p (.slice (some ⟨b, 0, none⟩) n cap) m l0 f0) (hl : n ≤ 1000000) (hi : i < n) (hA : At l0 f0) (hR : Rises l0 i) :
    Calls Try.prog 27 #[.pointer (some ⟨p, 0, none⟩), .int .i64 i] w (DonePost p (.slice (some ⟨b, 0, none⟩) n cap) m l0 w) := by
  have HM0 := Lib.hid (show Mid w w p (.slice (some ⟨b, 0, none⟩) n cap) m l0 l0 f0 from ⟨h, hA, .refl _, Kept.refl _ _⟩)
  have HR0 := Lib.hid hR
  have HN := Lib.hid hn
  clear h hA hR hn
  go_enter Try.func27, Try.ntmps27
  go_wp2_with fail
  go_loopw [1] (fun i wr => ∃ (q : Nat) (l : List Th) (f : Int → Option Int), i = .int .i64 q ∧ q < n ∧ Hid (Mid w wr p (.slice (some ⟨b, 0, none⟩) n cap) m l0 l f) ∧ Hid (Rises l q))
    (fun i _ => (intOf i).toNat)
  case atStart => exact ⟨i, l0, f0, rfl, hi, HM0, HR0⟩
  case round =>
    obtain ⟨q, l, f, rfl, hq, HM, HR⟩ := hrel
    have HL := Lib.hid (HM.out.len.trans HN.out)
    have q0 := HM.out.h.blk.cell 0
    simp at q0
    by_cases h0 : q = 0
    · subst h0
      go_wp2_with fail
      go_quiet (fail)
      go_wp2_with fail
      go_end0
      exact ⟨rfl, l, f, HM.out.fresh (drewN_below _ _), HR.out.done (.inl rfl)⟩
    · have h1 : (0 : Int) < (q : Int) := by omega
      have q1 : (q : Int) < (n : Int) := by omega
      have q2 : (0 : Int) ≤ (q : Int) := by omega
      obtain ⟨a, ha⟩ : ∃ a, a = (q - 1) / 2 := ⟨_, rfl⟩
      have w1 : IntKind.i64.wrap ((q : Int) - 1) = ((q - 1 : Nat) : Int) := by rw [IntWalk.i64_in _ (by omega)]; omega
      have e2 : ((q - 1 : Nat) : Int).tdiv 2 = (a : Int) := by rw [ha]; exact (Int.ofNat_tdiv (q - 1) 2).symm
      have w2 : IntKind.i64.wrap (a : Int) = (a : Int) := IntWalk.i64_in _ (by omega)
      have a1 : (a : Int) < (n : Int) := by omega
      have a2 : (0 : Int) ≤ (a : Int) := by omega
      obtain ⟨c0, c1, c2, c3, c4⟩ := HM.out.cells (j := q) (by rw [HL.out]; exact hq)
      obtain ⟨d0, d1, d2, d3, d4⟩ := HM.out.cells (j := a) (by rw [HL.out]; omega)
      have HC := Lib.hid (fun W => ahead_any (g l q) (g l a) W)
      have hd : decide (0 < q) = true := by simp; omega
      generalize hx : g l q = x at *
      generalize hy : g l a = y at *
      have HX := Lib.hid hx
      have HY := Lib.hid hy
      have HA := Lib.hid ha
      clear hx hy ha
      go_wp2_with fail
      go_still_tail 19, (by kernel_rfl)
      change wpList _ _ _ _ _ wr.drew
      go_wp2_with fail
      refine (HC.out _).mono ?_
      rintro e w1' ⟨rfl, hb⟩
      have M1 := Lib.hid (HM.out.drew.fresh hb)
      clear hb
      have haq : a < n := by omega
      cases hah : ahead x y
      · have HL2 := Lib.hid ((ahead_false x y).1 hah)
        clear c0 c1 c2 c3 c4 d0 d1 d2 d3 d4
        go_wp2_with fail
        go_end0
        refine ⟨rfl, l, f, M1.out, HR.out.done (.inr ?_)⟩
        rw [← HA.out, HX.out, HY.out]
        exact HL2.out
      · have HL2 := Lib.hid ((ahead_iff x y).1 hah)
        clear c0 c1 c2 c3 c4 d0 d1 d2 d3 d4
        go_wp2_with fail
        refine (swap_mid M1.out HL.out hl hq haq).mono ?_
        rintro e w2' ⟨rfl, f', hm2⟩
        have M2 := Lib.hid hm2
        clear hm2
        have R2 := Lib.hid (show Rises (swp l q a) a by
          have := HR.out.step (by rw [HL.out]; exact hq) (by omega) (by rw [← HA.out, HX.out, HY.out]; exact HL2.out)
          rw [← HA.out] at this
          exact this)
        go_wp2_with fail
        go_roundw
        case rel => exact ⟨a, swp l q a, f', by go_num, haq, M2, R2⟩
        case measure => have := HA.out; simp [intOf]; omega
end Go.Proofs.Ytffgjjlamdaajaa
