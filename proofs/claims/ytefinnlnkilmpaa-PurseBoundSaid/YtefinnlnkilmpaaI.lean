/- The walk of the law PurseBound: for every input it returns true, and writes to new memory alone. No condition. -/
import Derived.Test.YtefinnlnkilmpaaD
import Derived.Test.YtefinnlnkilmpaaOp
import Derived.Deep.RegionHeld3
import Derived.Deep.RegionWith
import Derived.BigQuiet
import Derived.Deep.QuietTactic
import Derived.WalkSmall
namespace Go.Proofs.Ytefinnlnkilmpaa
open Go.RowKit

/-- A list of calls that can be read. -/
def Acts (w : World) (a : Option Addr) (l : List (Bool × Int)) : Prop :=
  l = [] ∨ ∃ b off, a = some ⟨b, off, none⟩ ∧ b < w.heap.size ∧ ∀ i, i < l.length → w.cell? ⟨b, off + i * 2, none⟩ = some (.bool (l.getD i (false, 0)).1) ∧ w.cell? ⟨b, off + i * 2 + 1, none⟩ = some (.int .i64 (l.getD i (false, 0)).2)

theorem Acts.at_ {w : World} {a : Option Addr} {l : List (Bool × Int)} (h : Acts w a l) {k : Nat} (hk : k < l.length) :
    ∃ b off, a = some ⟨b, off, none⟩ ∧ b < w.heap.size ∧ w.cell? ⟨b, off + k * 2, none⟩ = some (.bool (l.getD k (false, 0)).1) ∧ w.cell? ⟨b, off + k * 2 + 1, none⟩ = some (.int .i64 (l.getD k (false, 0)).2) := by
  rcases h with rfl | ⟨b, off, h1, h2, h3⟩
  · simp at hk
  · exact ⟨b, off, h1, h2, (h3 k hk).1, (h3 k hk).2⟩

theorem Acts.below {w w' : World} {a : Option Addr} {l : List (Bool × Int)} {B : Nat} (h : Acts w a l) (hb : Below B w w') (hB : w.heap.size ≤ B) : Acts w' a l := by
  rcases h with e | ⟨b, off, h1, h2, h3⟩
  · exact .inl e
  · exact .inr ⟨b, off, h1, Nat.lt_of_lt_of_le h2 hb.size, fun i hi => ⟨by rw [hb.cell (p := ⟨b, _, none⟩) (Nat.lt_of_lt_of_le h2 hB)]; exact (h3 i hi).1, by rw [hb.cell (p := ⟨b, _, none⟩) (Nat.lt_of_lt_of_le h2 hB)]; exact (h3 i hi).2⟩⟩

theorem Blk.set3 {w : World} {g : Nat} {t : TypeId} {x y z : Value} (h : Blk w g t #[x, y, z]) (a b c : Value) :
    Blk (((w.setCell ⟨g, 0, none⟩ a).setCell ⟨g, 1, none⟩ b).setCell ⟨g, 2, none⟩ c) g t #[a, b, c] := by
  have := ((h.set_ 0 a).set_ 1 b).set_ 2 c
  simpa using this
theorem Blk.drewN {w : World} {g : Nat} {t : TypeId} {cs : Array Value} (h : Blk w g t cs) (n : Nat) : Blk (w.drewN n) g t cs := h

set_option maxRecDepth 100000 in
set_option maxHeartbeats 8000000 in
theorem pBound_yes (m r : Int) (a : Option Addr) (c : Nat) (l : List (Bool × Int)) (w : World) (h : Rt m m r) (ha : Acts w a l) (hl : l.length ≤ 200) :
    Calls Try.prog 6 #[.int .i64 m, .int .i64 r, .slice a l.length c] w fun e w' => e = .returned (.bool true) ∧ Below w.heap.size w w' := by
  obtain ⟨h1, h2, _, _, h5, h6⟩ := id h
  have HA := Lib.hid ha
  clear ha
  go_enter Try.func6, Try.ntmps6
  go_wp2_with fail
  refine (new_yes m r h _).mono ?_
  rintro e w1 ⟨rfl, hb⟩
  have hb1 := hb
  have hs1 := hb.size
  clear hb
  have hd : decide (200 < (l.length : Int)) = false := by simp; omega
  go_wp2
  go_loopw [9, 10, 11] (fun s t i wr => ∃ (k tn : Nat) (L sp : Int), k ≤ l.length ∧ tn ≤ k ∧ 0 ≤ L ∧ L ≤ m ∧ 0 ≤ sp ∧ sp + L ≤ m + r * tn ∧ s = .int .i64 sp ∧ t = .int .i64 tn ∧ i = .int .i64 k ∧ Blk wr w1.heap.size 23 #[.int .i64 L, .int .i64 m, .int .i64 r] ∧ Below w.heap.size w wr)
    (fun _ _ i _ => l.length - (intOf i).toNat)
  case atStart => exact ⟨0, 0, m, 0, by omega, by omega, h1, by omega, by omega, by simp, rfl, rfl, rfl, Blk.new w1 _ _, by go_grown⟩
  case round =>
    obtain ⟨k, tn, L, sp, hk, htk, hL0, hL1, hs0, hsB, rfl, rfl, rfl, hb0, hbel⟩ := hrel
    have HS := Lib.hid hsB
    have hsp : sp ≤ m + r * tn := by omega
    have hrt0 : 0 ≤ r * (tn : Int) := Int.mul_nonneg h5 (by omega)
    have hrt1 : r * (tn : Int) ≤ 209715200 := by
      have t1 : r * (tn : Int) ≤ 1048576 * (tn : Int) := Int.mul_le_mul_of_nonneg_right h6 (by omega)
      omega
    have kB := hb0.cell
    have fB := hb0.frozen
    have lB := hb0.lt
    have hw1 := hb1.size
    have HB := Lib.hid hb0
    clear hb0 hsB
    by_cases hlt : k < l.length
    · obtain ⟨b1, o1, rfl, lw, q1w, q2w⟩ := HA.out.at_ hlt
      have q1 := (hbel.cell (p := ⟨b1, o1 + k * 2, none⟩) lw).trans q1w
      have q2 := (hbel.cell (p := ⟨b1, o1 + k * 2 + 1, none⟩) lw).trans q2w
      have l1 : b1 < wr.heap.size := Nat.lt_of_lt_of_le lw hbel.size
      have ne5 : ¬ w1.heap.size = b1 := by omega
      have ne6 : ¬ b1 = w1.heap.size := by omega
      clear q1w q2w
      generalize l.getD k (false, 0) = x at *
      obtain ⟨tk?, N⟩ := x
      have k0 : (0 : Int) ≤ (k : Int) := by omega
      have k1 : (k : Int) < (l.length : Int) := by omega
      have hRt : Rt L m r := ⟨h1, h2, hL0, hL1, h5, h6⟩
      cases tk?
      · by_cases n1 : N < 0
        · have ne1 : ¬ wr.heap.size = w1.heap.size := by omega
          have ne2 : ¬ wr.heap.size = b1 := by omega
          have ne3 : ¬ w1.heap.size = wr.heap.size := by omega
          have ne4 : ¬ b1 = wr.heap.size := by omega
          go_wp2_with fail
          go_region_held3 (fun W => W.cell? ⟨w1.heap.size, 0, none⟩ = some (.int .i64 L) ∧ W.cell? ⟨w1.heap.size, 1, none⟩ = some (.int .i64 m) ∧ W.cell? ⟨w1.heap.size, 2, none⟩ = some (.int .i64 r) ∧ W.cell? ⟨b1, o1 + k * 2 + 1, none⟩ = some (.int .i64 N)) (go_keep)
            (first | (go_at_call 18; refine (spend_neg L m r N hRt n1 _).mono ?_; rintro e w2 ⟨rfl, hb⟩; have bw2 : Below w.heap.size w w2 := bl (by go_grown) hb; have q5 := hb.size; (try simp only [World.size_alloc, World.size_drew] at q5); have J0 := Lib.hid (Blk.below (w' := w2) (by first | exact HB.out | exact HB.out.alloc _) hb (by show w1.heap.size < _; simp only [World.size_alloc, World.size_drew]; omega)); have jB := J0.out.cell; have gB := J0.out.frozen; have mB := J0.out.lt; have s3 := hb.cell (p := ⟨b1, o1 + k * 2 + 1, none⟩) (by show b1 < _; simp only [World.size_alloc, World.size_drew]; omega); (try have s4 := fun o => hb.cell (p := ⟨wr.heap.size, o, none⟩) (by show wr.heap.size < _; simp only [World.size_alloc, World.size_drew]; omega)); (try have s5 := fun o => hb.frozen (p := ⟨wr.heap.size, o, none⟩) (by show wr.heap.size < _; simp only [World.size_alloc, World.size_drew]; omega)); (try have s6 : wr.heap.size < w2.heap.size := (by omega)); have l2 : b1 < w2.heap.size := (by omega); clear hb))
          all_goals clear kB fB
          all_goals go_wp2
          all_goals go_quiet (fail)
          all_goals go_wp2
          all_goals (
            go_roundw
            case rel =>
              refine ⟨k + 1, tn, L, sp, by omega, by omega, hL0, hL1, hs0, HS.out, rfl, rfl, by go_num, ?_, below_drewN (by go_grown) _⟩
              refine Blk.drewN ?_ _
              first | exact J0.out.alloc _ | exact ((J0.out.far ne3 _).far ne3 _).far ne3 _
            case measure => simp [intOf]; omega)
        · by_cases n2 : L < N
          · have ne1 : ¬ wr.heap.size = w1.heap.size := by omega
            have ne2 : ¬ wr.heap.size = b1 := by omega
            have ne3 : ¬ w1.heap.size = wr.heap.size := by omega
            have ne4 : ¬ b1 = wr.heap.size := by omega
            go_wp2_with fail
            go_region_held3 (fun W => W.cell? ⟨w1.heap.size, 0, none⟩ = some (.int .i64 L) ∧ W.cell? ⟨w1.heap.size, 1, none⟩ = some (.int .i64 m) ∧ W.cell? ⟨w1.heap.size, 2, none⟩ = some (.int .i64 r) ∧ W.cell? ⟨b1, o1 + k * 2 + 1, none⟩ = some (.int .i64 N)) (go_keep)
              (first | (go_at_call 18; refine (spend_over L m r N hRt n2 _).mono ?_; rintro e w2 ⟨rfl, hb⟩; have bw2 : Below w.heap.size w w2 := bl (by go_grown) hb; have q5 := hb.size; (try simp only [World.size_alloc, World.size_drew] at q5); have J0 := Lib.hid (Blk.below (w' := w2) (by first | exact HB.out | exact HB.out.alloc _) hb (by show w1.heap.size < _; simp only [World.size_alloc, World.size_drew]; omega)); have jB := J0.out.cell; have gB := J0.out.frozen; have mB := J0.out.lt; have s3 := hb.cell (p := ⟨b1, o1 + k * 2 + 1, none⟩) (by show b1 < _; simp only [World.size_alloc, World.size_drew]; omega); (try have s4 := fun o => hb.cell (p := ⟨wr.heap.size, o, none⟩) (by show wr.heap.size < _; simp only [World.size_alloc, World.size_drew]; omega)); (try have s5 := fun o => hb.frozen (p := ⟨wr.heap.size, o, none⟩) (by show wr.heap.size < _; simp only [World.size_alloc, World.size_drew]; omega)); (try have s6 : wr.heap.size < w2.heap.size := (by omega)); have l2 : b1 < w2.heap.size := (by omega); clear hb))
            all_goals clear kB fB
            all_goals go_wp2
            all_goals go_quiet (fail)
            all_goals go_wp2
            all_goals (
              go_roundw
              case rel =>
                refine ⟨k + 1, tn, L, sp, by omega, by omega, hL0, hL1, hs0, HS.out, rfl, rfl, by go_num, ?_, below_drewN (by go_grown) _⟩
                refine Blk.drewN ?_ _
                first | exact J0.out.alloc _ | exact ((J0.out.far ne3 _).far ne3 _).far ne3 _
              case measure => simp [intOf]; omega)
          · have ne1 : ¬ wr.heap.size = w1.heap.size := by omega
            have ne2 : ¬ wr.heap.size = b1 := by omega
            have ne3 : ¬ w1.heap.size = wr.heap.size := by omega
            have ne4 : ¬ b1 = wr.heap.size := by omega
            have hsp2 : sp + N ≤ m + r * (tn : Int) := by have := HS.out; omega
            have hsp3 : 0 ≤ sp + N := by omega
            have hwr : IntKind.i64.wrap (L - N) = L - N := IntWalk.i64_in _ (by omega)
            go_wp2_with fail
            go_region_held3 (fun W => W.cell? ⟨w1.heap.size, 0, none⟩ = some (.int .i64 L) ∧ W.cell? ⟨w1.heap.size, 1, none⟩ = some (.int .i64 m) ∧ W.cell? ⟨w1.heap.size, 2, none⟩ = some (.int .i64 r) ∧ W.cell? ⟨b1, o1 + k * 2 + 1, none⟩ = some (.int .i64 N)) (go_keep)
              (first | (go_at_call 18; refine (spend_yes L m r N hRt (by omega) (by omega) _).mono ?_; rintro e w2 ⟨rfl, hb⟩; have bw2 : Below w.heap.size w w2 := bl (by go_grown) hb; have q5 := hb.size; (try simp only [World.size_alloc, World.size_drew] at q5); have J0 := Lib.hid (Blk.below (w' := w2) (by first | exact HB.out | exact HB.out.alloc _) hb (by show w1.heap.size < _; simp only [World.size_alloc, World.size_drew]; omega)); have jB := J0.out.cell; have gB := J0.out.frozen; have mB := J0.out.lt; have s3 := hb.cell (p := ⟨b1, o1 + k * 2 + 1, none⟩) (by show b1 < _; simp only [World.size_alloc, World.size_drew]; omega); (try have s4 := fun o => hb.cell (p := ⟨wr.heap.size, o, none⟩) (by show wr.heap.size < _; simp only [World.size_alloc, World.size_drew]; omega)); (try have s5 := fun o => hb.frozen (p := ⟨wr.heap.size, o, none⟩) (by show wr.heap.size < _; simp only [World.size_alloc, World.size_drew]; omega)); (try have s6 : wr.heap.size < w2.heap.size := (by omega)); have l2 : b1 < w2.heap.size := (by omega); clear hb))
            all_goals clear kB fB
            all_goals go_wp2
            all_goals go_quiet (fail)
            all_goals go_wp2
            all_goals go_quiet (fail)
            all_goals go_wp2
            all_goals (
              go_roundw
              case rel =>
                refine ⟨k + 1, tn, L - N, sp + N, by omega, by omega, by omega, by omega, by omega, ?_, rfl, rfl, by go_num, ?_, ?_⟩
                · have := HS.out; omega
                · repeat (first | (with_reducible refine Blk.drewN ?_ _) | (with_reducible refine Blk.alloc ?_ _) | (with_reducible refine Blk.set3 (x := .int .i64 L) (y := .int .i64 m) (z := .int .i64 r) ?_ _ _ _) | (with_reducible refine Blk.far ?_ ne3 _))
                  exact J0.out
                · repeat (first | (with_reducible refine below_drewN ?_ _) | (with_reducible refine Below.setCell ?_ (by first | exact hs1 | exact hbel.size) _) | (with_reducible refine Below.alloc ?_ bw2.size _))
                  exact bw2
              case measure => simp [intOf]; omega)
      · obtain ⟨b2, b3⟩ := lat_bd (l := L) (m := m) (r := r) (t := 1) hL1 h5 (by omega)
        have b4 : lat L m r 1 ≤ L + r := by unfold lat; rw [Int.mul_one]; omega
        have e1 : r * ((tn : Int) + 1) = r * (tn : Int) + r := by rw [Int.mul_add, Int.mul_one]
        have e2 : 0 ≤ r * ((tn : Int) + 1) ∧ r * ((tn : Int) + 1) ≤ 211000000 ∧ sp ≤ m + r * ((tn : Int) + 1) := by omega
        obtain ⟨e3, e4, e5⟩ := e2
        have E1 := Lib.hid e1
        have B4 := Lib.hid b4
        clear e1
        go_wp2_with fail
        refine (tick_yes L m r hRt _).mono ?_
        rintro e w2 ⟨rfl, hb⟩
        have bw2 := bl hbel hb
        have q5 := hb.size
        have J0 := Lib.hid (HB.out.below hb lB)
        have jB := J0.out.cell
        have gB := J0.out.frozen
        have mB := J0.out.lt
        clear hb kB fB
        go_wp2
        go_roundw
        case rel =>
          refine ⟨k + 1, tn + 1, lat L m r 1, sp, by omega, by omega, by omega, by omega, hs0, ?_, rfl, by go_num, by go_num, ?_, by go_grown⟩
          · have h9 := HS.out
            have h8 := B4.out
            have h7 := E1.out
            rw [show ((tn + 1 : Nat) : Int) = (tn : Int) + 1 by omega]
            omega
          · have := (((J0.out.set_ 0 (.int .i64 (lat L m r 1))).set_ 1 (.int .i64 m)).set_ 2 (.int .i64 r)).alloc (.cells #[.int .i64 (lat L m r 1), .int .i64 m, .int .i64 r] 23)
            simpa using this
        case measure => simp [intOf]; omega
    · go_wp2_with fail
      refine (awake_any _).mono ?_
      rintro e w3 ⟨rfl, hb⟩
      have bw3 := bl hbel hb
      clear hb
      go_wp2
      go_ret
      exact ⟨rfl, bw3⟩
end Go.Proofs.Ytefinnlnkilmpaa
