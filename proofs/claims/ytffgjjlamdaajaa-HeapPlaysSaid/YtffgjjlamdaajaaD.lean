/- A thing sinks to its place: what is left. -/
import Derived.Test.YtffgjjlamdaajaaC
import Derived.WalkMore
namespace Go.Proofs.Ytffgjjlamdaajaa
open Go.RowKit

/-- The first one of a place and those below it that were looked at. -/
structure Inner (l : List Th) (i k c : Nat) : Prop where
  is : c = i ∨ (0 < c ∧ (c - 1) / 2 = i ∧ c < l.length ∧ lt (g l c) (g l i))
  all : ∀ j, 0 < j → j < l.length → (j - 1) / 2 = i → j < k → ¬ lt (g l j) (g l c)

theorem Inner.start (l : List Th) (i : Nat) : Inner l i (2 * i + 1) i := ⟨.inl rfl, fun j j0 _ e h => by omega⟩
theorem Inner.hit {l : List Th} {i k c : Nat} (h : Inner l i k c) (hk : k < l.length) (h1 : 2 * i + 1 ≤ k) (h2 : k ≤ 2 * i + 2) (ha : lt (g l k) (g l c)) : Inner l i (k + 1) k := by
  refine ⟨.inr ⟨by omega, by omega, hk, ?_⟩, fun j j0 hj e hjk => ?_⟩
  · rcases h.is with rfl | ⟨_, _, _, q⟩
    · exact ha
    · exact lt_trans ha q
  · by_cases e1 : j = k
    · rw [e1]; exact lt_irr _
    · exact fun q => h.all j j0 hj e (by omega) (lt_trans q ha)
theorem Inner.miss {l : List Th} {i k c : Nat} (h : Inner l i k c) (ha : ¬ lt (g l k) (g l c)) : Inner l i (k + 1) c := by
  refine ⟨h.is, fun j j0 hj e hjk => ?_⟩
  by_cases e1 : j = k
  · rw [e1]; exact ha
  · exact h.all j j0 hj e (by omega)

set_option maxHeartbeats 2000000 in
theorem sink_any (p b n cap m : Nat) (l0 : List Th) (f0 : Int → Option Int) (i : Nat) (w : World) (hn : l0.length = n) (h : H0 w p (.slice (some ⟨b, 0, none⟩) n cap) m l0 f0) (hl : n ≤ 1000000) (hi : i ≤ n) (hA : At l0 f0) (hS : Sinks l0 i) :
    Calls Try.prog 31 #[.pointer (some ⟨p, 0, none⟩), .int .i64 i] w (DonePost p (.slice (some ⟨b, 0, none⟩) n cap) m l0 w) := by
  have HM0 := Lib.hid (show Mid w w p (.slice (some ⟨b, 0, none⟩) n cap) m l0 l0 f0 from ⟨h, hA, .refl _, Kept.refl _ _⟩)
  have HS0 := Lib.hid hS
  have HN := Lib.hid hn
  clear h hA hS hn
  go_enter Try.func31, Try.ntmps31
  go_wp2_with fail
  go_step3
  go_wp2_with fail
  go_step3
  go_wp2_with fail
  go_loopw [1] (fun i wr => ∃ (q : Nat) (l : List Th) (f : Int → Option Int), i = .int .i64 q ∧ q ≤ n ∧ Hid (Mid w wr p (.slice (some ⟨b, 0, none⟩) n cap) m l0 l f) ∧ Hid (Sinks l q))
    (fun i _ => n - (intOf i).toNat)
  case atStart => exact ⟨i, l0, f0, rfl, hi, HM0, HS0⟩
  case round =>
    obtain ⟨q, l, f, rfl, hq, HM, HS⟩ := hrel
    have HL := Lib.hid (HM.out.len.trans HN.out)
    have hw0 : IntKind.i64.wrap (2 * (q : Int)) = 2 * (q : Int) := IntWalk.i64_in _ (by omega)
    have hw1 : IntKind.i64.wrap (2 * (q : Int) + 1) = 2 * (q : Int) + 1 := IntWalk.i64_in _ (by omega)
    have hw2 : IntKind.i64.wrap (2 * (q : Int) + 2) = 2 * (q : Int) + 2 := IntWalk.i64_in _ (by omega)
    go_wp2_with fail
    go_loopw [4, 5] (fun c k wv => ∃ (cc kk : Nat), c = .int .i64 cc ∧ k = .int .i64 kk ∧ 2 * q + 1 ≤ kk ∧ kk ≤ 2 * q + 3 ∧ Hid (Mid w wv p (.slice (some ⟨b, 0, none⟩) n cap) m l0 l f) ∧ Hid (Inner l q kk cc))
      (fun _ k _ => 2 * n + 4 - (intOf k).toNat)
    case atStart => exact ⟨q, 2 * q + 1, rfl, by go_num, by omega, by omega, HM, Lib.hid (Inner.start l q)⟩
    case round =>
      obtain ⟨cc, kk, rfl, rfl, hk1, hk2, HM1, HI⟩ := hrel
      have q0 := HM1.out.h.blk.cell 0
      simp at q0
      have HE := Lib.hid (show (2 * q + 2 < kk ∨ n ≤ kk) → ∀ j, 0 < j → j < l.length → (j - 1) / 2 = q → ¬ lt (g l j) (g l cc) from fun e j j0 hj e1 => HI.out.all j j0 hj e1 (by have := HL.out; omega))
      by_cases hin : kk ≤ 2 * q + 2 ∧ kk < n
      · obtain ⟨ha, hb⟩ := hin
        have hcn : cc < n := by
          have := HL.out
          rcases HI.out.is with e | ⟨_, _, e, _⟩ <;> omega
        have t1 : (kk : Int) ≤ 2 * (q : Int) + 2 := by omega
        have t2 : (kk : Int) < (n : Int) := by omega
        have t3 : (cc : Int) < (n : Int) := by omega
        have t4 : (0 : Int) ≤ (kk : Int) := by omega
        have t5 : (0 : Int) ≤ (cc : Int) := by omega
        obtain ⟨c0, c1, c2, c3, c4⟩ := HM1.out.cells (j := kk) (by rw [HL.out]; exact hb)
        obtain ⟨d0, d1, d2, d3, d4⟩ := HM1.out.cells (j := cc) (by rw [HL.out]; exact hcn)
        have HC := Lib.hid (fun W => ahead_any (g l kk) (g l cc) W)
        generalize hx : g l kk = x at *
        generalize hy : g l cc = y at *
        have HX := Lib.hid hx
        have HY := Lib.hid hy
        clear hx hy
        go_wp2_with fail
        go_still_tail 14, (by kernel_rfl)
        change wpList _ _ _ _ _ wr.drew
        go_wp2_with fail
        refine (HC.out _).mono ?_
        rintro e w1' ⟨rfl, hb'⟩
        have M1 := Lib.hid (HM1.out.drew.fresh hb')
        clear hb' c0 c1 c2 c3 c4 d0 d1 d2 d3 d4
        cases hah : ahead x y
        · have I2 := Lib.hid (show Inner l q (kk + 1) cc from HI.out.miss (by rw [HX.out, HY.out]; exact (ahead_false x y).1 hah))
          go_wp2_with fail
          go_roundw
          case rel => exact ⟨cc, kk + 1, rfl, by go_num, by omega, by omega, M1, I2⟩
          case measure => simp [intOf]; omega
        · have I2 := Lib.hid (show Inner l q (kk + 1) kk from HI.out.hit (by rw [HL.out]; exact hb) hk1 ha (by rw [HX.out, HY.out]; exact (ahead_iff x y).1 hah))
          go_wp2_with fail
          go_roundw
          case rel => exact ⟨kk, kk + 1, rfl, by go_num, by omega, by omega, M1, I2⟩
          case measure => simp [intOf]; omega
      · have HD := Lib.hid (HE.out (by omega))
        by_cases hcq : cc = q
        · subst hcq
          by_cases ha : kk ≤ 2 * cc + 2
          · have t1 : (kk : Int) ≤ 2 * (cc : Int) + 2 := by omega
            have t2 : ¬ (kk : Int) < (n : Int) := by omega
            go_wp2_with fail
            go_end0
            exact ⟨rfl, l, f, HM1.out, HS.out.done HD.out⟩
          · have t1 : ¬ (kk : Int) ≤ 2 * (cc : Int) + 2 := by omega
            go_wp2_with fail
            go_end0
            exact ⟨rfl, l, f, HM1.out, HS.out.done HD.out⟩
        · obtain ⟨hc0, hcp, hcl, HLt⟩ : 0 < cc ∧ (cc - 1) / 2 = q ∧ cc < l.length ∧ Hid (lt (g l cc) (g l q)) := by
            rcases HI.out.is with e | ⟨a, b, c, d⟩
            · exact absurd e hcq
            · exact ⟨a, b, c, Lib.hid d⟩
          have hqn : q < n := by have := HL.out; omega
          have hcn : cc < n := by have := HL.out; omega
          have hee : ((cc : Int) == (q : Int)) = false := by simp; omega
          have S2 := Lib.hid (HS.out.step (k := cc) (by rw [HL.out]; exact hqn) hcl hc0 hcp HLt.out HD.out)
          have hlt : q < cc := by omega
          clear hcl hcp
          by_cases ha : kk ≤ 2 * q + 2
          · have t1 : (kk : Int) ≤ 2 * (q : Int) + 2 := by omega
            have t2 : ¬ (kk : Int) < (n : Int) := by omega
            go_wp2_with fail
            refine (swap_mid HM1.out HL.out hl hqn hcn).mono ?_
            rintro e w2' ⟨rfl, f', hm2⟩
            have M2 := Lib.hid hm2
            clear hm2
            go_wp2_with fail
            go_roundw
            case rel => exact ⟨cc, swp l q cc, f', by go_num, by omega, M2, S2⟩
            case measure => simp [intOf]; omega
          · have t1 : ¬ (kk : Int) ≤ 2 * (q : Int) + 2 := by omega
            go_wp2_with fail
            refine (swap_mid HM1.out HL.out hl hqn hcn).mono ?_
            rintro e w2' ⟨rfl, f', hm2⟩
            have M2 := Lib.hid hm2
            clear hm2
            go_wp2_with fail
            go_roundw
            case rel => exact ⟨cc, swp l q cc, f', by go_num, by omega, M2, S2⟩
            case measure => simp [intOf]; omega
end Go.Proofs.Ytffgjjlamdaajaa
