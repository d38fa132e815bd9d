/- Layer 3: rows of costs in memory; the comparison of two rows, in the law's own helper. -/
import Derived.Test.YtedijnokbemegaaA
import Derived.BigQuiet
import Derived.Deep.QuietTactic
import Derived.WalkSmall
namespace Go.Proofs.Ytedijnokbemegaa
open Go.RowKit

theorem bl {a b c : World} (h : Below a.heap.size a b) (k : Below b.heap.size b c) : Below a.heap.size a c := h.trans (k.mono h.size)
theorem drewN_below (w : World) (n : Nat) : Below w.heap.size w (w.drewN n) := ⟨rfl, rfl, rfl, Nat.le_refl _, fun _ _ => rfl⟩

/-- A row of costs that can be read. -/
def Row (w : World) (a : Option Addr) (xs : List Int) : Prop :=
  (∀ x ∈ xs, Ub x) ∧ (xs = [] ∨ ∃ b off, a = some ⟨b, off, none⟩ ∧ b < w.heap.size ∧ ∀ i, i < xs.length → w.cell? ⟨b, off + i, none⟩ = some (.int .u64 (xs.getD i 0)))

theorem Row.at_ {w : World} {a : Option Addr} {xs : List Int} (h : Row w a xs) {k : Nat} (hk : k < xs.length) :
    ∃ b off, a = some ⟨b, off, none⟩ ∧ b < w.heap.size ∧ w.cell? ⟨b, off + k, none⟩ = some (.int .u64 (xs.getD k 0)) ∧ Ub (xs.getD k 0) := by
  rcases h.2 with rfl | ⟨b, off, h1, h2, h3⟩
  · simp at hk
  · refine ⟨b, off, h1, h2, h3 k hk, h.1 _ ?_⟩
    rw [List.getD_eq_getElem?_getD, List.getElem?_eq_getElem hk]
    exact List.getElem_mem hk

theorem Row.below {w w' : World} {a : Option Addr} {xs : List Int} {B : Nat} (h : Row w a xs) (hb : Below B w w') (hB : w.heap.size ≤ B) : Row w' a xs := by
  refine ⟨h.1, ?_⟩
  rcases h.2 with e | ⟨b, off, h1, h2, h3⟩
  · exact .inl e
  · exact .inr ⟨b, off, h1, Nat.lt_of_lt_of_le h2 hb.size, fun i hi => by rw [hb.cell (p := ⟨b, off + i, none⟩) (Nat.lt_of_lt_of_le h2 hB)]; exact h3 i hi⟩

set_option maxHeartbeats 800000 in
theorem same_any (a b : Option Addr) (c d : Nat) (xs : List Int) (w : World) (ha : Row w a xs) (hb : Row w b xs) (hl : xs.length ≤ 1000000) :
    Calls Try.prog 17 #[.slice a xs.length c, .slice b xs.length d] w fun e w' => e = .returned (.bool true) ∧ Below w.heap.size w w' := by
  have HA := Lib.hid ha
  have HB := Lib.hid hb
  clear ha hb
  go_enter Try.func17, Try.ntmps17
  go_wp2
  go_loopw [5] (fun i wr => ∃ k : Nat, k ≤ xs.length ∧ i = .int .i64 k ∧ Below w.heap.size w wr)
    (fun i _ => xs.length - (intOf i).toNat)
  case atStart => exact ⟨0, by omega, rfl, by go_grown⟩
  case round =>
    obtain ⟨k, hk, rfl, hbel⟩ := hrel
    by_cases hlt : k < xs.length
    · obtain ⟨b1, o1, rfl, l1, c1, u1⟩ := (HA.out.below hbel (Nat.le_refl _)).at_ hlt
      obtain ⟨b2, o2, rfl, l2, c2, u2⟩ := (HB.out.below hbel (Nat.le_refl _)).at_ hlt
      have k0 : (0 : Int) ≤ (k : Int) := by omega
      have k1 : (k : Int) < (xs.length : Int) := by omega
      generalize xs.getD k 0 = x at *
      clear HA HB u1 u2
      go_wp2
      go_quiet (fail)
      go_wp2
      go_roundw
      case rel => exact ⟨k + 1, by omega, by go_num, below_drewN hbel _⟩
      case measure => simp [intOf]; omega
    · go_wp2
      go_ret
      exact ⟨rfl, hbel⟩

/-- The reference's test of one place against another one: 'is' stays true just if the one is not ahead. -/
def sumTo (xs : List Int) (k : Nat) : Int := (xs.take k).foldl sadd 0

theorem sumTo_succ {xs : List Int} {k : Nat} (h : k < xs.length) : sumTo xs (k + 1) = sadd (sumTo xs k) (xs.getD k 0) := by
  unfold sumTo
  rw [List.take_succ_eq_append_getElem h, List.foldl_append]
  simp [List.getD_eq_getElem?_getD, h]

theorem foldl_ub : ∀ (l : List Int) (a : Int), Ub a → (∀ x ∈ l, Ub x) → Ub (l.foldl sadd a)
  | [], _, ha, _ => ha
  | x :: r, a, ha, h => foldl_ub r _ (sadd_ub ha (h x (by simp))) (fun y hy => h y (by simp [hy]))

theorem sumTo_ub {xs : List Int} (h : ∀ x ∈ xs, Ub x) (k : Nat) : Ub (sumTo xs k) :=
  foldl_ub _ _ ⟨by omega, by omega⟩ (fun x hx => h x (List.mem_of_mem_take hx))

set_option maxHeartbeats 800000 in
theorem sum_any (a : Option Addr) (c : Nat) (xs : List Int) (w : World) (ha : Row w a xs) (hl : xs.length ≤ 1000000) :
    Calls Try.prog 19 #[.slice a xs.length c] w fun e w' => e = .returned (.int .u64 (sumTo xs xs.length)) ∧ w = w' := by
  have HA := Lib.hid ha
  have HU := Lib.hid (sumTo_ub ha.1)
  clear ha
  go_enter Try.func19, Try.ntmps19
  go_wp2
  go_loop [3, 8] (fun n i => ∃ k : Nat, k ≤ xs.length ∧ i = .int .i64 k ∧ n = .int .u64 (sumTo xs k))
    (fun _ i => xs.length - (intOf i).toNat)
  case atStart => exact ⟨0, by omega, rfl, rfl⟩
  case round =>
    obtain ⟨k, hk, rfl, rfl⟩ := hrel
    by_cases hlt : k < xs.length
    · obtain ⟨b1, o1, rfl, l1, c1, u1⟩ := HA.out.at_ hlt
      have HS := Lib.hid (sumTo_succ hlt)
      have u2 := HU.out k
      generalize xs.getD k 0 = x at *
      go_wp2_with (go_at_call 20; refine (add_any (sumTo xs k) x u2 u1 _).mono ?_; rintro e w' ⟨rfl, rfl⟩)
      go_round
      case rel => exact ⟨k + 1, by omega, by go_num, by rw [HS.out]⟩
      case measure => simp [intOf]; omega
    · obtain rfl : k = xs.length := by omega
      go_wp2
      go_ret
      exact ⟨rfl, rfl⟩
end Go.Proofs.Ytedijnokbemegaa
