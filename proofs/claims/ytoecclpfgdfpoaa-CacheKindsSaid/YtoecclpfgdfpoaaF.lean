/- The chapter's example, in the law's own helper: it returns true, and writes to new memory alone. -/
import Derived.Test.YtoecclpfgdfpoaaE
namespace Go.Proofs.Ytoecclpfgdfpoaa
open Go.RowKit

theorem cache_below {B : Nat} {w w' : World} {p : Nat} {s : Value} (h : Kept (O p s) w w') (hp : B ≤ p) (hs : ∀ b, s.ownBlock = some b → B ≤ b) (hB : B ≤ w.heap.size) : Below B w w' :=
  h.below (fun b _ hb => hb.elim (fun e => e ▸ hp) (hs b)) hB
theorem fresh_from {B : Nat} {w : World} {s s' : Value} (h : Fresh w s s') (hs : ∀ b, s.ownBlock = some b → B ≤ b) (hB : B ≤ w.heap.size) : ∀ b, s'.ownBlock = some b → B ≤ b :=
  fun b hb => (h b hb).elim (hs b) (fun e => Nat.le_trans hB e)

theorem two_row (w : World) (x y : Int) : RowI (w.alloc (.cells #[.int .i64 x, .int .i64 y] 3)) (some ⟨w.heap.size, 0, none⟩) [x, y] := by
  refine .inr ⟨w.heap.size, 0, rfl, by simp, fun i hi => ?_⟩
  rw [Nat.zero_add, (Blk.new w 3 _).cell]
  match i, hi with
  | 0, _ => rfl
  | 1, _ => rfl

set_option maxHeartbeats 2000000 in
theorem awake_any (w : World) : Calls Try.prog 11 #[] w fun e w' => e = .returned (.bool true) ∧ Below w.heap.size w w' := by
  go_enter Try.func11, Try.ntmps11
  go_wp2_with fail
  refine (new_yes 2 (by omega) (by omega) _).mono ?_
  rintro e w1 ⟨p, rfl, hc, hp, hb⟩
  have HC := Lib.hid hc
  have HB := Lib.hid hb
  have HS := Lib.hid (show ∀ b, (Value.slice none 0 0).ownBlock = some b → w.heap.size ≤ b from fun b h => by simp [Value.ownBlock] at h)
  clear hc hb
  go_wp2_with fail
  refine (put_any p _ 2 [] 1 10 _ HC.out (by simp) (by omega) (by omega)).mono ?_
  rintro e w2 ⟨s2, rfl, hc, hk, hf⟩
  replace HC : Hid (Cch w2 p s2 2 [(1, 10)]) := hc
  replace HS := Lib.hid (fresh_from hf HS.out HB.out.size)
  replace HB := Lib.hid (HB.out.trans (cache_below hk hp (fun b h => by simp [Value.ownBlock] at h) HB.out.size))
  clear hc hk hf
  go_wp2_with fail
  refine (put_any p s2 2 [(1, 10)] 2 20 _ HC.out (by simp) (by omega) (by omega)).mono ?_
  rintro e w3 ⟨s3, rfl, hc, hk, hf⟩
  replace HC : Hid (Cch w3 p s3 2 [(2, 20), (1, 10)]) := hc
  have HS3 := Lib.hid (fresh_from hf HS.out HB.out.size)
  replace HB := Lib.hid (HB.out.trans (cache_below hk hp HS.out HB.out.size))
  clear hc hk hf HS
  go_wp2_with fail
  refine (get_any p s3 2 [(2, 20), (1, 10)] 1 _ HC.out (by simp)).mono ?_
  rintro e w4 ⟨rfl, hc, hk⟩
  replace HC : Hid (Cch w4 p s3 2 [(1, 10), (2, 20)]) := hc
  replace HB := Lib.hid (HB.out.trans (cache_below hk hp HS3.out HB.out.size))
  clear hc hk
  rw [show (if has [(2, 20), (1, 10)] 1 = true then val [(2, 20), (1, 10)] 1 else 0) = 10 from rfl, show has [(2, 20), (1, 10)] 1 = true from rfl]
  go_wp2_with fail
  refine (put_any p s3 2 [(1, 10), (2, 20)] 3 30 _ HC.out (by simp) (by omega) (by omega)).mono ?_
  rintro e w5 ⟨s5, rfl, hc, hk, hf⟩
  replace HC : Hid (Cch w5 p s5 2 [(3, 30), (1, 10)]) := hc
  have HS5 := Lib.hid (fresh_from hf HS3.out HB.out.size)
  replace HB := Lib.hid (HB.out.trans (cache_below hk hp HS3.out HB.out.size))
  clear hc hk hf HS3
  rw [show goneK 2 [(1, 10), (2, 20)] 3 = 2 from rfl, show goneB 2 [(1, 10), (2, 20)] 3 = true from rfl]
  go_wp2_with fail
  refine (keys_any p s5 2 [(3, 30), (1, 10)] _ HC.out (by simp)).mono ?_
  rintro e w6 ⟨s6, rfl, ho, hb6, hb⟩
  obtain ⟨a6, c6, rfl, _, hr⟩ := row_of_own ho
  replace hr : RowI w6 a6 [3, 1] := hr
  have HR := Lib.hid (hr.fresh ((Below.refl _ _).alloc (Nat.le_refl _) (.cells #[.int .i64 3, .int .i64 1] 3)))
  have HR2 := Lib.hid (two_row w6 3 1)
  replace HB := Lib.hid (HB.out.trans (hb.mono HB.out.size))
  clear ho hb6 hb hr
  rw [show (keys [(3, 30), (1, 10)]).length = 2 from rfl]
  go_wp2_with fail
  refine (ints_any a6 _ c6 2 [3, 1] _ HR.out HR2.out (by simp)).mono ?_
  rintro e w7 ⟨rfl, hb⟩
  replace HB := Lib.hid ((HB.out.alloc HB.out.size _).trans (hb.mono (Nat.le_trans HB.out.size (by simp))))
  clear hb
  go_wp2
  go_ret
  exact ⟨rfl, HB.out⟩
end Go.Proofs.Ytoecclpfgdfpoaa
