/- One row by a table: the row that is returned lies in new memory. -/
import Derived.Test.YtedijnokbemegaaV
namespace Go.Proofs.Ytedijnokbemegaa
open Go.RowKit

/-- A result that is a row of costs in new memory. -/
def RetRowF (w : World) (xs : List Int) (e : Ending) (w' : World) : Prop :=
  ∃ b c, e = .returned (.slice (some ⟨b, 0, none⟩) xs.length c) ∧ w.heap.size ≤ b ∧ Row w' (some ⟨b, 0, none⟩) xs ∧ Below w.heap.size w w'
/-- The same, and no error. -/
def RetRowEF (w : World) (xs : List Int) (e : Ending) (w' : World) : Prop :=
  ∃ b c, e = .returned (.tuple #[.slice (some ⟨b, 0, none⟩) xs.length c, .int .i64 0]) ∧ w.heap.size ≤ b ∧ Row w' (some ⟨b, 0, none⟩) xs ∧ Below w.heap.size w w'

set_option maxHeartbeats 1000000 in
theorem each_anyF (F : Nat) (c1 c2 : Value) (n : Nat) (f : Nat → Int) (hn : n ≤ 1000000) (w : World) (hu : ∀ i, i < n → Ub (f i))
    (hF : ∀ (k : Int) (W : World), (callFunc F #[.int .i64 k, c1, c2]).run Try.prog W = .ok (.enter F #[.int .i64 k, c1, c2]) W)
    (hcall : ∀ i : Nat, i < n → ∀ W : World, Below w.heap.size w W → Calls Try.prog F #[.int .i64 i, c1, c2] W fun e w' => e = .returned (.int .u64 (f i)) ∧ Below W.heap.size W w') :
    Calls Try.prog 23 #[.int .i64 n, .func (.func F) #[] #[c1, c2]] w (RetRowF w ((List.range n).map f)) := by
  have HC := Lib.hid hcall
  have HU := Lib.hid hu
  clear hcall hu
  have hmk := run_make_row' (P := Try.prog) 22 37 (.int .u64 0) 8 Try.underlying22 info37 rfl .i64 .i64 n (by omega) (by omega)
  go_enter Try.func23, Try.ntmps23
  go_wp2
  go_loopw [11] (fun i wr => ∃ k : Nat, k ≤ n ∧ i = .int .i64 k ∧ wr.rowIs w.heap.size 37 n (fun j => .int .u64 (if j < k then f j else 0)) ∧ Below w.heap.size w wr)
    (fun i _ => n - (intOf i).toNat)
  case atStart =>
    refine ⟨0, by omega, rfl, (World.rowIs_made w _ n 37).congr (fun i hi => by simp), by go_grown⟩
  case round =>
    obtain ⟨k, hk, rfl, hrow, hbel⟩ := hrel
    have hlt := hrow.lt
    have HR := Lib.hid hrow
    clear hrow hmk
    by_cases hlk : k < n
    · have k0 : (0 : Int) ≤ (k : Int) := by omega
      have k1 : (k : Int) < (n : Int) := by omega
      go_wp2_with fail
      refine (HC.out k hlk wr hbel).mono ?_
      rintro e w1 ⟨rfl, hb⟩
      have hb1 := bl hbel hb
      have HR1 := Lib.hid (rowIs_below HR.out hb hlt)
      have c1 := HR1.out.cell hlk
      have f1 := HR1.out.frozen k
      have hlt1 := HR1.out.lt
      clear hb
      go_wp2
      go_roundw
      case rel =>
        refine ⟨k + 1, by omega, by go_num, (HR1.out.set k (.int .u64 (f k))).congr (fun i hi => ?_), by go_grown⟩
        by_cases e : i = k
        · subst e; simp
        · simp only [e, if_false]
          by_cases e2 : i < k
          · rw [if_pos e2, if_pos (by omega)]
          · rw [if_neg e2, if_neg (by omega)]
      case measure => simp [intOf]; omega
    · obtain rfl : k = n := by omega
      have HF := Lib.hid (row_of_rowIs (HR.out.congr (g := fun i => .int .u64 (f i)) (fun i hi => by simp [hi])) HU.out)
      go_wp2
      go_ret
      exact ⟨w.heap.size, k, by rw [List.length_map, List.length_range]; rfl, Nat.le_refl _, HF.out, hbel⟩

set_option maxHeartbeats 2000000 in
theorem via_yesF (a t : Option Addr) (c d : Nat) (xs : List Int) (xss : List (List Int)) (w : World) (ha : Row w a xs) (ht : Tab w t xss) (he : xss.length = xs.length) (h0 : 0 < xss.length)
    (hl : xs.length ≤ 1000000) (hm : ∀ i, i < xss.length → (xss.getD i []).length = (xss.getD 0 []).length) (hm0 : (xss.getD 0 []).length ≤ 1000000) :
    Calls Try.prog 15 #[.slice a xs.length c, .slice t xss.length d] w (RetRowEF w (viaL xs xss)) := by
  have hA := Lib.hid ha
  have hT := Lib.hid ht
  have HM := Lib.hid hm
  have HE := Lib.hid he
  have HL := Lib.hid (viaL_len xs xss)
  have HU := Lib.hid (fun k (_ : k < (xss.getD 0 []).length) => viaB_ub ha.1 ht.ub k xss.length)
  generalize hmm : (xss.getD 0 []).length = m at *
  have HMM := Lib.hid hmm
  clear hmm
  have h0' : 0 < xs.length := by omega
  have h0z : (0 : Int) < (xs.length : Int) := by omega
  rw [he]
  clear ha ht hm he
  have hne : (((xs.length : Nat) : Int) == 0) = false := by rw [beq_eq_false_iff_ne]; omega
  go_enter Try.func15, Try.ntmps15
  go_wp2
  have hW0 : ∃ W0, W0 = (w.alloc (.cells #[.slice a xs.length c] 22)).alloc (.cells #[.slice t xs.length d] 27) := ⟨_, rfl⟩
  obtain ⟨W0, hW0⟩ := hW0
  rw [← hW0]
  have d0 : W0.cell? ⟨w.heap.size, 0, none⟩ = some (.slice a xs.length c) := by rw [hW0]; simp
  have d1 : W0.cell? ⟨w.heap.size + 1, 0, none⟩ = some (.slice t xs.length d) := by rw [hW0]; simp [go_sem]
  have d2 : W0.heap.size = w.heap.size + 2 := by rw [hW0]; simp
  have d3 : Below w.heap.size w W0 := by rw [hW0]; go_grown
  have D0 := Lib.hid d0
  have D1 := Lib.hid d1
  have D2 := Lib.hid d2
  clear hW0 d0 d1 d2
  go_loopw [18] (fun i wr => ∃ j : Nat, j ≤ xs.length ∧ i = .int .i64 j ∧ Below W0.heap.size W0 wr)
    (fun i _ => xs.length - (intOf i).toNat)
  case atStart => exact ⟨0, by omega, rfl, Below.refl _ _⟩
  case round =>
    obtain ⟨j, hj, rfl, hbx⟩ := hrel
    have hbel : Below w.heap.size w wr := bl d3 hbx
    obtain ⟨b2, o2, a0, c0, rfl, l0, q0, hr0⟩ := (hT.out.below hbel (Nat.le_refl _)).at_ h0
    rw [Nat.add_zero, HMM.out] at q0
    have e0 : wr.cell? ⟨w.heap.size, 0, none⟩ = some (.slice a xs.length c) := (hbx.cell (p := ⟨w.heap.size, 0, none⟩) (by show w.heap.size < _; have := D2.out; omega)).trans D0.out
    have e1 : wr.cell? ⟨w.heap.size + 1, 0, none⟩ = some (.slice (some ⟨b2, o2, none⟩) xs.length d) := (hbx.cell (p := ⟨w.heap.size + 1, 0, none⟩) (by show w.heap.size + 1 < _; have := D2.out; omega)).trans D1.out
    by_cases hlt : j < xs.length
    · obtain ⟨b3, o3, a3, c3, e3, l3, q3, hr3⟩ := (hT.out.below hbel (Nat.le_refl _)).at_ (show j < xss.length by have := HE.out; omega)
      simp only [Option.some.injEq, Addr.mk.injEq, and_true] at e3
      obtain ⟨rfl, rfl⟩ := e3
      rw [HM.out j (by have := HE.out; omega)] at q3
      clear hr0 hr3
      go_wp2
      go_roundw
      case rel => exact ⟨j + 1, by omega, by go_num, hbx⟩
      case measure => simp [intOf]; omega
    · have HX := Lib.hid hbx
      have E0 := Lib.hid e0
      have E1 := Lib.hid e1
      clear hr0 hbx
      go_wp2_with fail
      refine (each_anyF 25 _ _ m (fun k => viaB xs xss k xss.length) hm0 _ HU.out (fun k W => calls25 k _ _ W) ?_).mono ?_
      · intro k hk W hW
        have hbW : Below w.heap.size w W := bl hbel hW
        have hq := HE.out
        refine (via1_any w.heap.size (w.heap.size + 1) a (some ⟨b2, o2, none⟩) c d k xs xss W (hA.out.below hbW (Nat.le_refl _)) (hT.out.below hbW (Nat.le_refl _)) ?_ ?_ hq hl (by omega) (fun i hi => by rw [HM.out i hi]; exact hk)).mono fun e w' h => h
        · have hs := HX.out.size
          rw [hW.cell (p := ⟨w.heap.size, 0, none⟩) (by show w.heap.size < _; have := D2.out; omega)]; exact E0.out
        · have hs := HX.out.size
          rw [hW.cell (p := ⟨w.heap.size + 1, 0, none⟩) (by show w.heap.size + 1 < _; have := D2.out; omega), hq]; exact E1.out
      · rintro e w1 ⟨a1, c1, rfl, hfr, hrow, hb⟩
        have hb1 : Below w.heap.size w w1 := bl hbel hb
        rw [List.length_map, List.length_range]
        have HR := Lib.hid (show Row w1 (some ⟨a1, 0, none⟩) (viaL xs xss) by unfold viaL; rw [HMM.out]; exact hrow)
        clear hb hrow
        go_wp2
        go_ret2
        exact ⟨a1, c1, by rw [HL.out]; rfl, Nat.le_trans hbel.size hfr, HR.out, hb1⟩

/-- The same, of n costs. -/
def RetNF (w : World) (n : Nat) (xs : List Int) (e : Ending) (w' : World) : Prop :=
  ∃ b c, e = .returned (.tuple #[.slice (some ⟨b, 0, none⟩) n c, .int .i64 0]) ∧ w.heap.size ≤ b ∧ Row w' (some ⟨b, 0, none⟩) xs ∧ Below w.heap.size w w'

theorem via_okF (n m : Nat) (a t : Option Addr) (c d : Nat) (xs : List Int) (xss : List (List Int)) (w : World) (ha : Row w a xs) (ht : Tab w t xss) (hx : xs.length = n) (hm : xss.length = m) (he : m = n) (h0 : 0 < m)
    (hl : n ≤ 1000000) (hev : Even xss) (hk : (xss.getD 0 []).length ≤ 1000000) :
    Calls Try.prog 15 #[.slice a n c, .slice t m d] w (RetNF w (xss.getD 0 []).length (viaL xs xss)) := by
  subst hx hm
  exact (via_yesF a t c d xs xss w ha ht he h0 hl hev hk).mono fun e w' ⟨a', c', h1, h2, h3, h4⟩ => ⟨a', c', by rw [h1, viaL_len], h2, h3, h4⟩
end Go.Proofs.Ytedijnokbemegaa
