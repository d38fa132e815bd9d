/- Layer 3: a row told place by place by a function, and two rows joined in the code: what each returns. For rows up to 1000000 costs. -/
import Derived.Test.YtedijnokbemegaaD
import Derived.Deep.OwnRows
namespace Go.Proofs.Ytedijnokbemegaa
open Go.RowKit

theorem info37 : (Try.prog.info? 37).map (fun i => (i.zero, i.size, i.bytes)) = some (some (.int .u64 0), 1, 8) := by kernel_rfl

theorem rowIs_below {w w' : World} {b : Nat} {t : TypeId} {n : Nat} {f : Nat → Value} {B : Nat} (h : w.rowIs b t n f) (hb : Below B w w') (hB : b < B) : w'.rowIs b t n f :=
  h.of_block (hb.block b hB)

/-- A result that is a row of costs in memory that can be read; nothing that was there is written. -/
def RetRow (w : World) (xs : List Int) (e : Ending) (w' : World) : Prop :=
  ∃ a c, e = .returned (.slice a xs.length c) ∧ Row w' a xs ∧ Below w.heap.size w w'

theorem row_of_rowIs {w : World} {b n : Nat} {f : Nat → Int} (h : w.rowIs b 37 n (fun i => .int .u64 (f i))) (hu : ∀ i, i < n → Ub (f i)) :
    Row w (some ⟨b, 0, none⟩) ((List.range n).map f) := by
  refine ⟨fun x hx => ?_, .inr ⟨b, 0, rfl, h.lt, fun i hi => ?_⟩⟩
  · obtain ⟨i, hi, rfl⟩ := List.mem_map.1 hx
    exact hu i (List.mem_range.1 hi)
  · have hi' : i < n := by simpa using hi
    rw [Nat.zero_add, h.cell hi']
    simp [List.getD_eq_getElem?_getD, hi']

set_option maxHeartbeats 1000000 in
theorem each_any (F : Nat) (c1 c2 : Value) (n : Nat) (f : Nat → Int) (hn : n ≤ 1000000) (w : World) (hu : ∀ i, i < n → Ub (f i))
    (hF : ∀ (k : Int) (W : World), (callFunc F #[.int .i64 k, c1, c2]).run Try.prog W = .ok (.enter F #[.int .i64 k, c1, c2]) W)
    (hcall : ∀ i : Nat, i < n → ∀ W : World, Below w.heap.size w W → Calls Try.prog F #[.int .i64 i, c1, c2] W fun e w' => e = .returned (.int .u64 (f i)) ∧ Below W.heap.size W w') :
    Calls Try.prog 23 #[.int .i64 n, .func (.func F) #[] #[c1, c2]] w (RetRow w ((List.range n).map f)) := by
  have HC := Lib.hid hcall
  have HU := Lib.hid hu
  clear hcall hu
  have hmk := run_make_row' (P := Try.prog) 22 37 (.int .u64 0) 8 Try.underlying22 info37 rfl .i64 .i64 n (by omega) (by omega)
  go_enter Try.func23, Try.ntmps23
  go_wp2
  go_loopw [11] (fun i wr => ∃ k : Nat, k ≤ n ∧ i = .int .i64 k ∧ wr.rowIs w.heap.size 37 n (fun j => .int .u64 (if j < k then f j else 0)) ∧ Below w.heap.size w wr)
    (fun i _ => n - (intOf i).toNat)
  case atStart =>
    refine ⟨0, by omega, rfl, (World.rowIs_made w _ n 37).congr (fun i hi => by simp), by go_grown⟩
  case round =>
    obtain ⟨k, hk, rfl, hrow, hbel⟩ := hrel
    have hlt := hrow.lt
    have HR := Lib.hid hrow
    clear hrow hmk
    by_cases hlk : k < n
    · have k0 : (0 : Int) ≤ (k : Int) := by omega
      have k1 : (k : Int) < (n : Int) := by omega
      go_wp2_with fail
      refine (HC.out k hlk wr hbel).mono ?_
      rintro e w1 ⟨rfl, hb⟩
      have hb1 := bl hbel hb
      have HR1 := Lib.hid (rowIs_below HR.out hb hlt)
      have c1 := HR1.out.cell hlk
      have f1 := HR1.out.frozen k
      have hlt1 := HR1.out.lt
      clear hb
      go_wp2
      go_roundw
      case rel =>
        refine ⟨k + 1, by omega, by go_num, (HR1.out.set k (.int .u64 (f k))).congr (fun i hi => ?_), by go_grown⟩
        by_cases e : i = k
        · subst e; simp
        · simp only [e, if_false]
          by_cases e2 : i < k
          · rw [if_pos e2, if_pos (by omega)]
          · rw [if_neg e2, if_neg (by omega)]
      case measure => simp [intOf]; omega
    · obtain rfl : k = n := by omega
      have HF := Lib.hid (row_of_rowIs (HR.out.congr (g := fun i => .int .u64 (f i)) (fun i hi => by simp [hi])) HU.out)
      go_wp2
      go_ret
      exact ⟨some ⟨w.heap.size, 0, none⟩, k, by rw [List.length_map, List.length_range]; rfl, HF.out, hbel⟩

set_option maxHeartbeats 1000000 in
theorem join1_any (pa pb : Nat) (a b : Option Addr) (c d k : Nat) (xs ys : List Int) (w : World) (ha : Row w a xs) (hb : Row w b ys)
    (h1 : w.cell? ⟨pa, 0, none⟩ = some (.slice a xs.length c)) (h2 : w.cell? ⟨pb, 0, none⟩ = some (.slice b ys.length d)) (hk : k < xs.length) (hky : k < ys.length) :
    Calls Try.prog 24 #[.int .i64 k, .pointer (some ⟨pa, 0, none⟩), .pointer (some ⟨pb, 0, none⟩)] w fun e w' => e = .returned (.int .u64 (min (xs.getD k 0) (ys.getD k 0))) ∧ Below w.heap.size w w' := by
  obtain ⟨b1, o1, rfl, _, q1, u1⟩ := ha.at_ hk
  obtain ⟨b2, o2, rfl, _, q2, u2⟩ := hb.at_ hky
  have k0 : (0 : Int) ≤ (k : Int) := by omega
  have k1 : (k : Int) < (xs.length : Int) := by omega
  have k2 : (k : Int) < (ys.length : Int) := by omega
  generalize xs.getD k 0 = x at *
  generalize ys.getD k 0 = y at *
  clear ha hb u1 u2
  go_enter Try.func24, Try.ntmps24
  go_wp2
  go_region
  all_goals go_wp2
  · have hm : min x y = y := by omega
    have H := Lib.hid hm
    clear hm
    go_ret
    exact ⟨by rw [H.out]; rfl, by go_grown⟩
  · have hm : min x y = x := by omega
    have H := Lib.hid hm
    clear hm
    go_ret
    exact ⟨by rw [H.out]; rfl, by go_grown⟩

theorem calls24 (k : Int) (p q : Value) (W : World) : (callFunc 24 #[.int .i64 k, p, q]).run Try.prog W = .ok (.enter 24 #[.int .i64 k, p, q]) W := by
  kernel_rfl
theorem calls25 (k : Int) (p q : Value) (W : World) : (callFunc 25 #[.int .i64 k, p, q]).run Try.prog W = .ok (.enter 25 #[.int .i64 k, p, q]) W := by
  kernel_rfl

def minL (xs ys : List Int) : List Int := (List.range xs.length).map fun i => min (xs.getD i 0) (ys.getD i 0)
theorem minL_len (xs ys : List Int) : (minL xs ys).length = xs.length := by simp [minL]

/-- What a join returns: a row, and no error. -/
def RetRowE (w : World) (xs : List Int) (k : Int) (e : Ending) (w' : World) : Prop :=
  ∃ a c, e = .returned (.tuple #[.slice a xs.length c, .int .i64 k]) ∧ Row w' a xs ∧ Below w.heap.size w w'

set_option maxHeartbeats 1000000 in
theorem join_yes (a b : Option Addr) (c d : Nat) (xs ys : List Int) (w : World) (ha : Row w a xs) (hb : Row w b ys) (he : ys.length = xs.length) (hl : xs.length ≤ 1000000) :
    Calls Try.prog 13 #[.slice a xs.length c, .slice b ys.length d] w (RetRowE w (minL xs ys) 0) := by
  have hA := Lib.hid ha
  have hB := Lib.hid hb
  have hm := Lib.hid (minL_len xs ys)
  have hU := Lib.hid (fun i (_ : i < xs.length) => show Ub (min (xs.getD i 0) (ys.getD i 0)) by
    have := getD_ub ha.1 i; have := getD_ub hb.1 i; unfold Ub at *; omega)
  clear ha hb
  rw [he]
  have HE := Lib.hid he
  clear he
  go_enter Try.func13, Try.ntmps13
  go_wp2_with fail
  refine (each_any 24 _ _ xs.length (fun i => min (xs.getD i 0) (ys.getD i 0)) hl _ hU.out (fun k W => calls24 k _ _ W) ?_).mono ?_
  · intro i hi W hW
    have hbW : Below w.heap.size w W := (by go_grown : Below w.heap.size w _).trans (hW.mono (by simp only [World.size_alloc]; omega))
    have hy := HE.out
    refine (join1_any w.heap.size (w.heap.size + 1) a b c d i xs ys W (hA.out.below hbW (Nat.le_refl _)) (hB.out.below hbW (Nat.le_refl _)) ?_ ?_ hi (by omega)).mono fun e w' h => h
    · rw [hW.cell (p := ⟨w.heap.size, 0, none⟩) (by simp only [World.size_alloc]; omega)]; simp
    · rw [hW.cell (p := ⟨w.heap.size + 1, 0, none⟩) (by simp only [World.size_alloc]; omega), hy]; simp [go_sem]
  · rintro e w1 ⟨a1, c1, rfl, hrow, hb⟩
    have hb1 : Below w.heap.size w w1 := bl (by go_grown) hb
    rw [List.length_map, List.length_range]
    have HR := Lib.hid hrow
    clear hb hrow
    go_wp2
    go_ret2
    exact ⟨a1, c1, by rw [hm.out]; rfl, HR.out, hb1⟩

set_option maxHeartbeats 400000 in
theorem join_no (a b : Option Addr) (n m c d : Nat) (w : World) (he : n ≠ m)  :
    Calls Try.prog 13 #[.slice a n c, .slice b m d] w fun e w' => e = .returned (.tuple #[.slice none 0 0, .int .i64 12]) ∧ Below w.heap.size w w' := by
  have hne : ((n : Int) != (m : Int)) = true := by simp; omega
  clear he
  go_enter Try.func13, Try.ntmps13
  go_wp2
  go_ret2
  exact ⟨rfl, by go_grown⟩
end Go.Proofs.Ytedijnokbemegaa
