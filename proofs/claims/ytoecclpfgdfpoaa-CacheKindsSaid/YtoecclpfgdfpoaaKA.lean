/- A cache of other keys and things in memory, and what finds a key's place: what each function returns. -/
import Derived.Test.YtoecclpfgdfpoaaEq
namespace Go.Proofs.Ytoecclpfgdfpoaa.K
open Go.RowKit

/-- The text of each name. -/
abbrev kstrB : ByteArray := { data := #[107, 101, 121] }
abbrev kstr : Value := .string kstrB
/-- The name of a number. -/
abbrev nm (k : Int) : Value := .agg #[.int .i64 k, kstr]
/-- Twice a number. -/
abbrev tw (v : Int) : Value := .agg #[.int .i64 v, .int .i64 v]

/-- The cells of a list of things. -/
def flat : List Th → List Value
  | [] => []
  | x :: r => .int .i64 x.1 :: kstr :: .int .i64 x.2 :: .int .i64 x.2 :: flat r

theorem flat_len : ∀ l, (flat l).length = l.length * 4
  | [] => rfl
  | _ :: r => by simp only [flat, List.length_cons, flat_len r]; omega
theorem flat_app : ∀ a b, flat (a ++ b) = flat a ++ flat b
  | [], _ => rfl
  | _ :: r, b => by simp only [flat, List.cons_append, flat_app r b]
theorem flat_get : ∀ (l : List Th) (j : Nat), j < l.length → (flat l)[j * 4]? = some (.int .i64 (l.getD j (0, 0)).1) ∧ (flat l)[j * 4 + 1]? = some kstr ∧ (flat l)[j * 4 + 2]? = some (.int .i64 (l.getD j (0, 0)).2) ∧ (flat l)[j * 4 + 3]? = some (.int .i64 (l.getD j (0, 0)).2)
  | [], _, h => by simp at h
  | _ :: _, 0, _ => ⟨rfl, rfl, rfl, rfl⟩
  | _ :: r, j + 1, h => by
    have := flat_get r j (by simpa using h)
    rw [show (j + 1) * 4 = j * 4 + 1 + 1 + 1 + 1 by omega]
    simp only [flat, List.getElem?_cons_succ, List.getD_cons_succ]
    exact this
theorem flat_one (l : List Th) : ∀ v ∈ flat l, v.oneCell' = true := by
  induction l with
  | nil => simp [flat]
  | cons x r ih =>
    intro v hv
    simp only [flat, List.mem_cons] at hv
    rcases hv with rfl | rfl | rfl | rfl | hv
    · rfl
    · rfl
    · rfl
    · rfl
    · exact ih v hv

/-- The cells of the things of an owned row. -/
theorem own_cells {w : World} {g n cap : Nat} {l : List Th} (h : Own w 81 4 (.slice (some ⟨g, 0, none⟩) n cap) l.length (flat l)) {j : Nat} (hj : j < l.length) :
    w.cell? ⟨g, j * 4, none⟩ = some (.int .i64 (l.getD j (0, 0)).1) ∧ w.cell? ⟨g, j * 4 + 1, none⟩ = some kstr ∧ w.cell? ⟨g, j * 4 + 2, none⟩ = some (.int .i64 (l.getD j (0, 0)).2) ∧ w.cell? ⟨g, j * 4 + 3, none⟩ = some (.int .i64 (l.getD j (0, 0)).2) := by
  obtain ⟨h1, h2, h3, h4⟩ := flat_get l j hj
  have a := World.ownsRow.cells h (g := g) rfl _ _ h1
  have b := World.ownsRow.cells h (g := g) rfl _ _ h2
  have c := World.ownsRow.cells h (g := g) rfl _ _ h3
  have d := World.ownsRow.cells h (g := g) rfl _ _ h4
  rw [Addr.add_lit, Nat.zero_add] at a b c d
  exact ⟨a, b, c, d⟩

/-- A cache: a block of two cells, and a row that it owns. -/
structure Cch (w : World) (p : Nat) (s : Value) (room : Int) (l : List Th) : Prop where
  blk : Blk w p 75 #[.int .i64 room, s]
  own : Own w 81 4 s l.length (flat l)
  ne : s.ownBlock ≠ some p

theorem Cch.lt {w : World} {p : Nat} {s : Value} {room : Int} {l : List Th} (h : Cch w p s room l) {b : Nat} (hb : O p s b) : b < w.heap.size := by
  rcases hb with rfl | hb
  · exact h.blk.lt
  · exact h.own.lt hb
theorem Cch.kept {w w' : World} {p : Nat} {s : Value} {room : Int} {l : List Th} {S : Nat → Prop} (h : Cch w p s room l) (hk : Kept S w w') (hS : ∀ b, O p s b → ¬ S b) : Cch w' p s room l :=
  ⟨hk.blk h.blk (hS p (.inl rfl)), h.own.kept hk (fun b hb => hS b (.inr hb)), h.ne⟩
theorem Cch.fresh {w w' : World} {p : Nat} {s : Value} {room : Int} {l : List Th} (h : Cch w p s room l) (hk : Below w.heap.size w w') : Cch w' p s room l :=
  ⟨h.blk.below hk h.blk.lt, h.own.kept (Kept.of_below hk) (fun b hb => by have := h.own.lt hb; omega), h.ne⟩

/-- The closure of 'find': is the thing's key the one that is asked for? -/
theorem key_any (q : Nat) (k x y : Int) (w : World) (hc : w.cell? ⟨q, 0, none⟩ = some (.int .i64 k)) (hc1 : w.cell? ⟨q, 1, none⟩ = some kstr) (hq : q < w.heap.size) :
    Calls Try.prog 49 #[.agg #[.int .i64 x, kstr, .int .i64 y, .int .i64 y], .pointer (some ⟨q, 0, none⟩)] w fun e w' => e = .returned (.bool (x == k)) ∧ Below w.heap.size w w' := by
  have hne : ¬ q = w.heap.size := by omega
  go_enter Try.func49, Try.ntmps49
  have he := eqName x k kstrB
  go_wp2
  go_ret
  exact ⟨rfl, by go_grown⟩

theorem calls49 (v c : Value) (W : World) : (callFunc 49 #[v, c]).run Try.prog W = .ok (.enter 49 #[v, c]) W := by kernel_rfl
/-- What is asked of the function that is handed to slices.IndexFunc. -/
def Asks (F : Nat) (c : Value) (w : World) (l : List Th) (f : Nat → Bool) : Prop :=
  ∀ j, j < l.length → ∀ W : World, Below w.heap.size w W → Calls Try.prog F #[.agg #[.int .i64 (l.getD j (0, 0)).1, kstr, .int .i64 (l.getD j (0, 0)).2, .int .i64 (l.getD j (0, 0)).2], c] W fun e w' => e = .returned (.bool (f j)) ∧ Below W.heap.size W w'

set_option maxHeartbeats 1000000 in
theorem index_some (F : Nat) (c s : Value) (l : List Th) (f : Nat → Bool) (r : Nat) (w : World) (hown : Own w 81 4 s l.length (flat l)) (hr : r < l.length) (hl : l.length ≤ 1000000) (hf : f r = true) (hno : ∀ j, j < r → f j = false)
    (hF : ∀ (v : Value) (W : World), (callFunc F #[v, c]).run Try.prog W = .ok (.enter F #[v, c]) W) (hcall : Asks F c w l f) :
    Calls Try.prog 48 #[s, .func (.func F) #[] #[c]] w fun e w' => e = .returned (.int .i64 r) ∧ Below w.heap.size w w' := by
  obtain ⟨g, cap, cur, rfl, hb, hc1, hc2, _, _⟩ := hown.of_pos (by omega)
  have HO := Lib.hid hown
  have HN := Lib.hid hno
  have HF := Lib.hid hf
  have HC := Lib.hid hcall
  have hg := hb.lt
  clear hown hno hf hcall hb
  generalize hn : l.length = n at *
  have HE := Lib.hid hn
  clear hn
  go_enter Try.func48, Try.ntmps48
  go_wp2
  go_loopw [8] (fun i wr => ∃ k : Nat, k ≤ r ∧ i = .int .i64 k ∧ Below w.heap.size w wr)
    (fun i _ => n - (intOf i).toNat)
  case atStart => exact ⟨0, by omega, rfl, by go_grown⟩
  case round =>
    obtain ⟨k, hk, rfl, hbel⟩ := hrel
    have hkn : k < n := by omega
    obtain ⟨q1, q1s, q2, q3⟩ := own_cells (j := k) (by rw [HE.out]; exact HO.out) (by rw [HE.out]; exact hkn)
    have hC := Lib.hid (HC.out k (by rw [HE.out]; exact hkn) wr hbel)
    replace q1 := (hbel.cell (p := ⟨g, k * 4, none⟩) hg).trans q1
    replace q1s := (hbel.cell (p := ⟨g, k * 4 + 1, none⟩) hg).trans q1s
    replace q2 := (hbel.cell (p := ⟨g, k * 4 + 2, none⟩) hg).trans q2
    replace q3 := (hbel.cell (p := ⟨g, k * 4 + 3, none⟩) hg).trans q3
    have k0 : (0 : Int) ≤ (k : Int) := by omega
    have k1 : (k : Int) < (n : Int) := by omega
    generalize (l.getD k (0, 0)).1 = x at *
    generalize (l.getD k (0, 0)).2 = y at *
    by_cases hlt : k < r
    · rw [HN.out k hlt] at hC
      go_wp2_with fail
      refine hC.out.mono ?_
      rintro e w1 ⟨rfl, hb⟩
      have hb1 := bl hbel hb
      clear hb
      go_wp2
      go_roundw
      case rel => exact ⟨k + 1, by omega, by go_num, hb1⟩
      case measure => simp [intOf]; omega
    · obtain rfl : k = r := by omega
      rw [HF.out] at hC
      go_wp2_with fail
      refine hC.out.mono ?_
      rintro e w1 ⟨rfl, hb⟩
      have hb1 := bl hbel hb
      clear hb
      go_wp2
      go_ret
      exact ⟨rfl, hb1⟩

set_option maxHeartbeats 1000000 in
theorem index_none (F : Nat) (c s : Value) (l : List Th) (f : Nat → Bool) (w : World) (hown : Own w 81 4 s l.length (flat l)) (hl : l.length ≤ 1000000) (hno : ∀ j, j < l.length → f j = false)
    (hF : ∀ (v : Value) (W : World), (callFunc F #[v, c]).run Try.prog W = .ok (.enter F #[v, c]) W) (hcall : Asks F c w l f) :
    Calls Try.prog 48 #[s, .func (.func F) #[] #[c]] w fun e w' => e = .returned (.int .i64 (-1)) ∧ Below w.heap.size w w' := by
  have HO := Lib.hid hown
  have HN := Lib.hid hno
  have HC := Lib.hid hcall
  obtain ⟨a, cap, rfl⟩ := hown.of_any
  clear hown hno hcall
  generalize hn : l.length = n at *
  have HE := Lib.hid hn
  clear hn
  go_enter Try.func48, Try.ntmps48
  go_wp2
  go_loopw [8] (fun i wr => ∃ k : Nat, k ≤ n ∧ i = .int .i64 k ∧ Below w.heap.size w wr)
    (fun i _ => n - (intOf i).toNat)
  case atStart => exact ⟨0, by omega, rfl, by go_grown⟩
  case round =>
    obtain ⟨k, hk, rfl, hbel⟩ := hrel
    by_cases hlt : k < n
    · obtain ⟨g, cap', cur, e1, hb, _⟩ := HO.out.of_pos (by omega)
      simp only [Value.slice.injEq, true_and] at e1
      obtain ⟨rfl, rfl⟩ := e1
      have hg := hb.lt
      obtain ⟨q1, q1s, q2, q3⟩ := own_cells (j := k) (by rw [HE.out]; exact HO.out) (by rw [HE.out]; exact hlt)
      have hC := Lib.hid (HC.out k (by rw [HE.out]; exact hlt) wr hbel)
      replace q1 := (hbel.cell (p := ⟨g, k * 4, none⟩) hg).trans q1
      replace q1s := (hbel.cell (p := ⟨g, k * 4 + 1, none⟩) hg).trans q1s
      replace q2 := (hbel.cell (p := ⟨g, k * 4 + 2, none⟩) hg).trans q2
      replace q3 := (hbel.cell (p := ⟨g, k * 4 + 3, none⟩) hg).trans q3
      have k0 : (0 : Int) ≤ (k : Int) := by omega
      have k1 : (k : Int) < (n : Int) := by omega
      generalize (l.getD k (0, 0)).1 = x at *
      generalize (l.getD k (0, 0)).2 = y at *
      rw [HN.out k hlt] at hC
      clear hb
      go_wp2_with fail
      refine hC.out.mono ?_
      rintro e w1 ⟨rfl, hb⟩
      have hb1 := bl hbel hb
      clear hb
      go_wp2
      go_roundw
      case rel => exact ⟨k + 1, by omega, by go_num, hb1⟩
      case measure => simp [intOf]; omega
    · go_wp2
      go_ret
      exact ⟨rfl, hbel⟩
end Go.Proofs.Ytoecclpfgdfpoaa.K
