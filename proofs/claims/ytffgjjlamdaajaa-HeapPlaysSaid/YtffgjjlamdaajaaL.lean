/- Acts on heaps; rows of acts and of keys among the arguments. -/
import Derived.Test.YtffgjjlamdaajaaI
import Derived.Test.YtffgjjlamdaajaaOp
namespace Go.Proofs.Ytffgjjlamdaajaa
open Go.RowKit Go.Deep

theorem inKey (a b : Ky) (w : World) : (Op.equalIn 10000 24 (kyV a) (kyV b)).run Try.prog w = .ok (decide (a = b)) w := by
  have h := eqKey a b w
  rw [run_eql_struct] at h
  cases e : (Op.equalIn 10000 24 (kyV a) (kyV b)).run Try.prog w with
  | ok r w1 =>
    rw [e] at h
    simp only [Result.andThen_ok, Result.ok.injEq, Value.bool.injEq] at h
    rw [h.1, h.2]
  | halt x w1 => rw [e] at h; simp [Result.andThen] at h
theorem neKey (a b : Ky) (w : World) : (binOp .neq 24 (kyV a) (kyV b)).run Try.prog w = .ok (.bool (!decide (a = b))) w := by
  rw [run_neq_struct, inKey]
  rfl

/-- An act: what, whom, the key. -/
abbrev Ac := Int × Int × Ky
abbrev acV (a : Ac) : Value := .agg #[.int .i64 a.1, .int .i64 a.2.1, .int .u64 a.2.2.1, .int .u64 a.2.2.2.1, .int .i64 a.2.2.2.2.1, .int .i64 a.2.2.2.2.2]
abbrev ac0 : Ac := (0, 0, 0, 0, 0, 0)
def doS (S : List Th) (a : Ac) : List Th := if a.1 = 0 then pushS S a.2.1 a.2.2 else if a.1 = 1 then lowerS S a.2.1 a.2.2 else S.tail

theorem ins_len (x : Th) (S : List Th) : (ins x S).length = S.length + 1 := (ins_perm x S).length_eq
theorem push_len (S : List Th) (id : Int) (k : Ky) : (pushS S id k).length ≤ S.length + 1 := by
  unfold pushS
  split
  · omega
  · rw [ins_len]; omega
theorem lower_len {S : List Th} (ho : Once S) (id : Int) (k : Ky) : (lowerS S id k).length = S.length := by
  unfold lowerS
  split
  · rename_i h
    have hh : hasS S id = true := by unfold lowerB at h; simp at h; exact h.1
    have := (filter_one ho (keyS_mem ho hh)).length_eq
    rw [ins_len]
    simp only [List.length_cons] at this
    omega
  · rfl
theorem do_len {S : List Th} (ho : Once S) (a : Ac) : (doS S a).length ≤ S.length + 1 := by
  unfold doS
  split
  · exact push_len _ _ _
  · split
    · rw [lower_len ho]; omega
    · rw [List.length_tail]; omega

section
variable {w0 w : World} {L : List HD} {p m : Nat} {s : Value} {S : List Th}
theorem Sys.once (h : Sys w0 w ((p, s, m, S) :: L)) : Once S := h.head.once

set_option maxHeartbeats 1000000 in
theorem sys_does (h : Sys w0 w ((p, s, m, S) :: L)) (hl : S.length ≤ 999999) (a : Ac) :
    Calls Try.prog 26 #[.pointer (some ⟨p, 0, none⟩), acV a] w fun e w' => e = .returned (.tuple #[]) ∧ ∃ s', Sys w0 w' ((p, s', m, doS S a) :: L) ∧ Far w ((p, s, m, S) :: L) w' ((p, s', m, doS S a) :: L) := by
  have HS := Lib.hid h
  obtain ⟨d, id, k1, k2, k3, k4⟩ := a
  have HF := Lib.hid (fun o => far_mono (L := (p, s, m, S) :: L) ((Below.refl w.heap.size w).alloc (Nat.le_refl _) o))
  have HM := Lib.hid (fun o => h.mono ((Below.refl w.heap.size w).alloc (Nat.le_refl _) o))
  clear h
  by_cases h0 : d = 0
  · subst h0
    obtain ⟨E, hE⟩ : ∃ E, (if hasS S id = true then (15 : Int) else 0) = E := ⟨_, rfl⟩
    have HE := Lib.hid hE
    clear hE
    have HD := Lib.hid (show doS S (0, id, k1, k2, k3, k4) = pushS S id (k1, k2, k3, k4) from rfl)
    go_enter Try.func26, Try.ntmps26
    go_wp2_with fail
    refine (sys_push (HM.out _) hl id (k1, k2, k3, k4) HE.out rfl).mono ?_
    rintro e w' ⟨s', rfl, hs, hf⟩
    have H1 := Lib.hid hs
    have H2 := Lib.hid hf
    clear hs hf
    go_wp2_with fail
    go_end0
    refine ⟨rfl, s', by rw [HD.out]; exact H1.out, ?_⟩
    rw [HD.out]
    exact ⟨Nat.le_trans (HF.out _).1 H2.out.1, fun c hc ho => ⟨(H2.out.2 c (Nat.lt_of_lt_of_le hc (HF.out _).1) ho).1.trans ((HF.out _).2 c hc ho).1, (H2.out.2 c (Nat.lt_of_lt_of_le hc (HF.out _).1) ho).2⟩⟩
  · have e0 : (d == 0) = false := by simpa using h0
    by_cases h1 : d = 1
    · subst h1
      have HD := Lib.hid (show doS S (1, id, k1, k2, k3, k4) = lowerS S id (k1, k2, k3, k4) from rfl)
      go_enter Try.func26, Try.ntmps26
      go_wp2_with fail
      refine (sys_lower (HM.out _) (by omega) id (k1, k2, k3, k4) rfl rfl).mono ?_
      rintro e w' ⟨rfl, hs, hf⟩
      have H1 := Lib.hid hs
      have H2 := Lib.hid hf
      clear hs hf
      go_wp2_with fail
      go_end0
      refine ⟨rfl, s, by rw [HD.out]; exact H1.out, ?_⟩
      rw [HD.out]
      exact ⟨Nat.le_trans (HF.out _).1 H2.out.1, fun c hc ho => ⟨(H2.out.2 c (Nat.lt_of_lt_of_le hc (HF.out _).1) ho).1.trans ((HF.out _).2 c hc ho).1, (H2.out.2 c (Nat.lt_of_lt_of_le hc (HF.out _).1) ho).2⟩⟩
    · have e1 : (d == 1) = false := by simpa using h1
      have HD := Lib.hid (show doS S (d, id, k1, k2, k3, k4) = S.tail by unfold doS; rw [if_neg h0, if_neg h1])
      go_enter Try.func26, Try.ntmps26
      go_wp2_with fail
      refine (sys_pop (HM.out _) (by omega) rfl rfl).mono ?_
      rintro e w' ⟨s', rfl, hs, hf⟩
      have H1 := Lib.hid hs
      have H2 := Lib.hid hf
      clear hs hf
      go_wp2_with fail
      go_end0
      refine ⟨rfl, s', by rw [HD.out]; exact H1.out, ?_⟩
      rw [HD.out]
      exact ⟨Nat.le_trans (HF.out _).1 H2.out.1, fun c hc ho => ⟨(H2.out.2 c (Nat.lt_of_lt_of_le hc (HF.out _).1) ho).1.trans ((HF.out _).2 c hc ho).1, (H2.out.2 c (Nat.lt_of_lt_of_le hc (HF.out _).1) ho).2⟩⟩
end

/-! ### rows among the arguments -/
/-- A row of acts. -/
def RowA (w : World) (a : Option Addr) (l : List Ac) : Prop :=
  l = [] ∨ ∃ b off, a = some ⟨b, off, none⟩ ∧ b < w.heap.size ∧ ∀ i, i < l.length → w.cell? ⟨b, off + i * 6, none⟩ = some (.int .i64 (l.getD i ac0).1) ∧ w.cell? ⟨b, off + i * 6 + 1, none⟩ = some (.int .i64 (l.getD i ac0).2.1) ∧
    w.cell? ⟨b, off + i * 6 + 2, none⟩ = some (.int .u64 (l.getD i ac0).2.2.1) ∧ w.cell? ⟨b, off + i * 6 + 3, none⟩ = some (.int .u64 (l.getD i ac0).2.2.2.1) ∧ w.cell? ⟨b, off + i * 6 + 4, none⟩ = some (.int .i64 (l.getD i ac0).2.2.2.2.1) ∧ w.cell? ⟨b, off + i * 6 + 5, none⟩ = some (.int .i64 (l.getD i ac0).2.2.2.2.2)
theorem RowA.at_ {w w' : World} {a : Option Addr} {l : List Ac} (h : RowA w a l) (hb : Below w.heap.size w w') {i : Nat} (hi : i < l.length) :
    ∃ b off, a = some ⟨b, off, none⟩ ∧ b < w.heap.size ∧ w'.cell? ⟨b, off + i * 6, none⟩ = some (.int .i64 (l.getD i ac0).1) ∧ w'.cell? ⟨b, off + i * 6 + 1, none⟩ = some (.int .i64 (l.getD i ac0).2.1) ∧
    w'.cell? ⟨b, off + i * 6 + 2, none⟩ = some (.int .u64 (l.getD i ac0).2.2.1) ∧ w'.cell? ⟨b, off + i * 6 + 3, none⟩ = some (.int .u64 (l.getD i ac0).2.2.2.1) ∧ w'.cell? ⟨b, off + i * 6 + 4, none⟩ = some (.int .i64 (l.getD i ac0).2.2.2.2.1) ∧ w'.cell? ⟨b, off + i * 6 + 5, none⟩ = some (.int .i64 (l.getD i ac0).2.2.2.2.2) := by
  rcases h with rfl | ⟨b, off, e, hlt, hc⟩
  · simp at hi
  · obtain ⟨q0, q1, q2, q3, q4, q5⟩ := hc i hi
    exact ⟨b, off, e, hlt, (hb.cell hlt).trans q0, (hb.cell hlt).trans q1, (hb.cell hlt).trans q2, (hb.cell hlt).trans q3, (hb.cell hlt).trans q4, (hb.cell hlt).trans q5⟩
/-- A row of keys. -/
def RowK (w : World) (a : Option Addr) (l : List Ky) : Prop :=
  l = [] ∨ ∃ b off, a = some ⟨b, off, none⟩ ∧ b < w.heap.size ∧ ∀ i, i < l.length → w.cell? ⟨b, off + i * 4, none⟩ = some (.int .u64 (l.getD i (0, 0, 0, 0)).1) ∧ w.cell? ⟨b, off + i * 4 + 1, none⟩ = some (.int .u64 (l.getD i (0, 0, 0, 0)).2.1) ∧
    w.cell? ⟨b, off + i * 4 + 2, none⟩ = some (.int .i64 (l.getD i (0, 0, 0, 0)).2.2.1) ∧ w.cell? ⟨b, off + i * 4 + 3, none⟩ = some (.int .i64 (l.getD i (0, 0, 0, 0)).2.2.2)
theorem RowK.at_ {w w' : World} {a : Option Addr} {l : List Ky} (h : RowK w a l) (hb : Below w.heap.size w w') {i : Nat} (hi : i < l.length) :
    ∃ b off, a = some ⟨b, off, none⟩ ∧ b < w.heap.size ∧ w'.cell? ⟨b, off + i * 4, none⟩ = some (.int .u64 (l.getD i (0, 0, 0, 0)).1) ∧ w'.cell? ⟨b, off + i * 4 + 1, none⟩ = some (.int .u64 (l.getD i (0, 0, 0, 0)).2.1) ∧
    w'.cell? ⟨b, off + i * 4 + 2, none⟩ = some (.int .i64 (l.getD i (0, 0, 0, 0)).2.2.1) ∧ w'.cell? ⟨b, off + i * 4 + 3, none⟩ = some (.int .i64 (l.getD i (0, 0, 0, 0)).2.2.2) := by
  rcases h with rfl | ⟨b, off, e, hlt, hc⟩
  · simp at hi
  · obtain ⟨q0, q1, q2, q3⟩ := hc i hi
    exact ⟨b, off, e, hlt, (hb.cell hlt).trans q0, (hb.cell hlt).trans q1, (hb.cell hlt).trans q2, (hb.cell hlt).trans q3⟩

theorem acts_of : ∀ (rows : List (List Value)), (∀ r ∈ rows, Conf r [some .i64, some .i64, some .u64, some .u64, some .i64, some .i64]) → ∃ xs : List Ac, rows = xs.map (fun n => [.int .i64 n.1, .int .i64 n.2.1, .int .u64 n.2.2.1, .int .u64 n.2.2.2.1, .int .i64 n.2.2.2.2.1, .int .i64 n.2.2.2.2.2])
  | [], _ => ⟨[], rfl⟩
  | r :: rs, h => by
    obtain ⟨xs, e⟩ := acts_of rs (fun r hr => h r (by simp [hr]))
    obtain ⟨_, _, e1, ⟨n1, e2, _⟩, h3⟩ := Conf.cons (h r (by simp))
    obtain ⟨_, _, e4, ⟨n2, e5, _⟩, h6⟩ := Conf.cons h3
    obtain ⟨_, _, e7, ⟨n3, e8, _⟩, h9⟩ := Conf.cons h6
    obtain ⟨_, _, e10, ⟨n4, e11, _⟩, h12⟩ := Conf.cons h9
    obtain ⟨_, _, e13, ⟨n5, e14, _⟩, h15⟩ := Conf.cons h12
    obtain ⟨_, _, e16, ⟨n6, e17, _⟩, h18⟩ := Conf.cons h15
    obtain rfl := Conf.nil h18
    subst e e1 e2 e4 e5 e7 e8 e10 e11 e13 e14 e16 e17
    exact ⟨(n1, n2, n3, n4, n5, n6) :: xs, rfl⟩
theorem rowA_of_slice {w : World} {a : Option Addr} {len cap : Nat} {rows : List (List Value)} (so : SliceOf w a len cap 6 rows) (cf : ∀ r ∈ rows, Conf r [some .i64, some .i64, some .u64, some .u64, some .i64, some .i64]) :
    ∃ xs : List Ac, len = xs.length ∧ RowA w a xs ∧ xs.length ≤ 9223372036854775807 := by
  obtain ⟨xs, rfl⟩ := acts_of rows cf
  obtain ⟨h1, h2, h3, _, h5⟩ := so
  have hl : len = xs.length := by rw [← h1, List.length_map]
  refine ⟨xs, hl, ?_, by simp only [maxLen] at h3; omega⟩
  rcases h5 with h5 | ⟨b, off, h6, h7, h8⟩
  · left; exact List.eq_nil_of_length_eq_zero (by omega)
  · right
    refine ⟨b, off, h6, h7, fun i hi => ?_⟩
    have q := fun j => h8 i j [.int .i64 (xs.getD i ac0).1, .int .i64 (xs.getD i ac0).2.1, .int .u64 (xs.getD i ac0).2.2.1, .int .u64 (xs.getD i ac0).2.2.2.1, .int .i64 (xs.getD i ac0).2.2.2.2.1, .int .i64 (xs.getD i ac0).2.2.2.2.2]
    have q0 := q 0 _ (by simp [List.getD_eq_getElem?_getD, hi]) rfl
    have q1 := q 1 _ (by simp [List.getD_eq_getElem?_getD, hi]) rfl
    have q2 := q 2 _ (by simp [List.getD_eq_getElem?_getD, hi]) rfl
    have q3 := q 3 _ (by simp [List.getD_eq_getElem?_getD, hi]) rfl
    have q4 := q 4 _ (by simp [List.getD_eq_getElem?_getD, hi]) rfl
    have q5 := q 5 _ (by simp [List.getD_eq_getElem?_getD, hi]) rfl
    simp only [Nat.add_zero] at q0
    rw [← Nat.add_assoc] at q1 q2 q3 q4 q5
    exact ⟨q0, q1, q2, q3, q4, q5⟩
theorem keys_of : ∀ (rows : List (List Value)), (∀ r ∈ rows, Conf r [some .u64, some .u64, some .i64, some .i64]) → ∃ xs : List Ky, rows = xs.map (fun n => [.int .u64 n.1, .int .u64 n.2.1, .int .i64 n.2.2.1, .int .i64 n.2.2.2])
  | [], _ => ⟨[], rfl⟩
  | r :: rs, h => by
    obtain ⟨xs, e⟩ := keys_of rs (fun r hr => h r (by simp [hr]))
    obtain ⟨_, _, e1, ⟨n1, e2, _⟩, h3⟩ := Conf.cons (h r (by simp))
    obtain ⟨_, _, e4, ⟨n2, e5, _⟩, h6⟩ := Conf.cons h3
    obtain ⟨_, _, e7, ⟨n3, e8, _⟩, h9⟩ := Conf.cons h6
    obtain ⟨_, _, e10, ⟨n4, e11, _⟩, h12⟩ := Conf.cons h9
    obtain rfl := Conf.nil h12
    subst e e1 e2 e4 e5 e7 e8 e10 e11
    exact ⟨(n1, n2, n3, n4) :: xs, rfl⟩
theorem rowK_of_slice {w : World} {a : Option Addr} {len cap : Nat} {rows : List (List Value)} (so : SliceOf w a len cap 4 rows) (cf : ∀ r ∈ rows, Conf r [some .u64, some .u64, some .i64, some .i64]) :
    ∃ xs : List Ky, len = xs.length ∧ RowK w a xs ∧ xs.length ≤ 9223372036854775807 := by
  obtain ⟨xs, rfl⟩ := keys_of rows cf
  obtain ⟨h1, h2, h3, _, h5⟩ := so
  have hl : len = xs.length := by rw [← h1, List.length_map]
  refine ⟨xs, hl, ?_, by simp only [maxLen] at h3; omega⟩
  rcases h5 with h5 | ⟨b, off, h6, h7, h8⟩
  · left; exact List.eq_nil_of_length_eq_zero (by omega)
  · right
    refine ⟨b, off, h6, h7, fun i hi => ?_⟩
    have q := fun j => h8 i j [.int .u64 (xs.getD i (0, 0, 0, 0)).1, .int .u64 (xs.getD i (0, 0, 0, 0)).2.1, .int .i64 (xs.getD i (0, 0, 0, 0)).2.2.1, .int .i64 (xs.getD i (0, 0, 0, 0)).2.2.2]
    have q0 := q 0 _ (by simp [List.getD_eq_getElem?_getD, hi]) rfl
    have q1 := q 1 _ (by simp [List.getD_eq_getElem?_getD, hi]) rfl
    have q2 := q 2 _ (by simp [List.getD_eq_getElem?_getD, hi]) rfl
    have q3 := q 3 _ (by simp [List.getD_eq_getElem?_getD, hi]) rfl
    simp only [Nat.add_zero] at q0
    rw [← Nat.add_assoc] at q1 q2 q3
    exact ⟨q0, q1, q2, q3⟩
end Go.Proofs.Ytffgjjlamdaajaa
