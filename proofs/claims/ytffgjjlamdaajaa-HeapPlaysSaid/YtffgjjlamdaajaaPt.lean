/- The laws on heaps told of rows alone: what is put in in whatever order; what a lesser key does to the order. No program is in sight. -/
import Derived.Test.YtffgjjlamdaajaaPs
namespace Go.Proofs.Ytffgjjlamdaajaa

/-! ### in whatever order -/
def kd0 : Ky := (0, 0, 0, 0)
/-- 0, 1, .., n - 1 as numbers. -/
def upto (n : Nat) : List Int := (List.range n).map (fun (i : Nat) => (i : Int))
theorem upto_len (n : Nat) : (upto n).length = n := by simp [upto]
theorem upto_succ (n : Nat) : upto (n + 1) = upto n ++ [(n : Int)] := by simp [upto, List.range_succ]
theorem upto_nodup (n : Nat) : (upto n).Nodup := by
  unfold upto
  refine List.Pairwise.map (R := fun a b => a ≠ b) _ (fun a b h e => h (by omega)) List.nodup_range
theorem mem_upto {n : Nat} {x : Int} : x ∈ upto n ↔ 0 ≤ x ∧ x < n := by
  simp only [upto, List.mem_map, List.mem_range]
  constructor
  · rintro ⟨a, h, rfl⟩; omega
  · rintro ⟨h0, h1⟩; exact ⟨x.toNat, by omega, by omega⟩
def ixS (R : List Int) (a b : Nat) : List Int := (R.set a (R.getD b 0)).set b (R.getD a 0)
theorem ixS_perm {R : List Int} {a b : Nat} (ha : a < R.length) (hb : b < R.length) : (ixS R a b).Perm R := by
  have : ixS R a b = (R.set a R[b]).set b R[a] := by simp [ixS, ha, hb]
  rw [this]
  exact List.set_set_perm ha hb
theorem ixS_len (R : List Int) (a b : Nat) : (ixS R a b).length = R.length := by simp [ixS]

/-- Each number with its key. -/
def pairs (f : Int → Ky) (R : List Int) : List Th := R.map (fun r => (r, f r))
theorem pairs_len (f : Int → Ky) (R : List Int) : (pairs f R).length = R.length := by simp [pairs]
theorem pairs_perm (f : Int → Ky) {R T : List Int} (h : R.Perm T) : (pairs f R).Perm (pairs f T) := h.map _
theorem pairs_once (f : Int → Ky) {R : List Int} (h : R.Nodup) : Once (pairs f R) := List.Pairwise.map (R := fun a b => a ≠ b) _ (fun _ _ h e => h e) h
theorem pairs_has (f : Int → Ky) (R : List Int) (id : Int) : hasS (pairs f R) id = decide (id ∈ R) := by
  rw [Bool.eq_iff_iff, hasS_iff, decide_eq_true_eq]
  constructor
  · rintro ⟨x, hx, rfl⟩
    obtain ⟨r, hr, rfl⟩ := List.mem_map.1 hx
    exact hr
  · exact fun h => ⟨(id, f id), List.mem_map.2 ⟨id, h, rfl⟩, rfl⟩
theorem pairs_tag (f : Int → Ky) (ks : List Ky) (hf : ∀ i : Nat, i < ks.length → f i = ks.getD i (0, 0, 0, 0)) : pairs f (upto ks.length) = tag ks := by
  refine List.ext_getElem (by simp [pairs, upto, tag]) fun i h1 h2 => ?_
  have hi : i < ks.length := by simpa [tag] using h2
  have := hf i hi
  simp [pairs, upto, tag, this, hi]
theorem pairs_push (f : Int → Ky) {R : List Int} (hn : R.Nodup) {i : Nat} (hi : i < R.length) : hasS (srt (pairs f (R.take i))) (R.getD i 0) = false ∧ pushS (srt (pairs f (R.take i))) (R.getD i 0) (f (R.getD i 0)) = srt (pairs f (R.take (i + 1))) := by
  have e : R.take (i + 1) = R.take i ++ [R.getD i 0] := by simp [hi]
  have hm : R.getD i 0 ∉ R.take i := by
    have h2 : (R.take i ++ [R.getD i 0]).Nodup := by rw [← e]; exact hn.sublist (List.take_sublist _ _)
    intro q
    exact (List.nodup_append.1 h2).2.2 _ q _ (by simp) rfl
  have hh : hasS (pairs f (R.take i)) (R.getD i 0) = false := by rw [pairs_has, decide_eq_false hm]
  refine ⟨by rw [hasS_srt]; exact hh, ?_⟩
  rw [push_srt hh, e]
  simp [pairs]
/-- All of them put in: as if in the order 0, 1, .. -/
theorem pairs_all (f : Int → Ky) (ks : List Ky) (hf : ∀ i : Nat, i < ks.length → f i = ks.getD i (0, 0, 0, 0)) {R : List Int} (hp : R.Perm (upto ks.length)) : srt (pairs f (R.take R.length)) = srt (tag ks) := by
  rw [List.take_length, ← pairs_tag f ks hf]
  exact srt_congr (pairs_once f (hp.nodup_iff.2 (upto_nodup _))) (pairs_perm f hp)

/-- A key is within its kinds. -/
structure FitK (k : Ky) : Prop where
  a : k.1 ≤ 18446744073709551615
  b : k.2.1 ≤ 18446744073709551615
  c : k.2.2.1 ≤ 9223372036854775807
  d : k.2.2.2 ≤ 9223372036854775807
abbrev most : Ky := (18446744073709551615, 18446744073709551615, 9223372036854775807, 9223372036854775807)
theorem lt_most {k : Ky} (h : FitK k) : ltK k most = !decide (k = most) := by
  obtain ⟨k1, k2, k3, k4⟩ := k
  obtain ⟨h1, h2, h3, h4⟩ := h
  by_cases e : (k1, k2, k3, k4) = most
  · rw [decide_eq_true e, e, ltK_irr]; rfl
  · rw [decide_eq_false e]
    refine (ltK_iff _ _).2 ?_
    simp only [Prod.mk.injEq] at e
    simp only [ltP] at *
    omega
/-- The keys as far as they are made less. -/
def late (l : List Ky) (j : Nat) : List Ky := l.take j ++ List.replicate (l.length - j) most
theorem late_len (l : List Ky) {j : Nat} (h : j ≤ l.length) : (late l j).length = l.length := by simp [late]; omega
theorem late_zero (l : List Ky) : late l 0 = List.replicate l.length most := by simp [late]
theorem late_all (l : List Ky) : late l l.length = l := by simp [late]
theorem late_at (l : List Ky) {j : Nat} (h : j < l.length) : (late l j).getD j (0, 0, 0, 0) = most := by
  have : (l.take j).length = j := by simp; omega
  have h2 : 0 < l.length - j := by omega
  simp [late, List.getD_eq_getElem?_getD, this, h2]
theorem late_succ (l : List Ky) {j : Nat} (h : j < l.length) : (late l j).set j (l.getD j (0, 0, 0, 0)) = late l (j + 1) := by
  have h1 : (l.take j).length = j := by simp; omega
  have e : l.take (j + 1) = l.take j ++ [l.getD j (0, 0, 0, 0)] := by simp [h]
  have e2 : List.replicate (l.length - j) most = most :: List.replicate (l.length - (j + 1)) most := by
    rw [show l.length - j = (l.length - (j + 1)) + 1 by omega, List.replicate_succ]
  unfold late
  rw [e, e2, List.set_append_right _ _ (by omega), h1, Nat.sub_self, List.set_cons_zero, List.append_assoc]
  rfl
theorem late_lower (l : List Ky) {j : Nat} (h : j < l.length) (hf : FitK (l.getD j (0, 0, 0, 0))) :
    lowerS (srt (tag (late l j))) j (l.getD j (0, 0, 0, 0)) = srt (tag (late l (j + 1))) ∧ lowerE (srt (tag (late l j))) j (l.getD j (0, 0, 0, 0)) = if l.getD j (0, 0, 0, 0) = most then 1 else 0 := by
  have hj : j < (late l j).length := by rw [late_len l (by omega)]; exact h
  have hm := lt_most hf
  rw [tag_e _ hj, late_at l h, ← late_succ l h]
  by_cases e : l.getD j (0, 0, 0, 0) = most
  · rw [decide_eq_true e] at hm
    rw [hm, if_pos e]
    refine ⟨?_, rfl⟩
    rw [tag_lower_no _ hj (by rw [late_at l h]; exact hm)]
    congr 2
    rw [e, ← late_at l h]
    refine List.ext_getElem (by simp) fun i h1 h2 => ?_
    simp only [List.getElem_set]
    split
    · rename_i q; subst q; simp [h1]
    · rfl
  · rw [decide_eq_false e] at hm
    rw [hm, if_neg e]
    exact ⟨tag_lower _ hj (by rw [late_at l h]; exact hm), rfl⟩

/-! ### a lesser key -/
/-- Where a number stands in a row, as far as the row was looked through; -1: nowhere. -/
def seek (xs : List Int) (id : Int) : Nat → Int
  | 0 => -1
  | i + 1 => if xs.getD i 0 = id then i else seek xs id i
/-- The others, as far as the row was looked through. -/
def rest (xs : List Int) (id : Int) (i : Nat) : List Int := (xs.take i).filter (fun x => !(x == id))
theorem rest_succ (xs : List Int) (id : Int) {i : Nat} (h : i < xs.length) : rest xs id (i + 1) = if xs.getD i 0 = id then rest xs id i else rest xs id i ++ [xs.getD i 0] := by
  have e : xs.take (i + 1) = xs.take i ++ [xs.getD i 0] := by simp [h]
  unfold rest
  rw [e, List.filter_append]
  by_cases q : xs.getD i 0 = id
  · rw [if_pos q, q]; simp
  · rw [if_neg q]
    rw [List.filter_cons, if_pos (by simpa using q)]
    rfl
theorem rest_len (xs : List Int) (id : Int) (i : Nat) : (rest xs id i).length ≤ i := by
  unfold rest
  refine Nat.le_trans (List.length_filter_le _ _) ?_
  rw [List.length_take]
  omega
theorem seek_of (P Q : List Int) (id : Int) (hQ : id ∉ Q) : ∀ i, P.length < i → i ≤ (P ++ id :: Q).length → seek (P ++ id :: Q) id i = P.length
  | 0, h, _ => by omega
  | i + 1, h, hl => by
    unfold seek
    by_cases e : i = P.length
    · subst e
      rw [if_pos (by simp [List.getD_eq_getElem?_getD])]
    · have h1 : P.length < i := by omega
      have hl' : i ≤ (P ++ id :: Q).length := by omega
      rw [if_neg ?_, seek_of P Q id hQ i h1 hl']
      intro q
      apply hQ
      have hi : i < (P ++ id :: Q).length := by omega
      rw [List.getD_eq_getElem?_getD, List.getElem?_eq_getElem hi, Option.getD_some, List.getElem_append_right (by omega)] at q
      obtain ⟨m, hm⟩ : ∃ m, i - P.length = m + 1 := ⟨i - P.length - 1, by omega⟩
      simp only [hm, List.getElem_cons_succ] at q
      rw [← q]
      exact List.getElem_mem _
theorem ins_split {x : Th} {Q : List Th} (hQ : ∀ q ∈ Q, ahead x q = true) : ∀ P : List Th, ∃ P' Q', ins x (P ++ Q) = P' ++ x :: Q' ∧ P'.length ≤ P.length ∧ P' ++ Q' = P ++ Q
  | [] => by
    refine ⟨[], Q, ?_, by simp, rfl⟩
    cases Q with
    | nil => rfl
    | cons q r =>
      show ins x (q :: r) = x :: q :: r
      unfold ins
      rw [if_pos (hQ q List.mem_cons_self)]
  | y :: P => by
    show ∃ P' Q', ins x (y :: (P ++ Q)) = P' ++ x :: Q' ∧ P'.length ≤ (y :: P).length ∧ P' ++ Q' = y :: (P ++ Q)
    unfold ins
    split
    · exact ⟨[], y :: (P ++ Q), rfl, by simp, rfl⟩
    · obtain ⟨P', Q', h1, h2, h3⟩ := ins_split hQ P
      exact ⟨y :: P', Q', by rw [h1]; rfl, by simpa using h2, by rw [← h3]; rfl⟩
abbrev ids (S : List Th) : List Int := S.map (·.1)
theorem rest_ids (S : List Th) (id : Int) : rest (ids S) id S.length = ids (delS S id) := by
  unfold rest delS
  rw [List.take_of_length_le (by simp), List.filter_map]
  rfl
theorem delS_ins {id : Int} (k : Ky) : ∀ T : List Th, delS (ins (id, k) T) id = delS T id
  | [] => by simp [ins, delS]
  | y :: r => by
    unfold ins
    split
    · simp [delS]
    · have := delS_ins (id := id) k r
      simp only [delS, List.filter_cons] at this ⊢
      rw [this]
theorem delS_delS (S : List Th) (id : Int) : delS (delS S id) id = delS S id := by simp [delS]
/-- What a lesser key does to the order. -/
theorem sooner {S : List Th} (ho : Once S) (hs : Sorted S) {id : Int} {k : Ky} (hb : lowerB S id k = true) :
    ∃ p q : Nat, seek (ids S) id S.length = (p : Int) ∧ seek (ids (lowerS S id k)) id S.length = (q : Int) ∧ q ≤ p ∧ rest (ids (lowerS S id k)) id S.length = rest (ids S) id S.length := by
  have hh : hasS S id = true := by unfold lowerB at hb; simp at hb; exact hb.1
  have hk : ltK k (keyS S id) = true := by unfold lowerB at hb; simp at hb; exact hb.2
  have hm := keyS_mem ho hh
  obtain ⟨P, Q, hS⟩ := List.append_of_mem hm
  generalize keyS S id = k0 at *
  have hL : lowerS S id k = ins (id, k) (delS S id) := by unfold lowerS; rw [if_pos hb]
  have hno : ∀ y ∈ P ++ Q, y.1 ≠ id := by
    have h2 : Once ((id, k0) :: (P ++ Q)) := ho.perm (by rw [hS]; exact List.perm_middle)
    exact fun y hy => Ne.symm ((List.pairwise_cons.1 h2).1 y hy)
  have hD : delS S id = P ++ Q := by
    rw [hS]
    unfold delS
    rw [List.filter_append, List.filter_cons, if_neg (by simp), ← List.filter_append]
    exact List.filter_eq_self.2 fun y hy => by simpa using hno y hy
  have hQ : ∀ q ∈ Q, ahead (id, k) q = true := fun q hq => by
    rw [ahead_iff]
    have h1 : lt (id, k0) q := by
      rw [hS] at hs
      exact (List.pairwise_cons.1 (List.pairwise_append.1 hs).2.1).1 q hq
    exact lt_trans (.inl ((ltK_iff _ _).1 hk)) h1
  obtain ⟨P', Q', h1, h2, h3⟩ := ins_split hQ P
  have hlen : S.length = (P ++ Q).length + 1 := by rw [hS]; simp; omega
  have hlen2 : (P' ++ (id, k) :: Q').length = (P ++ Q).length + 1 := by rw [← h3]; simp; omega
  have hl1 : S.length = (ids P ++ id :: ids Q).length := by rw [hS]; simp
  have hl2 : S.length = (ids P' ++ id :: ids Q').length := by rw [hlen, ← hlen2]; simp
  refine ⟨P.length, P'.length, ?_, ?_, h2, ?_⟩
  · have e : ids S = ids P ++ id :: ids Q := by rw [hS]; simp [ids]
    rw [e]
    have := seek_of (ids P) (ids Q) id (fun q => by
      obtain ⟨y, hy, e⟩ := List.mem_map.1 q
      exact hno y (List.mem_append_right _ hy) e) S.length (by simp only [List.length_map]; rw [hlen]; simp; omega) (by omega)
    rw [this]; simp
  · have e : ids (lowerS S id k) = ids P' ++ id :: ids Q' := by rw [hL, hD, h1]; simp [ids]
    rw [e]
    have := seek_of (ids P') (ids Q') id (fun q => by
      obtain ⟨y, hy, e⟩ := List.mem_map.1 q
      exact hno y (by rw [← h3]; exact List.mem_append_right _ hy) e) S.length (by rw [hl2]; simp) (by omega)
    rw [this]; simp
  · have e2 : S.length = (lowerS S id k).length := by rw [hL, hD, h1, hlen2, hlen]
    rw [rest_ids]
    rw [e2, rest_ids, hL, delS_ins, delS_delS]
end Go.Proofs.Ytffgjjlamdaajaa
