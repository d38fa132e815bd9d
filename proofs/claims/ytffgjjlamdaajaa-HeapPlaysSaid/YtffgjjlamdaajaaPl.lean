/- Things by their keys: their order; rows in order; a row as a heap; what rising and sinking leave. No program is in sight. -/
import Derived.Test.YtffgjjlamdaajaaMp
namespace Go.Proofs.Ytffgjjlamdaajaa

abbrev Ky := Int × Int × Int × Int
abbrev Th := Int × Ky

def ltP (a b : Ky) : Prop := a.1 < b.1 ∨ (a.1 = b.1 ∧ (a.2.1 < b.2.1 ∨ (a.2.1 = b.2.1 ∧ (a.2.2.1 < b.2.2.1 ∨ (a.2.2.1 = b.2.2.1 ∧ a.2.2.2 < b.2.2.2)))))
def ltK (a b : Ky) : Bool := if a.1 = b.1 then (if a.2.1 = b.2.1 then (if a.2.2.1 = b.2.2.1 then decide (a.2.2.2 < b.2.2.2) else decide (a.2.2.1 < b.2.2.1)) else decide (a.2.1 < b.2.1)) else decide (a.1 < b.1)
def ahead (a b : Th) : Bool := if a.2 = b.2 then decide (a.1 < b.1) else ltK a.2 b.2
/-- The order on things. -/
def lt (a b : Th) : Prop := ltP a.2 b.2 ∨ (a.2 = b.2 ∧ a.1 < b.1)

theorem ltK_iff (a b : Ky) : ltK a b = true ↔ ltP a b := by
  obtain ⟨a1, a2, a3, a4⟩ := a
  obtain ⟨b1, b2, b3, b4⟩ := b
  unfold ltK ltP
  dsimp only
  split
  · split
    · split
      · simp only [decide_eq_true_eq]; omega
      · simp only [decide_eq_true_eq]; omega
    · simp only [decide_eq_true_eq]; omega
  · simp only [decide_eq_true_eq]; omega

theorem ltP_irr (a : Ky) : ¬ ltP a a := by unfold ltP; omega
theorem ltP_trans {a b c : Ky} (h : ltP a b) (k : ltP b c) : ltP a c := by unfold ltP at *; omega
theorem ltP_tri (a b : Ky) : ltP a b ∨ a = b ∨ ltP b a := by
  obtain ⟨a1, a2, a3, a4⟩ := a
  obtain ⟨b1, b2, b3, b4⟩ := b
  simp only [ltP, Prod.mk.injEq]
  omega
theorem ltK_irr (a : Ky) : ltK a a = false := by
  cases h : ltK a a
  · rfl
  · exact absurd ((ltK_iff _ _).1 h) (ltP_irr a)

theorem ahead_iff (a b : Th) : ahead a b = true ↔ lt a b := by
  unfold ahead lt
  split
  · rename_i h
    simp only [decide_eq_true_eq]
    constructor
    · exact fun k => .inr ⟨h, k⟩
    · rintro (k | ⟨_, k⟩)
      · rw [h] at k; exact absurd k (ltP_irr _)
      · exact k
  · rename_i h
    rw [ltK_iff]
    exact ⟨.inl, fun k => k.elim id (fun k => absurd k.1 h)⟩
theorem ahead_false (a b : Th) : ahead a b = false ↔ ¬ lt a b := by rw [← ahead_iff]; simp

theorem lt_irr (a : Th) : ¬ lt a a := by
  rintro (h | ⟨_, h⟩)
  · exact ltP_irr _ h
  · omega
theorem lt_trans {a b c : Th} (h : lt a b) (k : lt b c) : lt a c := by
  rcases h with h | ⟨h1, h2⟩
  · rcases k with k | ⟨k1, k2⟩
    · exact .inl (ltP_trans h k)
    · exact .inl (k1 ▸ h)
  · rcases k with k | ⟨k1, k2⟩
    · exact .inl (h1 ▸ k)
    · exact .inr ⟨h1.trans k1, by omega⟩
theorem lt_tri (a b : Th) : lt a b ∨ a = b ∨ lt b a := by
  rcases ltP_tri a.2 b.2 with h | h | h
  · exact .inl (.inl h)
  · rcases Int.lt_trichotomy a.1 b.1 with k | k | k
    · exact .inl (.inr ⟨h, k⟩)
    · exact .inr (.inl (Prod.ext k h))
    · exact .inr (.inr (.inr ⟨h.symm, k⟩))
  · exact .inr (.inr (.inl h))
theorem lt_asymm {a b : Th} (h : lt a b) (k : lt b a) : False := lt_irr _ (lt_trans h k)
theorem nlt_trans {a b c : Th} (h : ¬ lt b a) (k : ¬ lt c b) : ¬ lt c a := fun q => by
  rcases lt_tri a b with h1 | h1 | h1
  · exact k (lt_trans q h1)
  · subst h1; exact k q
  · exact h h1

/-! ### rows in order -/
def Sorted (S : List Th) : Prop := S.Pairwise lt
def ins (x : Th) : List Th → List Th
  | [] => [x]
  | y :: r => if ahead x y then x :: y :: r else y :: ins x r

theorem ins_perm (x : Th) : ∀ S, (ins x S).Perm (x :: S)
  | [] => .refl _
  | y :: r => by
    unfold ins
    split
    · exact .refl _
    · exact ((ins_perm x r).cons y).trans (.swap x y r)
theorem mem_ins {x y : Th} {S : List Th} : y ∈ ins x S ↔ y = x ∨ y ∈ S := by rw [(ins_perm x S).mem_iff, List.mem_cons]
theorem ins_sorted {x : Th} : ∀ {S : List Th}, Sorted S → x ∉ S → Sorted (ins x S)
  | [], _, _ => List.pairwise_singleton _ _
  | y :: r, h, hx => by
    obtain ⟨h1, h2⟩ := List.pairwise_cons.1 h
    unfold ins
    split
    · rename_i ha
      have ha' := (ahead_iff _ _).1 ha
      refine List.pairwise_cons.2 ⟨fun z hz => ?_, h⟩
      rcases List.mem_cons.1 hz with rfl | hz
      · exact ha'
      · exact lt_trans ha' (h1 z hz)
    · rename_i ha
      have ha' : lt y x := by
        rcases lt_tri x y with q | q | q
        · exact absurd ((ahead_iff _ _).2 q) ha
        · exact absurd (q ▸ List.mem_cons_self) hx
        · exact q
      refine List.pairwise_cons.2 ⟨fun z hz => ?_, ins_sorted h2 (fun q => hx (List.mem_cons_of_mem _ q))⟩
      rcases mem_ins.1 hz with rfl | hz
      · exact ha'
      · exact h1 z hz
theorem sorted_uniq : ∀ {S S' : List Th}, Sorted S → Sorted S' → S.Perm S' → S = S'
  | [], S', _, _, hp => hp.nil_eq
  | x :: r, [], _, _, hp => hp.eq_nil
  | x :: r, y :: q, h, k, hp => by
    obtain ⟨h1, h2⟩ := List.pairwise_cons.1 h
    obtain ⟨k1, k2⟩ := List.pairwise_cons.1 k
    have e : x = y := by
      rcases List.mem_cons.1 (hp.mem_iff.1 (List.mem_cons_self (a := x) (l := r))) with e | hx
      · exact e
      · rcases List.mem_cons.1 (hp.mem_iff.2 (List.mem_cons_self (a := y) (l := q))) with e | hy
        · exact e.symm
        · exact (lt_asymm (k1 x hx) (h1 y hy)).elim
    subst e
    rw [sorted_uniq h2 k2 hp.cons_inv]
theorem Sorted.nodup {S : List Th} (h : Sorted S) : S.Nodup := List.Pairwise.imp (S := fun a b => a ≠ b) (fun {a b} q e => by subst e; exact lt_irr _ q) h

/-! ### a row as a heap -/
abbrev th0 : Th := (0, 0, 0, 0, 0)
def swp (l : List Th) (i k : Nat) : List Th := (l.set i (l.getD k th0)).set k (l.getD i th0)
theorem swp_len (l : List Th) (i k : Nat) : (swp l i k).length = l.length := by simp [swp]
theorem getD_some {l : List Th} {i : Nat} (h : i < l.length) : l[i]? = some (l.getD i th0) := by simp [h]
theorem swp_get (l : List Th) {i k j : Nat} (hi : i < l.length) (hk : k < l.length) (hj : j < l.length) : (swp l i k).getD j th0 = if j = k then l.getD i th0 else if j = i then l.getD k th0 else l.getD j th0 := by
  simp only [swp, List.getD_eq_getElem?_getD, List.getElem?_set, List.length_set]
  by_cases h1 : k = j
  · subst h1; simp [hk]
  · by_cases h2 : i = j
    · subst h2; simp [h1, hi, Ne.symm h1]
    · simp [h1, h2, Ne.symm h1, Ne.symm h2]
theorem swp_perm (l : List Th) {i k : Nat} (hi : i < l.length) (hk : k < l.length) : (swp l i k).Perm l := by
  have : swp l i k = (l.set i l[k]).set k l[i] := by simp [swp, hi, hk]
  rw [this]
  exact List.set_set_perm hi hk

/-- f tells where each thing stands. -/
structure At (l : List Th) (f : Int → Option Int) : Prop where
  at_ : ∀ j, j < l.length → f (l.getD j th0).1 = some (j : Int)
  of : ∀ k v, f k = some v → ∃ j : Nat, j < l.length ∧ v = (j : Int) ∧ (l.getD j th0).1 = k

theorem At.inj {l : List Th} {f : Int → Option Int} (h : At l f) {i j : Nat} (hi : i < l.length) (hj : j < l.length) (e : (l.getD i th0).1 = (l.getD j th0).1) : i = j := by
  have h1 := h.at_ i hi
  rw [e, h.at_ j hj] at h1
  simp at h1
  omega

theorem At.swp {l : List Th} {f : Int → Option Int} (h : At l f) {i k : Nat} (hi : i < l.length) (hk : k < l.length) : At (swp l i k) (upd (upd f (l.getD k th0).1 (some i)) (l.getD i th0).1 (some k)) := by
  refine ⟨fun j hj => ?_, fun q v hq => ?_⟩
  · rw [swp_len] at hj
    rw [swp_get l hi hk hj]
    by_cases h1 : j = k
    · subst h1; simp [upd]
    · rw [if_neg h1]
      by_cases h2 : j = i
      · subst h2
        have : ¬ (l.getD k th0).1 = (l.getD j th0).1 := fun e => h1 (h.inj hk hj e).symm
        rw [if_pos rfl]
        simp only [upd]
        rw [if_neg this]
        simp
      · rw [if_neg h2]
        have n1 : ¬ (l.getD j th0).1 = (l.getD i th0).1 := fun e => h2 (h.inj hj hi e)
        have n2 : ¬ (l.getD j th0).1 = (l.getD k th0).1 := fun e => h1 (h.inj hj hk e)
        simp only [upd]
        rw [if_neg n1, if_neg n2]
        exact h.at_ j hj
  · rw [swp_len]
    simp only [upd] at hq
    split at hq
    · rename_i e
      cases hq
      exact ⟨k, hk, rfl, by rw [swp_get l hi hk hk, if_pos rfl, e]⟩
    · split at hq
      · rename_i n1 e
        cases hq
        refine ⟨i, hi, rfl, ?_⟩
        rw [swp_get l hi hk hi]
        by_cases hik : i = k
        · subst hik; exact absurd e n1
        · rw [if_neg hik, if_pos rfl, e]
      · rename_i n1 n2
        obtain ⟨j, hj, rfl, e⟩ := h.of q v hq
        refine ⟨j, hj, rfl, ?_⟩
        rw [swp_get l hi hk hj, if_neg (fun e1 => n2 (by rw [← e, e1])), if_neg (fun e1 => n1 (by rw [← e, e1])), e]

/-- Which thing stands at a place. -/
abbrev g (l : List Th) (i : Nat) : Th := l.getD i th0
/-- No thing comes ahead of the one above it. -/
def Heaped (l : List Th) : Prop := ∀ j, 0 < j → j < l.length → ¬ lt (g l j) (g l ((j - 1) / 2))
/-- .. but at i, which may have to rise. -/
def Rises (l : List Th) (i : Nat) : Prop :=
  (∀ j, 0 < j → j < l.length → j ≠ i → ¬ lt (g l j) (g l ((j - 1) / 2))) ∧
  ∀ j, 0 < j → j < l.length → (j - 1) / 2 = i → 0 < i → ¬ lt (g l j) (g l ((i - 1) / 2))
/-- .. but below i, which may have to sink. -/
def Sinks (l : List Th) (i : Nat) : Prop :=
  (∀ j, 0 < j → j < l.length → (j - 1) / 2 ≠ i → ¬ lt (g l j) (g l ((j - 1) / 2))) ∧
  ∀ j, 0 < j → j < l.length → (j - 1) / 2 = i → 0 < i → ¬ lt (g l j) (g l ((i - 1) / 2))

theorem Rises.done {l : List Th} {i : Nat} (h : Rises l i) (hi : i = 0 ∨ ¬ lt (g l i) (g l ((i - 1) / 2))) : Heaped l := fun j h0 hj => by
  by_cases e : j = i
  · subst e
    exact hi.elim (fun e => by omega) id
  · exact h.1 j h0 hj e
theorem Sinks.done {l : List Th} {i : Nat} (h : Sinks l i) (hi : ∀ j, 0 < j → j < l.length → (j - 1) / 2 = i → ¬ lt (g l j) (g l i)) : Heaped l := fun j h0 hj => by
  by_cases e : (j - 1) / 2 = i
  · rw [e]; exact hi j h0 hj e
  · exact h.1 j h0 hj e

theorem Rises.step {l : List Th} {i : Nat} (h : Rises l i) (hi : i < l.length) (h0 : 0 < i) (ha : lt (g l i) (g l ((i - 1) / 2))) : Rises (swp l i ((i - 1) / 2)) ((i - 1) / 2) := by
  have hp : (i - 1) / 2 < l.length := by omega
  have hne : (i - 1) / 2 ≠ i := by omega
  have G : ∀ j, j < l.length → g (swp l i ((i - 1) / 2)) j = if j = (i - 1) / 2 then g l i else if j = i then g l ((i - 1) / 2) else g l j := fun j hj => swp_get l hi hp hj
  refine ⟨fun j j0 hj hjp => ?_, fun j j0 hj hjp p0 => ?_⟩
  · rw [swp_len] at hj
    rw [G j hj, if_neg hjp, G _ (by omega)]
    by_cases e : j = i
    · subst e
      rw [if_pos rfl, if_pos rfl]
      exact fun q => lt_asymm q ha
    · rw [if_neg e]
      by_cases e2 : (j - 1) / 2 = (i - 1) / 2
      · rw [if_pos e2]
        exact fun q => h.1 j j0 hj e (by rw [e2]; exact lt_trans q ha)
      · rw [if_neg e2]
        by_cases e3 : (j - 1) / 2 = i
        · rw [if_pos e3]
          exact h.2 j j0 hj e3 h0
        · rw [if_neg e3]
          exact h.1 j j0 hj e
  · rw [swp_len] at hj
    have hjne : j ≠ (i - 1) / 2 := by omega
    rw [G j hj, if_neg hjne, G (((i - 1) / 2 - 1) / 2) (by omega), if_neg (show ¬ ((i - 1) / 2 - 1) / 2 = (i - 1) / 2 by omega), if_neg (show ¬ ((i - 1) / 2 - 1) / 2 = i by omega)]
    have hpp : ¬ lt (g l ((i - 1) / 2)) (g l (((i - 1) / 2 - 1) / 2)) := h.1 ((i - 1) / 2) p0 hp hne
    by_cases e : j = i
    · rw [if_pos e]
      exact hpp
    · rw [if_neg e]
      have := h.1 j j0 hj e
      rw [hjp] at this
      exact nlt_trans hpp this

theorem Sinks.step {l : List Th} {i k : Nat} (h : Sinks l i) (hi : i < l.length) (hk : k < l.length) (k0 : 0 < k) (hki : (k - 1) / 2 = i) (ha : lt (g l k) (g l i)) (hm : ∀ j, 0 < j → j < l.length → (j - 1) / 2 = i → ¬ lt (g l j) (g l k)) : Sinks (swp l i k) k := by
  have hne : k ≠ i := by omega
  have G : ∀ j, j < l.length → g (swp l i k) j = if j = k then g l i else if j = i then g l k else g l j := fun j hj => swp_get l hi hk hj
  refine ⟨fun j j0 hj hjp => ?_, fun j j0 hj hjp _ => ?_⟩
  · rw [swp_len] at hj
    rw [G j hj, G _ (by omega), if_neg hjp]
    by_cases e : j = k
    · subst e
      rw [if_pos rfl, if_pos hki]
      exact fun q => lt_asymm q ha
    · rw [if_neg e]
      by_cases e2 : j = i
      · subst e2
        rw [if_pos rfl, if_neg (by omega)]
        exact h.2 k k0 hk hki j0
      · rw [if_neg e2]
        by_cases e3 : (j - 1) / 2 = i
        · rw [if_pos e3]
          exact hm j j0 hj e3
        · rw [if_neg e3]
          exact h.1 j j0 hj e3
  · rw [swp_len] at hj
    rw [G j hj, if_neg (by omega), if_neg (by omega), hki, G i hi, if_neg (Ne.symm hne), if_pos rfl]
    have := h.1 j j0 hj (by omega)
    rwa [hjp] at this

/-- The first thing of a heap is the first one of all. -/
theorem Heaped.first {l : List Th} (h : Heaped l) : ∀ j, j < l.length → ¬ lt (g l j) (g l 0) := by
  intro j
  induction j using Nat.strongRecOn with
  | ind j ih =>
    intro hj
    rcases Nat.eq_zero_or_pos j with rfl | h0
    · exact lt_irr _
    · exact nlt_trans (ih ((j - 1) / 2) (by omega) (by omega)) (h j h0 hj)
end Go.Proofs.Ytffgjjlamdaajaa
