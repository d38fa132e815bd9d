/- What is put into a heap, lowered, taken out of it: the row, where things stand, and the things in order. No program is in sight. -/
import Derived.Test.YtffgjjlamdaajaaPl
namespace Go.Proofs.Ytffgjjlamdaajaa

theorem At.nil : At [] (fun _ => none) := ⟨fun j h => by simp at h, by simp⟩
theorem At.push {l : List Th} {f : Int → Option Int} (h : At l f) {x : Th} (hx : f x.1 = none) : At (l ++ [x]) (upd f x.1 (some (l.length : Int))) := by
  refine ⟨fun j hj => ?_, fun k v hk => ?_⟩
  · by_cases e : j = l.length
    · subst e
      simp [List.getD_eq_getElem?_getD, upd]
    · have hj' : j < l.length := by simp at hj; omega
      have e1 : (l ++ [x]).getD j th0 = l.getD j th0 := by simp [List.getD_eq_getElem?_getD, List.getElem?_append_left hj']
      rw [e1]
      have := h.at_ j hj'
      simp only [upd]
      rw [if_neg (fun q => by rw [q, hx] at this; cases this)]
      exact this
  · simp only [upd] at hk
    split at hk
    · rename_i e
      cases hk
      exact ⟨l.length, by simp, rfl, by simp [List.getD_eq_getElem?_getD, e]⟩
    · obtain ⟨j, hj, rfl, e⟩ := h.of k v hk
      exact ⟨j, by simp; omega, rfl, by simpa [List.getD_eq_getElem?_getD, List.getElem?_append_left hj] using e⟩
theorem g_set {l : List Th} {i j : Nat} (x : Th) (hi : i < l.length) : g (l.set i x) j = if j = i then x else g l j := by
  simp only [g, List.getD_eq_getElem?_getD, List.getElem?_set]
  by_cases e : i = j
  · subst e; simp [hi]
  · simp [e, Ne.symm e]
theorem At.rekey {l : List Th} {f : Int → Option Int} (h : At l f) {i : Nat} (hi : i < l.length) (k : Ky) : At (l.set i ((g l i).1, k)) f := by
  have e : ∀ j, (g (l.set i ((g l i).1, k)) j).1 = (g l j).1 := fun j => by
    rw [g_set _ hi]
    split
    · rename_i q; rw [q]
    · rfl
  refine ⟨fun j hj => ?_, fun q v hq => ?_⟩
  · rw [List.length_set] at hj
    have := h.at_ j hj
    rw [← this]
    exact congrArg f (e j)
  · obtain ⟨j, hj, rfl, e1⟩ := h.of q v hq
    exact ⟨j, by simpa using hj, rfl, (e j).trans e1⟩
theorem g_take {l : List Th} {n j : Nat} (h : j < n) : g (l.take n) j = g l j := by simp [g, List.getD_eq_getElem?_getD, h]
theorem At.last {l : List Th} {f : Int → Option Int} (h : At l f) {n : Nat} (hn : l.length = n + 1) : At (l.take n) (upd f (g l n).1 none) := by
  refine ⟨fun j hj => ?_, fun q v hq => ?_⟩
  · have hj' : j < n := by simp at hj; omega
    have e : (l.take n).getD j th0 = l.getD j th0 := g_take hj'
    rw [e]
    simp only [upd]
    rw [if_neg (fun q => by have := h.inj (by omega) (by omega) q; omega)]
    exact h.at_ j (by omega)
  · simp only [upd] at hq
    split at hq
    · cases hq
    · rename_i ne
      obtain ⟨j, hj, rfl, e1⟩ := h.of q v hq
      have hjn : j ≠ n := fun e2 => ne (by rw [← e1, e2])
      refine ⟨j, by simp; omega, rfl, ?_⟩
      have e : (l.take n).getD j th0 = l.getD j th0 := g_take (by omega)
      rw [e]
      exact e1

theorem Heaped.nil : Heaped [] := fun j h0 hj => by simp at hj
theorem Heaped.push {l : List Th} (h : Heaped l) (x : Th) : Rises (l ++ [x]) l.length := by
  have e : ∀ j, j < l.length → g (l ++ [x]) j = g l j := fun j hj => by simp [g, List.getD_eq_getElem?_getD, List.getElem?_append_left hj]
  refine ⟨fun j j0 hj hne => ?_, fun j j0 hj e1 _ => ?_⟩
  · have hj' : j < l.length := by simp at hj; omega
    rw [e j hj', e _ (by omega)]
    exact h j j0 hj'
  · simp at hj; omega
theorem Heaped.rekey {l : List Th} (h : Heaped l) {i : Nat} (hi : i < l.length) {x : Th} (hx : lt x (g l i)) : Rises (l.set i x) i := by
  refine ⟨fun j j0 hj hne => ?_, fun j j0 hj e1 i0 => ?_⟩
  · rw [List.length_set] at hj
    rw [g_set _ hi, g_set _ hi, if_neg hne]
    split
    · rename_i e2
      have := h j j0 hj
      rw [e2] at this
      exact fun q => this (lt_trans q hx)
    · exact h j j0 hj
  · rw [List.length_set] at hj
    rw [g_set _ hi, g_set _ hi, if_neg (by omega), if_neg (by omega)]
    have a := h j j0 hj
    rw [e1] at a
    exact nlt_trans (h i i0 hi) a
theorem Heaped.pop {l : List Th} (h : Heaped l) {n : Nat} (hn : l.length = n + 1) : Sinks ((swp l 0 n).take n) 0 := by
  have G : ∀ j, 0 < j → j < n → g ((swp l 0 n).take n) j = g l j := fun j j0 hj => by
    rw [g_take hj]
    have := swp_get l (i := 0) (k := n) (j := j) (by omega) (by omega) (by omega)
    rw [if_neg (by omega), if_neg (by omega)] at this
    exact this
  refine ⟨fun j j0 hj hne => ?_, fun j j0 hj _ i0 => by omega⟩
  have hj' : j < n := by simp [swp_len] at hj; omega
  rw [G j j0 hj', G _ (by omega) (by omega)]
  exact h j j0 (by omega)

/-! ### the things in order -/
def hasS (S : List Th) (id : Int) : Bool := S.any (fun x => x.1 == id)
def keyS (S : List Th) (id : Int) : Ky := ((S.find? (fun x => x.1 == id)).getD th0).2
def delS (S : List Th) (id : Int) : List Th := S.filter (fun x => !(x.1 == id))
def pushS (S : List Th) (id : Int) (k : Ky) : List Th := if hasS S id then S else ins (id, k) S
def lowerB (S : List Th) (id : Int) (k : Ky) : Bool := hasS S id && ltK k (keyS S id)
def lowerS (S : List Th) (id : Int) (k : Ky) : List Th := if lowerB S id k then ins (id, k) (delS S id) else S
def lowerE (S : List Th) (id : Int) (k : Ky) : Int := if hasS S id then (if ltK k (keyS S id) then 0 else 1) else 14

/-- Each thing once. -/
def Once (S : List Th) : Prop := S.Pairwise (fun a b => a.1 ≠ b.1)

theorem hasS_iff {S : List Th} {id : Int} : hasS S id = true ↔ ∃ x ∈ S, x.1 = id := by simp [hasS]
theorem hasS_no {S : List Th} {id : Int} (h : hasS S id = false) : ∀ x ∈ S, x.1 ≠ id := fun x hx e => by
  have := hasS_iff.2 ⟨x, hx, e⟩
  rw [h] at this; cases this
theorem Once.perm {S T : List Th} (h : Once S) (hp : S.Perm T) : Once T := (hp.pairwise_iff (fun q => Ne.symm q)).1 h
theorem Once.uniq : ∀ {S : List Th}, Once S → ∀ {x y : Th}, x ∈ S → y ∈ S → x.1 = y.1 → x = y
  | [], _, _, _, hx, _, _ => by simp at hx
  | a :: r, h, x, y, hx, hy, e => by
    obtain ⟨h1, h2⟩ := List.pairwise_cons.1 h
    rcases List.mem_cons.1 hx with ex | hx
    · rcases List.mem_cons.1 hy with ey | hy
      · rw [ex, ey]
      · exact absurd (ex ▸ e) (h1 y hy)
    · rcases List.mem_cons.1 hy with ey | hy
      · exact absurd (ey ▸ e.symm) (h1 x hx)
      · exact Once.uniq h2 hx hy e
theorem keyS_of {S : List Th} (h : Once S) {x : Th} (hx : x ∈ S) : keyS S x.1 = x.2 := by
  unfold keyS
  cases hf : S.find? (fun y => y.1 == x.1) with
  | none =>
    have := List.find?_eq_none.1 hf x hx
    simp at this
  | some y =>
    have h1 := List.mem_of_find?_eq_some hf
    have h2 := List.find?_some hf
    simp at h2
    rw [h.uniq h1 hx h2]; rfl
theorem keyS_mem {S : List Th} (h : Once S) {id : Int} (hh : hasS S id = true) : (id, keyS S id) ∈ S := by
  obtain ⟨x, hx, rfl⟩ := hasS_iff.1 hh
  rw [keyS_of h hx]
  exact hx

theorem At.once {l : List Th} {f : Int → Option Int} (h : At l f) : Once l := by
  refine List.pairwise_iff_getElem.2 fun i j hi hj hij e => ?_
  have := h.inj hi hj (by simpa [hi, hj] using e)
  omega
theorem At.has {l S : List Th} {f : Int → Option Int} (h : At l f) (hp : l.Perm S) (id : Int) : (f id).isSome = hasS S id := by
  rw [Bool.eq_iff_iff, hasS_iff]
  constructor
  · intro hs
    obtain ⟨v, hv⟩ := Option.isSome_iff_exists.1 hs
    obtain ⟨j, hj, _, e⟩ := h.of id v hv
    exact ⟨_, hp.mem_iff.1 (List.mem_iff_getElem?.2 ⟨j, getD_some hj⟩), e⟩
  · rintro ⟨x, hx, rfl⟩
    obtain ⟨j, hj⟩ := List.mem_iff_getElem?.1 (hp.mem_iff.2 hx)
    have hl : j < l.length := (List.getElem?_eq_some_iff.1 hj).1
    have := h.at_ j hl
    rw [getD_some hl] at hj
    cases hj
    rw [this]; rfl
theorem At.key {l S : List Th} {f : Int → Option Int} (h : At l f) (hp : l.Perm S) {id : Int} (hh : hasS S id = true) : ∃ j : Nat, j < l.length ∧ f id = some (j : Int) ∧ g l j = (id, keyS S id) := by
  have h1 := h.has hp id
  rw [hh] at h1
  obtain ⟨v, hv⟩ := Option.isSome_iff_exists.1 h1
  obtain ⟨j, hj, rfl, e⟩ := h.of id v hv
  refine ⟨j, hj, hv, ?_⟩
  have hm : g l j ∈ S := hp.mem_iff.1 (List.mem_iff_getElem?.2 ⟨j, getD_some hj⟩)
  have := keyS_of (h.once.perm hp) hm
  rw [show (g l j).1 = id from e] at this
  exact Prod.ext e this.symm

theorem filter_one {S : List Th} (h : Once S) {x : Th} (hx : x ∈ S) : S.Perm (x :: delS S x.1) := by
  induction S with
  | nil => simp at hx
  | cons y r ih =>
    obtain ⟨h1, h2⟩ := List.pairwise_cons.1 h
    by_cases e : y.1 = x.1
    · have : y = x := h.uniq (List.mem_cons_self) hx e
      subst this
      have e1 : delS (y :: r) y.1 = r := by
        simp only [delS, List.filter_cons, beq_self_eq_true, Bool.not_true, Bool.false_eq_true, if_false]
        exact List.filter_eq_self.2 fun z hz => by simpa using Ne.symm (h1 z hz)
      rw [e1]
    · have hx' : x ∈ r := by
        rcases List.mem_cons.1 hx with q | q
        · exact absurd (q ▸ rfl) e
        · exact q
      have e1 : delS (y :: r) x.1 = y :: delS r x.1 := by simp [delS, e]
      rw [e1]
      exact ((ih h2 hx').cons y).trans (.swap x y _)
theorem set_perm {l : List Th} {i : Nat} (hi : i < l.length) (x : Th) : ∃ r, l.Perm (g l i :: r) ∧ (l.set i x).Perm (x :: r) := by
  refine ⟨l.take i ++ l.drop (i + 1), ?_, ?_⟩
  · have e : l = l.take i ++ g l i :: l.drop (i + 1) := by
      have : g l i = l[i] := by simp [g, hi]
      rw [this, List.getElem_cons_drop, List.take_append_drop]
    conv => lhs; rw [e]
    exact List.perm_middle
  · rw [List.set_eq_take_append_cons_drop, if_pos hi]
    exact List.perm_middle

theorem ordered_push {l S : List Th} {id : Int} {k : Ky} (hp : l.Perm S) (hs : Sorted S) (hn : hasS S id = false) : (l ++ [(id, k)]).Perm (pushS S id k) ∧ Sorted (pushS S id k) := by
  unfold pushS
  rw [hn, if_neg (by simp)]
  exact ⟨(List.perm_append_singleton _ _).trans ((hp.cons _).trans (ins_perm _ _).symm), ins_sorted hs (fun q => hasS_no hn _ q rfl)⟩
theorem ordered_lower {l S : List Th} (ho : Once l) {id : Int} {k : Ky} (hp : l.Perm S) (hs : Sorted S) (hh : hasS S id = true) (hk : ltK k (keyS S id) = true) {i : Nat} (hi : i < l.length) (hg : g l i = (id, keyS S id)) :
    (l.set i (id, k)).Perm (lowerS S id k) ∧ Sorted (lowerS S id k) := by
  have hb : lowerB S id k = true := by simp [lowerB, hh, hk]
  unfold lowerS
  rw [if_pos hb]
  have hoS := ho.perm hp
  obtain ⟨r, h1, h2⟩ := set_perm hi (id, k)
  have h3 := filter_one hoS (keyS_mem hoS hh)
  rw [hg] at h1
  have h4 : r.Perm (delS S id) := (List.perm_cons _).1 (h1.symm.trans (hp.trans h3))
  refine ⟨h2.trans ((h4.cons _).trans (ins_perm _ _).symm), ins_sorted (hs.sublist List.filter_sublist) fun q => ?_⟩
  have := (List.mem_filter.1 q).2
  simp at this
theorem ordered_pop {l S : List Th} (hh : Heaped l) {n : Nat} (hn : l.length = n + 1) (hp : l.Perm S) (hs : Sorted S) : S = g l 0 :: S.tail ∧ ((swp l 0 n).take n).Perm S.tail ∧ Sorted S.tail := by
  cases S with
  | nil => have := hp.length_eq; rw [hn] at this; simp at this
  | cons x r =>
    obtain ⟨h1, h2⟩ := List.pairwise_cons.1 hs
    have hm : g l 0 ∈ x :: r := hp.mem_iff.1 (List.mem_iff_getElem?.2 ⟨0, getD_some (by omega)⟩)
    have e : g l 0 = x := by
      rcases List.mem_cons.1 hm with e | hm2
      · exact e
      · obtain ⟨j, hj⟩ := List.mem_iff_getElem?.1 (hp.mem_iff.2 (List.mem_cons_self (a := x) (l := r)))
        have hl : j < l.length := (List.getElem?_eq_some_iff.1 hj).1
        rw [getD_some hl] at hj
        cases hj
        exact absurd (h1 _ hm2) (hh.first j hl)
    have hsw := swp_perm l (i := 0) (k := n) (by omega) (by omega)
    have e2 : swp l 0 n = (swp l 0 n).take n ++ [g l 0] := by
      have hl : (swp l 0 n).length = n + 1 := by rw [swp_len, hn]
      have : g (swp l 0 n) n = g l 0 := by
        have := swp_get l (i := 0) (k := n) (j := n) (by omega) (by omega) (by omega)
        rw [if_pos rfl] at this
        exact this
      conv => lhs; rw [← List.take_append_drop n (swp l 0 n)]
      congr 1
      rw [List.drop_eq_getElem_cons (by omega), List.drop_of_length_le (by omega)]
      congr 1
      rw [← this]
      simp [g, hl]
    refine ⟨by rw [e]; rfl, ?_, h2⟩
    have h3 : ((swp l 0 n).take n ++ [g l 0]).Perm (x :: r) := by rw [← e2]; exact hsw.trans hp
    have h4 := (List.perm_append_singleton _ _).symm.trans h3
    rw [e] at h4
    exact (List.perm_cons _).1 h4
end Go.Proofs.Ytffgjjlamdaajaa
