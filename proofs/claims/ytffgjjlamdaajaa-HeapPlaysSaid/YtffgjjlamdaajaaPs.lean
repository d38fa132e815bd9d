/- Things put in order by their keys: what the laws on heaps ask of it. No program is in sight. -/
import Derived.Test.YtffgjjlamdaajaaPn
namespace Go.Proofs.Ytffgjjlamdaajaa

/-! ### a list of things, put in order -/
def srt (xs : List Th) : List Th := xs.foldl (fun S x => ins x S) []
theorem srt_snoc (xs : List Th) (x : Th) : srt (xs ++ [x]) = ins x (srt xs) := by simp [srt]
theorem srt_perm_aux (xs : List Th) : ∀ S : List Th, (xs.foldl (fun S x => ins x S) S).Perm (xs ++ S) := by
  induction xs with
  | nil => intro S; exact .refl _
  | cons x r ih =>
    intro S
    simp only [List.foldl_cons, List.cons_append]
    refine (ih (ins x S)).trans ?_
    refine ((ins_perm x S).append_left r).trans ?_
    exact List.perm_middle
theorem srt_perm (xs : List Th) : (srt xs).Perm xs := by
  have := srt_perm_aux xs []
  rwa [List.append_nil] at this
theorem srt_len (xs : List Th) : (srt xs).length = xs.length := (srt_perm xs).length_eq
theorem Once.nodup {S : List Th} (h : Once S) : S.Nodup := List.Pairwise.imp (S := fun a b => a ≠ b) (fun {a b} q e => q (by rw [e])) h
theorem srt_sorted_aux (xs : List Th) : ∀ S : List Th, Sorted S → (xs ++ S).Nodup → Sorted (xs.foldl (fun S x => ins x S) S) := by
  induction xs with
  | nil => intro S h _; exact h
  | cons x r ih =>
    intro S h hn
    simp only [List.foldl_cons]
    rw [List.cons_append, List.nodup_cons] at hn
    refine ih _ (ins_sorted h (fun q => hn.1 (List.mem_append_right _ q))) ?_
    refine (List.Perm.nodup_iff ?_).2 (List.nodup_cons.2 hn)
    exact ((ins_perm x S).append_left r).trans List.perm_middle
theorem srt_sorted {xs : List Th} (h : Once xs) : Sorted (srt xs) := srt_sorted_aux xs [] List.Pairwise.nil (by rw [List.append_nil]; exact h.nodup)
theorem srt_once {xs : List Th} (h : Once xs) : Once (srt xs) := h.perm (srt_perm xs).symm
theorem srt_eq {xs S : List Th} (h : Once xs) (hs : Sorted S) (hp : xs.Perm S) : S = srt xs := sorted_uniq hs (srt_sorted h) (hp.symm.trans (srt_perm xs).symm)
theorem srt_congr {xs ys : List Th} (h : Once xs) (hp : xs.Perm ys) : srt xs = srt ys := srt_eq (h.perm hp) (srt_sorted h) (hp.symm.trans (srt_perm xs).symm)
theorem hasS_perm {S T : List Th} (h : S.Perm T) (id : Int) : hasS S id = hasS T id := by
  rw [Bool.eq_iff_iff, hasS_iff, hasS_iff]
  exact ⟨fun ⟨x, hx, e⟩ => ⟨x, h.mem_iff.1 hx, e⟩, fun ⟨x, hx, e⟩ => ⟨x, h.mem_iff.2 hx, e⟩⟩
theorem hasS_srt (xs : List Th) (id : Int) : hasS (srt xs) id = hasS xs id := hasS_perm (srt_perm xs) id
theorem keyS_srt {xs : List Th} (h : Once xs) {id : Int} {k : Ky} (hm : (id, k) ∈ xs) : keyS (srt xs) id = k := keyS_of (srt_once h) (x := (id, k)) ((srt_perm xs).mem_iff.2 hm)
theorem push_srt {xs : List Th} {id : Int} {k : Ky} (hh : hasS xs id = false) : pushS (srt xs) id k = srt (xs ++ [(id, k)]) := by
  unfold pushS
  rw [hasS_srt, hh, if_neg (by simp), srt_snoc]
theorem srt_there {xs : List Th} {id : Int} {k : Ky} (hh : hasS xs id = true) : pushS (srt xs) id k = srt xs := by
  unfold pushS
  rw [hasS_srt, hh, if_pos rfl]

/-! ### things 0, 1, 2, .. -/
def tag (ks : List Ky) : List Th := ks.mapIdx (fun i k => ((i : Int), k))
theorem tag_len (ks : List Ky) : (tag ks).length = ks.length := by simp [tag]
theorem tag_get (ks : List Ky) {i : Nat} (h : i < ks.length) : g (tag ks) i = ((i : Int), ks.getD i (0, 0, 0, 0)) := by simp [g, tag, h]
theorem tag_snoc (ks : List Ky) (k : Ky) : tag (ks ++ [k]) = tag ks ++ [((ks.length : Int), k)] := by simp [tag]
theorem tag_mem {ks : List Ky} {x : Th} : x ∈ tag ks ↔ ∃ i : Nat, i < ks.length ∧ x = ((i : Int), ks.getD i (0, 0, 0, 0)) := by
  constructor
  · intro h
    obtain ⟨i, hi, e⟩ := List.mem_iff_getElem.1 h
    rw [tag_len] at hi
    exact ⟨i, hi, by rw [← e]; simp [tag, hi]⟩
  · rintro ⟨i, hi, rfl⟩
    exact List.mem_iff_getElem.2 ⟨i, by rw [tag_len]; exact hi, by simp [tag, hi]⟩
theorem tag_once (ks : List Ky) : Once (tag ks) := by
  refine List.pairwise_iff_getElem.2 fun i j hi hj hij e => ?_
  simp [tag] at e
  omega
theorem tag_has (ks : List Ky) (id : Int) : hasS (tag ks) id = decide (0 ≤ id ∧ id < ks.length) := by
  rw [Bool.eq_iff_iff, hasS_iff, decide_eq_true_eq]
  constructor
  · rintro ⟨x, hx, rfl⟩
    obtain ⟨i, hi, rfl⟩ := tag_mem.1 hx
    simp only
    omega
  · rintro ⟨h0, h1⟩
    exact ⟨(id, ks.getD id.toNat (0, 0, 0, 0)), tag_mem.2 ⟨id.toNat, by omega, by rw [show ((id.toNat : Nat) : Int) = id by omega]⟩, rfl⟩
theorem tag_set (ks : List Ky) (i : Nat) (k : Ky) : tag (ks.set i k) = (tag ks).set i ((i : Int), k) := by
  refine List.ext_getElem (by simp [tag]) fun j h1 h2 => ?_
  simp only [tag, List.getElem_mapIdx, List.getElem_set]
  split
  · rename_i e; subst e; rfl
  · rfl
theorem tag_key (ks : List Ky) {i : Nat} (h : i < ks.length) : keyS (srt (tag ks)) i = ks.getD i (0, 0, 0, 0) := keyS_srt (tag_once ks) (tag_mem.2 ⟨i, h, rfl⟩)
/-- A thing's key is made less. -/
theorem tag_lower (ks : List Ky) {i : Nat} (h : i < ks.length) {k : Ky} (hk : ltK k (ks.getD i (0, 0, 0, 0)) = true) : lowerS (srt (tag ks)) i k = srt (tag (ks.set i k)) := by
  have hh : hasS (srt (tag ks)) i = true := by rw [hasS_srt, tag_has]; simp; omega
  have h1 := ordered_lower (l := tag ks) (S := srt (tag ks)) (tag_once ks) (srt_perm _).symm (srt_sorted (tag_once ks)) hh (k := k) (by rw [tag_key ks h]; exact hk) (i := i) (by rw [tag_len]; exact h) (by rw [tag_get ks h, tag_key ks h])
  rw [tag_set]
  exact srt_eq (by rw [← tag_set]; exact tag_once _) h1.2 h1.1
theorem tag_lower_no (ks : List Ky) {i : Nat} (h : i < ks.length) {k : Ky} (hk : ltK k (ks.getD i (0, 0, 0, 0)) = false) : lowerS (srt (tag ks)) i k = srt (tag ks) := by
  unfold lowerS lowerB
  rw [tag_key ks h, hk, Bool.and_false, if_neg (by simp)]
theorem tag_lower_out (ks : List Ky) {id : Int} (h : ¬ (0 ≤ id ∧ id < ks.length)) (k : Ky) : lowerS (srt (tag ks)) id k = srt (tag ks) := by
  unfold lowerS lowerB
  rw [hasS_srt, tag_has, decide_eq_false h, Bool.false_and, if_neg (by simp)]
theorem tag_e (ks : List Ky) {i : Nat} (h : i < ks.length) (k : Ky) : lowerE (srt (tag ks)) i k = if ltK k (ks.getD i (0, 0, 0, 0)) then 0 else 1 := by
  unfold lowerE
  rw [hasS_srt, tag_has, decide_eq_true (by omega), if_pos rfl, tag_key ks h]
theorem tag_e_out (ks : List Ky) {id : Int} (h : ¬ (0 ≤ id ∧ id < ks.length)) (k : Ky) : lowerE (srt (tag ks)) id k = 14 := by
  unfold lowerE
  rw [hasS_srt, tag_has, decide_eq_false h, if_neg (by simp)]
/-- The next thing is put in. -/
theorem tag_push (l : List Ky) {i : Nat} (h : i < l.length) : pushS (srt (tag (l.take i))) i (l.getD i (0, 0, 0, 0)) = srt (tag (l.take (i + 1))) := by
  have e : l.take (i + 1) = l.take i ++ [l.getD i (0, 0, 0, 0)] := by simp [h]
  have hl : (l.take i).length = i := by simp; omega
  rw [e, tag_snoc, hl, push_srt]
  rw [tag_has, hl]
  simp
theorem tag_new (l : List Ky) {i : Nat} (h : i < l.length) : hasS (srt (tag (l.take i))) i = false := by
  rw [hasS_srt, tag_has, List.length_take]
  simp
  omega
theorem tag_there (l : List Ky) {i : Nat} (h : i < l.length) : hasS (srt (tag (l.take (i + 1)))) i = true := by
  rw [hasS_srt, tag_has, List.length_take]
  simp
  omega
theorem tag_again (l : List Ky) {i : Nat} (h : i < l.length) (k : Ky) : pushS (srt (tag (l.take (i + 1)))) i k = srt (tag (l.take (i + 1))) := by
  have := tag_there l h
  unfold pushS
  rw [this, if_pos rfl]
theorem tag_all (l : List Ky) : srt (tag (l.take l.length)) = srt (tag l) := by rw [List.take_length]
theorem tag_zero (l : List Ky) : srt (tag (l.take 0)) = [] := rfl
theorem srt_tag_len (ks : List Ky) : (srt (tag ks)).length = ks.length := by rw [srt_len, tag_len]
/-- Each thing that stands in the row is one of 0, 1, 2, .., with its key. -/
theorem srt_tag_get (ks : List Ky) {i : Nat} (h : i < ks.length) : ∃ j : Nat, j < ks.length ∧ g (srt (tag ks)) i = ((j : Int), ks.getD j (0, 0, 0, 0)) := by
  have hm : g (srt (tag ks)) i ∈ srt (tag ks) := List.mem_iff_getElem?.2 ⟨i, getD_some (by rw [srt_tag_len]; exact h)⟩
  exact tag_mem.1 ((srt_perm _).mem_iff.1 hm)
end Go.Proofs.Ytffgjjlamdaajaa
