/- Plain laws: the keys of a cache are those that were used last. No program is in sight but the words of the walks. -/
import Derived.Test.YtoecclpfgdfpoaaG
namespace Go.Proofs.Ytoecclpfgdfpoaa
open Go.RowKit

/-- The ones of a row, from its head on, each once. -/
def dd : List Int → List Int
  | [] => []
  | x :: r => x :: (dd r).filter (fun y => decide (y ≠ x))

/-- The loop of 'recent', over the row from its end on. -/
def gr (room : Nat) : List Int → List Int → List Int
  | out, [] => out
  | out, x :: r => if out.length < room then (if x ∈ out then gr room out r else gr room (out ++ [x]) r) else out

theorem gr_full {room : Nat} {out : List Int} (h : room ≤ out.length) : ∀ r, gr room out r = out
  | [] => rfl
  | _ :: _ => by unfold gr; rw [if_neg (by omega)]

theorem filter_filter_out (out : List Int) (x : Int) (l : List Int) (_h : x ∉ out) : (l.filter (fun y => decide (y ≠ x))).filter (fun y => decide (y ∉ out)) = l.filter (fun y => decide (y ∉ out ++ [x])) := by
  rw [List.filter_filter]
  apply List.filter_congr
  intro y _
  by_cases h1 : y ∈ out <;> by_cases h2 : y = x <;> simp [h1, h2]

theorem gr_eq {room : Nat} : ∀ (r out : List Int), out.length ≤ room → gr room out r = out ++ ((dd r).filter (fun y => decide (y ∉ out))).take (room - out.length)
  | [], out, _ => by simp [gr, dd]
  | x :: r, out, h => by
    unfold gr
    by_cases hl : out.length < room
    · rw [if_pos hl]
      by_cases hx : x ∈ out
      · rw [if_pos hx, gr_eq r out h]
        congr 2
        simp only [dd, List.filter_cons, hx, not_true, decide_false, if_false, Bool.false_eq_true]
        rw [List.filter_filter]
        apply List.filter_congr
        intro y _
        by_cases h1 : y ∈ out
        · simp [h1]
        · have : y ≠ x := fun e => h1 (e ▸ hx)
          simp [h1, this]
      · rw [if_neg hx, gr_eq r (out ++ [x]) (by simp; omega)]
        simp only [dd, List.filter_cons, hx, not_false_eq_true, decide_true, if_true]
        rw [filter_filter_out out x _ hx, show room - out.length = (room - (out ++ [x]).length) + 1 by simp; omega, List.take_succ_cons]
        simp
    · rw [if_neg hl, show room - out.length = 0 by omega]
      simp

/-- The keys that were used last, up to so many: the row is told from its head on. -/
def rcn (room : Nat) (uses : List Int) : List Int := (dd uses.reverse).take room

theorem gr_rcn (room : Nat) (uses : List Int) : gr room [] uses.reverse = rcn room uses := by
  rw [gr_eq _ _ (by simp)]
  have : (dd uses.reverse).filter (fun y => decide (y ∉ ([] : List Int))) = dd uses.reverse := List.filter_eq_self.2 (fun y _ => by simp)
  rw [this]
  rfl

theorem dd_nodup : ∀ l, (dd l).Nodup
  | [] => by simp [dd]
  | x :: r => by
    unfold dd
    rw [List.nodup_cons]
    refine ⟨by simp, (dd_nodup r).filter _⟩

/-- The list without a key, of lists of keys. -/
def woK : List Int → Int → List Int
  | [], _ => []
  | x :: r, k => if x = k then r else x :: woK r k
theorem keys_wo : ∀ (l : List Th) (k : Int), keys (wo l k) = woK (keys l) k
  | [], _ => rfl
  | x :: r, k => by
    by_cases e : x.1 = k
    · simp [wo, keys, woK, e]
    · have := keys_wo r k
      simp only [keys] at this
      simp [wo, keys, woK, e, this]
theorem woK_filter : ∀ (l : List Int) (k : Int), l.Nodup → woK l k = l.filter (fun y => decide (y ≠ k))
  | [], _, _ => rfl
  | x :: r, k, h => by
    rw [List.nodup_cons] at h
    by_cases e : x = k
    · subst e
      have : r.filter (fun y => decide (y ≠ x)) = r := List.filter_eq_self.2 (fun y hy => by simp; exact fun e => h.1 (e ▸ hy))
      simp only [woK, if_true, List.filter_cons, ne_eq, not_true, decide_false, Bool.false_eq_true, if_false]
      simp only [ne_eq] at this
      rw [this]
    · simp [woK, e, woK_filter r k h.2]

theorem take_filter_ne (k : Int) : ∀ (l : List Int) (n : Nat), k ∈ l.take (n + 1) → l.Nodup → (l.filter (fun y => decide (y ≠ k))).take n = (l.take (n + 1)).filter (fun y => decide (y ≠ k))
  | [], _, h, _ => by simp at h
  | x :: r, n, h, hn => by
    rw [List.nodup_cons] at hn
    by_cases e : x = k
    · subst e
      have h1 : r.filter (fun y => decide (y ≠ x)) = r := List.filter_eq_self.2 (fun y hy => by simp; exact fun e => hn.1 (e ▸ hy))
      have h2 : (r.take n).filter (fun y => decide (y ≠ x)) = r.take n := List.filter_eq_self.2 (fun y hy => by simp; exact fun e => hn.1 (e ▸ List.mem_of_mem_take hy))
      simp only [List.take_succ_cons, List.filter_cons, ne_eq, not_true, decide_false, Bool.false_eq_true, if_false]
      simp only [ne_eq] at h1 h2
      rw [h1, h2]
    · cases n with
      | zero => simp at h; exact absurd h.symm e
      | succ n =>
        have h' : k ∈ r.take (n + 1) := by
          rw [List.take_succ_cons, List.mem_cons] at h
          exact h.resolve_left (fun e2 => e e2.symm)
        have := take_filter_ne k r n h' hn.2
        simp only [List.take_succ_cons (i := n + 1), List.filter_cons, e, not_false_eq_true, ne_eq, decide_true, if_true, List.take_succ_cons]
        simp only [ne_eq] at this
        rw [this]

theorem take_filter_out (k : Int) (l : List Int) (n : Nat) (h : k ∉ l.take (n + 1)) (hl : n < l.length) : (l.filter (fun y => decide (y ≠ k))).take n = l.take n := by
  have hsp : l = l.take (n + 1) ++ l.drop (n + 1) := (List.take_append_drop _ _).symm
  have h1 : (l.take (n + 1)).filter (fun y => decide (y ≠ k)) = l.take (n + 1) := List.filter_eq_self.2 (fun y hy => by simp; exact fun e => h (e ▸ hy))
  conv => lhs; rw [hsp, List.filter_append, h1]
  rw [List.take_append_of_le_length (by rw [List.length_take]; omega), List.take_take, Nat.min_eq_left (by omega)]

/-- Behind a use of a key. -/
theorem rcn_use (r : Nat) (uses : List Int) (k : Int) : rcn (r + 1) (uses ++ [k]) = k :: ((dd uses.reverse).filter (fun y => decide (y ≠ k))).take r := by
  unfold rcn
  rw [List.reverse_append]
  simp [dd]

/-- A key that is there is used. -/
theorem rcn_has {r : Nat} {uses : List Int} {k : Int} {l : List Th} (h : keys l = rcn (r + 1) uses) (hk : k ∈ keys l) : rcn (r + 1) (uses ++ [k]) = k :: keys (wo l k) := by
  have hn : (keys l).Nodup := by rw [h]; exact (List.take_sublist _ _).nodup (dd_nodup _)
  rw [rcn_use, keys_wo, woK_filter _ _ hn]
  congr 1
  have hk' : k ∈ (dd uses.reverse).take (r + 1) := by rw [h] at hk; exact hk
  rw [take_filter_ne k _ r hk' (dd_nodup _), h]
  rfl

theorem rcn_put {r : Nat} {uses : List Int} {k v : Int} {l : List Th} (h : keys l = rcn (r + 1) uses) : keys (putL ((r + 1 : Nat) : Int) l k v) = rcn (r + 1) (uses ++ [k]) := by
  by_cases hk : has l k = true
  · have hk' := (has_iff l k).1 hk
    rw [rcn_has h hk']
    unfold putL
    rw [if_pos hk]
    rfl
  · have hk2 : has l k = false := by simpa using hk
    have hk' : k ∉ keys l := fun e => hk ((has_iff l k).2 e)
    have hlen : l.length = ((dd uses.reverse).take (r + 1)).length := by
      have := congrArg List.length h
      rw [keys_len] at this
      exact this
    rw [List.length_take] at hlen
    have hk3 : k ∉ (dd uses.reverse).take (r + 1) := by rw [h] at hk'; exact hk'
    rw [rcn_use]
    unfold putL
    rw [hk2, if_neg (by simp)]
    by_cases hl : (l.length : Int) = ((r + 1 : Nat) : Int)
    · rw [if_pos hl, take_filter_out k _ r hk3 (by omega)]
      simp only [keys, List.map_cons, List.map_dropLast]
      congr 1
      have h' : l.map (·.1) = (dd uses.reverse).take (r + 1) := h
      rw [h', List.dropLast_eq_take, List.length_take, List.take_take]
      congr 1
      omega
    · rw [if_neg hl]
      simp only [keys, List.map_cons]
      congr 1
      have h' : l.map (·.1) = (dd uses.reverse).take (r + 1) := h
      rw [h', List.take_of_length_le (by omega)]
      rw [List.take_of_length_le (by omega)] at hk3
      have : (dd uses.reverse).filter (fun y => decide (y ≠ k)) = dd uses.reverse := List.filter_eq_self.2 (fun y hy => by simp; exact fun e => hk3 (e ▸ hy))
      rw [this, List.take_of_length_le (by omega)]

theorem rcn_get {r : Nat} {uses : List Int} {k : Int} {l : List Th} (h : keys l = rcn (r + 1) uses) (hk : has l k = true) : keys (getL l k) = rcn (r + 1) (uses ++ [k]) := by
  rw [rcn_has h ((has_iff l k).1 hk)]
  unfold getL
  rw [if_pos hk]
  rfl

/-- Is the act a put? -/
def isPut (a : Ac) : Bool := a.1 != 0 && a.1 != 1 && a.1 != 2
/-- What was put under a key last: the acts are told from the last one on. -/
def lp : List Ac → Int → Int
  | [], _ => 0
  | a :: r, k => if isPut a && a.2.1 == k then a.2.2 else lp r k
def lastPut (acts : List Ac) (k : Int) : Int := lp acts.reverse k

theorem lastPut_snoc (acts : List Ac) (a : Ac) (k : Int) : lastPut (acts ++ [a]) k = if isPut a && a.2.1 == k then a.2.2 else lastPut acts k := by
  unfold lastPut
  rw [List.reverse_append]
  rfl

theorem val_wo : ∀ (l : List Th) (k j : Int), j ≠ k → val (wo l k) j = val l j
  | [], _, _, _ => rfl
  | x :: r, k, j, h => by
    by_cases e : x.1 = k
    · have : x.1 ≠ j := fun e2 => h (by rw [← e2, e])
      simp [wo, e, val, show ¬ k = j from fun e2 => h e2.symm]
    · by_cases e2 : x.1 = j
      · subst e2; simp [wo, val, h]
      · simp [wo, e, val, e2, val_wo r k j h]

theorem val_take : ∀ (l : List Th) (n : Nat) (k : Int), k ∈ keys (l.take n) → val (l.take n) k = val l k
  | [], _, _, h => by simp [keys] at h
  | x :: r, 0, k, h => by simp [keys] at h
  | x :: r, n + 1, k, h => by
    by_cases e : x.1 = k
    · simp [val, e]
    · have h' : k ∈ keys (r.take n) := by
        simp only [keys, List.take_succ_cons, List.map_cons, List.mem_cons] at h
        exact h.resolve_left (fun e2 => e e2.symm)
      simp [val, e, val_take r n k h']

theorem val_cons_self (k v : Int) (l : List Th) : val ((k, v) :: l) k = v := by simp [val]
theorem val_cons_ne {k j : Int} (h : j ≠ k) (v : Int) (l : List Th) : val ((k, v) :: l) j = val l j := by
  simp [val, show ¬ k = j from fun e => h e.symm]

theorem val_put {room : Int} {l : List Th} {k v j : Int} (hj : j ∈ keys (putL room l k v)) : val (putL room l k v) j = if k = j then v else val l j := by
  by_cases e : k = j
  · subst e
    rw [if_pos rfl]
    unfold putL
    split
    · exact val_cons_self ..
    · split <;> exact val_cons_self ..
  · rw [if_neg e]
    have ne : j ≠ k := fun e2 => e e2.symm
    unfold putL at hj ⊢
    split at hj
    · rename_i h; rw [if_pos h, val_cons_ne ne, val_wo l k j ne]
    · rename_i h
      rw [if_neg h]
      split at hj
      · rename_i h2
        rw [if_pos h2, val_cons_ne ne, List.dropLast_eq_take]
        rw [List.dropLast_eq_take] at hj
        simp only [keys, List.map_cons, List.mem_cons] at hj
        exact val_take l _ j (hj.resolve_left ne)
      · rename_i h2
        rw [if_neg h2, val_cons_ne ne]

theorem val_get {l : List Th} {k j : Int} (_hj : j ∈ keys (getL l k)) : val (getL l k) j = val l j := by
  unfold getL
  split
  · by_cases e : j = k
    · subst e; exact val_cons_self ..
    · rw [val_cons_ne e, val_wo l k j e]
  · rfl

theorem keys_get_mem {l : List Th} {k j : Int} (h : j ∈ keys (getL l k)) : j ∈ keys l := by
  unfold getL at h
  split at h
  · rename_i hk
    simp only [keys, List.map_cons, List.mem_cons] at h
    rcases h with e | h
    · rw [e]; exact (has_iff l k).1 hk
    · rw [← keys, keys_wo] at h
      exact woK_mem _ _ _ h
  · exact h
where
  woK_mem : ∀ (l : List Int) (k j : Int), j ∈ woK l k → j ∈ l
    | [], _, _, h => by simp [woK] at h
    | x :: r, k, j, h => by
      by_cases e : x = k
      · simp [woK, e] at h; exact List.mem_cons_of_mem _ h
      · simp [woK, e] at h
        rcases h with h | h
        · rw [h]; exact List.mem_cons_self
        · exact List.mem_cons_of_mem _ (woK_mem r k j h)

theorem keys_put_mem {room : Int} {l : List Th} {k v j : Int} (h : j ∈ keys (putL room l k v)) : j = k ∨ j ∈ keys l := by
  unfold putL at h
  split at h
  · simp only [keys, List.map_cons, List.mem_cons] at h
    rcases h with e | h
    · exact .inl e
    · rw [← keys, keys_wo] at h
      exact .inr (keys_get_mem.woK_mem _ _ _ h)
  · split at h
    · simp only [keys, List.map_cons, List.mem_cons] at h
      rcases h with e | h
      · exact .inl e
      · rw [List.map_dropLast] at h
        exact .inr (List.dropLast_subset _ h)
    · simp only [keys, List.map_cons, List.mem_cons] at h
      exact h

/-- What holds of a cache behind acts. -/
structure LastInv (r : Nat) (acts : List Ac) (uses : List Int) (l : List Th) : Prop where
  ks : keys l = rcn (r + 1) uses
  vs : ∀ k, k ∈ keys l → val l k = lastPut acts k
  us : uses.length ≤ acts.length

theorem LastInv.start (r : Nat) : LastInv r [] [] [] := ⟨rfl, fun k h => by simp [keys] at h, by simp⟩

theorem LastInv.len {r : Nat} {acts : List Ac} {uses : List Int} {l : List Th} (h : LastInv r acts uses l) : (l.length : Int) ≤ ((r + 1 : Nat) : Int) := by
  have := congrArg List.length h.ks
  rw [keys_len] at this
  unfold rcn at this
  rw [List.length_take] at this
  omega

theorem LastInv.put {r : Nat} {acts : List Ac} {uses : List Int} {l : List Th} (h : LastInv r acts uses l) {a : Ac} (ha : isPut a = true) :
    LastInv r (acts ++ [a]) (uses ++ [a.2.1]) (putL ((r + 1 : Nat) : Int) l a.2.1 a.2.2) := by
  refine ⟨rcn_put h.ks, fun k hk => ?_, by simp; exact h.us⟩
  rw [val_put hk, lastPut_snoc, ha]
  by_cases e : a.2.1 = k
  · simp [e]
  · rw [if_neg e, if_neg (by simp [e])]
    exact h.vs k ((keys_put_mem hk).resolve_left (fun e2 => e e2.symm))

theorem LastInv.get {r : Nat} {acts : List Ac} {uses : List Int} {l : List Th} (h : LastInv r acts uses l) {a : Ac} (ha : isPut a = false) (hk : has l a.2.1 = true) :
    LastInv r (acts ++ [a]) (uses ++ [a.2.1]) (getL l a.2.1) := by
  refine ⟨rcn_get h.ks hk, fun k hk => ?_, by simp; exact h.us⟩
  rw [val_get hk, lastPut_snoc, ha]
  exact h.vs k (keys_get_mem hk)

theorem LastInv.pass {r : Nat} {acts : List Ac} {uses : List Int} {l : List Th} (h : LastInv r acts uses l) {a : Ac} (ha : isPut a = false) : LastInv r (acts ++ [a]) uses l :=
  ⟨h.ks, fun k hk => by rw [lastPut_snoc, ha]; exact h.vs k hk, by have := h.us; simp; omega⟩
end Go.Proofs.Ytoecclpfgdfpoaa
