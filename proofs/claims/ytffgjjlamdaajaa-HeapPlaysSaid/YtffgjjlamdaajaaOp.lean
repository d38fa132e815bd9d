/- Opening an argument: a value whose cells are bools and integers, struct by struct and array by array; a slice of such. Plain lemmas over any program. -/
import Derived.Deep.Slices
import Derived.Deep.Fields
import Derived.ChangeSame
import Derived.OpenShut
import Derived.RowKit
namespace Go.Proofs.Ytffgjjlamdaajaa
open Go.ChangeShapes Go.WideShapes Go.Deep Go.RowKit

def LeafOk (v : Value) : Option IntKind → Prop
  | none => ∃ b, v = .bool b
  | some k => ∃ n, v = .int k n ∧ (Lit.int k n).wf = true

def Conf : List Value → List (Option IntKind) → Prop
  | [], [] => True
  | v :: vs, k :: ks => LeafOk v k ∧ Conf vs ks
  | _, _ => False

theorem Conf.length : ∀ {vs : List Value} {ks : List (Option IntKind)}, Conf vs ks → vs.length = ks.length
  | [], [], _ => rfl
  | _ :: _, _ :: _, h => by simp [Conf.length h.2]
  | [], _ :: _, h => h.elim
  | _ :: _, [], h => h.elim

theorem Conf.append : ∀ {a b : List Value} {k l : List (Option IntKind)}, Conf a k → Conf b l → Conf (a ++ b) (k ++ l)
  | [], _, [], _, _, h => h
  | _ :: _, _, _ :: _, _, h, h' => ⟨h.1, Conf.append h.2 h'⟩
  | [], _, _ :: _, _, h, _ => h.elim
  | _ :: _, _, [], _, h, _ => h.elim

theorem Conf.cons {vs : List Value} {k : Option IntKind} {ks : List (Option IntKind)} (h : Conf vs (k :: ks)) : ∃ v r, vs = v :: r ∧ LeafOk v k ∧ Conf r ks := by
  match vs, h with
  | v :: r, h => exact ⟨v, r, rfl, h.1, h.2⟩
theorem Conf.nil {vs : List Value} (h : Conf vs []) : vs = [] := by
  match vs, h with
  | [], _ => rfl

def flatFields (P : Program) (g : TypeId → Option (List (Option IntKind))) : List Field → Nat → Option (List (Option IntKind))
  | [], _ => some []
  | f :: r, off => if f.offset == off then
      match g f.type with
      | some ks => if ks.length == P.cellsOf f.type then (flatFields P g r (off + ks.length)).map (ks ++ ·) else none
      | none => none
    else none

def flatT (P : Program) : Nat → TypeId → Option (List (Option IntKind))
  | 0, _ => none
  | f + 1, t => match P.underlying t with
    | some .bool => some [none]
    | some (.int k) => some [some k]
    | some (.struct fs) => match flatFields P (flatT P f) fs.toList 0 with
      | some ks => if ks.length == P.cellsOf t then some ks else none
      | none => none
    | some (.array n e) => match flatT P f e with
      | some ks => if ks.length == P.cellsOf e && P.cellsOf t == n * P.cellsOf e then some (List.replicate n ks).flatten else none
      | none => none
    | _ => none

section
variable {H : Type} {enc : TypeId × Value → H} {P : Program} {w : World} {base : Nat} {spare : Nat → Bool} {held : Bool}

theorem take_split (cs : List Value) (o a b : Nat) : (cs.drop o).take (a + b) = (cs.drop o).take a ++ (cs.drop (o + a)).take b := by
  rw [List.take_add, List.drop_drop]

theorem flatFields_conf {g : TypeId → Option (List (Option IntKind))} {n : Nat} {cs : List Value}
    (hg : ∀ t ks cs x, g t = some ks → DataW.trod enc P w base spare held n t cs = some x → Conf cs ks) :
    ∀ (fl : List Field) (off : Nat) (ks : List (Option IntKind)), flatFields P g fl off = some ks →
      (∀ f ∈ fl, ∃ x, DataW.trod enc P w base spare held n f.type ((cs.drop f.offset).take (P.cellsOf f.type)) = some x) → Conf ((cs.drop off).take ks.length) ks
  | [], off, ks, h, _ => by
    simp only [flatFields, Option.some.injEq] at h
    subst h
    simp [Conf]
  | f :: r, off, ks, h, hf => by
    unfold flatFields at h
    split at h
    · rename_i ho
      have ho : f.offset = off := by simpa using ho
      split at h
      · rename_i ks1 h1
        split at h
        · rename_i hl
          have hl : ks1.length = P.cellsOf f.type := by simpa using hl
          cases h2 : flatFields P g r (off + ks1.length) with
          | none => rw [h2] at h; cases h
          | some ks2 =>
            rw [h2] at h
            simp only [Option.map_some, Option.some.injEq] at h
            subst h
            obtain ⟨x, hx⟩ := hf f (by simp)
            have c1 := hg _ _ _ _ h1 hx
            rw [ho, ← hl] at c1
            have c2 := flatFields_conf hg r _ _ h2 (fun f' hf' => hf f' (by simp [hf']))
            rw [List.length_append, take_split]
            exact c1.append c2
        · cases h
      · cases h
    · cases h

theorem rows_conf {m c : Nat} {cs : List Value} {ks : List (Option IntKind)}
    (h : ∀ i, i < m → Conf ((cs.drop (i * c)).take c) ks) : Conf (cs.take (m * c)) (List.replicate m ks).flatten := by
  induction m with
  | zero => simp [Conf]
  | succ m ih =>
    have e1 : (List.replicate (m + 1) ks).flatten = (List.replicate m ks).flatten ++ ks := by
      rw [List.replicate_succ', List.flatten_append]; simp
    rw [e1, Nat.succ_mul, List.take_add]
    exact (ih (fun i hi => h i (by omega))).append (h m (by omega))

theorem flat_conf : ∀ (f : Nat) (t : TypeId) (ks : List (Option IntKind)), flatT P f t = some ks → ∀ (n : Nat) (cs : List Value) (x : DataW H × List MemPlace), DataW.trod enc P w base spare held n t cs = some x → Conf cs ks
  | 0, _, _, h, _, _, _, _ => by cases h
  | f + 1, t, ks, h, n, cs, x, hx => by
    unfold flatT at h
    split at h
    · rename_i ht
      obtain ⟨b, rfl, _⟩ := DataW.trod_bool ht hx
      simp only [Option.some.injEq] at h
      subst h
      exact ⟨⟨b, rfl⟩, trivial⟩
    · rename_i k ht
      obtain ⟨m, rfl, _, hw⟩ := DataW.trod_int ht hx
      simp only [Option.some.injEq] at h
      subst h
      exact ⟨⟨m, rfl, hw⟩, trivial⟩
    · rename_i fs ht
      obtain ⟨xs, m, rfl, _, hlen, hxl, hg⟩ := DataW.trod_struct ht hx
      split at h
      · rename_i ks' hks
        split at h
        · rename_i hl
          simp only [Option.some.injEq] at h
          subst h
          have hl : ks'.length = P.cellsOf t := by simpa using hl
          have := flatFields_conf (cs := cs) (fun t ks cs x h1 h2 => flat_conf f t ks h1 m cs x h2) fs.toList 0 ks' hks (fun fd hfd => by
            obtain ⟨i, hi, he⟩ := List.mem_iff_getElem.1 hfd
            have hi' : i < fs.size := by simpa using hi
            have h1 := hg i fd (by rw [← he]; simp [hi'])
            have h2 : i < xs.length := by omega
            exact ⟨xs[i], by rw [h1]; simp [h2]⟩)
          rw [List.drop_zero, hl, ← hlen, List.take_length] at this
          exact this
        · cases h
      · cases h
    · rename_i m e ht
      obtain ⟨xs, n', rfl, _, hlen, hxl, hg⟩ := DataW.trod_array ht hx
      split at h
      · rename_i ks' hks
        split at h
        · rename_i hl
          simp only [Option.some.injEq] at h
          subst h
          simp only [Bool.and_eq_true, beq_iff_eq] at hl
          have := rows_conf (m := m) (c := P.cellsOf e) (cs := cs) (ks := ks') (fun i hi => by
            have h1 := hg i hi
            have h2 : i < xs.length := by omega
            rw [List.getElem?_eq_getElem h2] at h1
            exact flat_conf f e ks' hks _ _ _ h1)
          rw [← hl.2, ← hlen, List.take_length] at this
          exact this
        · cases h
      · cases h
    · cases h

theorem open_flat {r : Reach} {b0 : Nat} {t : TypeId} {f : Nat} {ks : List (Option IntKind)} {v : Value} {d : DataW H} {p : List MemPlace}
    (hs : (∃ fs, P.underlying t = some (.struct fs)) ∨ ∃ n e, P.underlying t = some (.array n e)) (hf : flatT P f t = some ks) (hv : Value.okWide P w r b0 t v)
    (h : DataW.Trod enc P w base spare held t v d p) : ∃ cs : List Value, v = .agg cs.toArray ∧ Conf cs ks := by
  obtain ⟨cs, rfl⟩ : ∃ cs, v = .agg cs := by
    rcases hs with ⟨fs, ht⟩ | ⟨n, e, ht⟩ <;> (simp only [Value.okWide, ht] at hv; obtain ⟨cs, h1, _⟩ := hv; exact ⟨cs, h1⟩)
  obtain ⟨fuel, hx⟩ := h
  exact ⟨cs.toList, by simp, flat_conf f t ks hf _ _ _ hx⟩

/-- A slice that came in: its elements' cells, row by row. -/
def SliceOf (w : World) (a : Option Addr) (len cap c : Nat) (rows : List (List Value)) : Prop :=
  rows.length = len ∧ len ≤ cap ∧ cap ≤ maxLen ∧ (∀ r ∈ rows, r.length = c) ∧
    (len * c = 0 ∨ ∃ b off, a = some ⟨b, off, none⟩ ∧ b < w.heap.size ∧ ∀ i j r v, rows[i]? = some r → r[j]? = some v → w.cell? ⟨b, off + (i * c + j), none⟩ = some v)

theorem add_eq (b off : Nat) (n : Nat) : (Addr.mk b off none).add n = ⟨b, off + n, none⟩ := by
  unfold Addr.add
  split
  · rename_i h; subst h; rfl
  · rfl

theorem open_flat_slice {r : Reach} {b0 : Nat} {t e : TypeId} {f c : Nat} {ks : List (Option IntKind)} {v : Value} {d : DataW H} {p : List MemPlace}
    (ht : P.underlying t = some (.slice e)) (hf : flatT P f e = some ks) (hc : P.cellsOf e = c) (hv : Value.okWide P w r b0 t v)
    (h : DataW.Trod enc P w base spare held t v d p) : ∃ a len cap rows, v = .slice a len cap ∧ SliceOf w a len cap c rows ∧ ∀ r ∈ rows, Conf r ks := by
  obtain ⟨a, len, cap, rfl⟩ := okWide_slice ht hv
  obtain ⟨fuel, hx⟩ := h
  rcases open_slice ht hx with ⟨h0, _⟩ | ⟨a', len', cap', m, n, D, Pl, hcs, _, hl, hm, hmm, _, hi⟩
  · simp [Value.cells] at h0
    obtain ⟨rfl, rfl, rfl⟩ := h0
    exact ⟨none, 0, 0, [], rfl, ⟨rfl, Nat.le_refl _, Nat.zero_le _, by simp, .inl (Nat.zero_mul _)⟩, by simp⟩
  · simp [Value.cells] at hcs
    obtain ⟨rfl, rfl, rfl⟩ := hcs
    have hlm : len ≤ m := by rw [hmm]; split <;> omega
    have hex : ∀ i, i < len → ∃ cs' : List Value, cs'.length = c ∧ Conf cs' ks ∧ ∀ j, j < c → w.cell? (a'.add (i * c + j)) = cs'[j]? := by
      intro i hi'
      obtain ⟨cs', h1, h2⟩ := hi i (by omega)
      rw [hc] at h1
      obtain ⟨_, h3, h4⟩ := World.cells?_some h1
      refine ⟨cs', h3, flat_conf f e ks hf _ _ _ h2, fun j hj => ?_⟩
      have h5 := h4 j hj
      rw [add_add] at h5
      rw [h5]
    obtain ⟨g, hg⟩ := choose_lt hex
    refine ⟨some a', len, cap, (List.range len).map g, rfl, ⟨by simp, hl, hm, ?_, ?_⟩, ?_⟩
    · intro r hr
      obtain ⟨i, hi', rfl⟩ := List.mem_map.1 hr
      exact (hg i (List.mem_range.1 hi')).1
    · by_cases hz : len * c = 0
      · exact .inl hz
      · refine .inr ?_
        have hl0 : 0 < len := Nat.pos_of_ne_zero (fun e => hz (by rw [e, Nat.zero_mul]))
        have hc0 : 0 < c := Nat.pos_of_ne_zero (fun e => hz (by rw [e, Nat.mul_zero]))
        obtain ⟨g1, _, g3⟩ := hg 0 hl0
        have h6 := g3 0 hc0
        have h7 : w.cell? (a'.add (0 * c + 0)) = some ((g 0)[0]'(by omega)) := by rw [h6]; simp [g1, hc0]
        obtain ⟨b, off, spot⟩ := a'
        have hspot : spot = none := by simpa [Addr.add] using World.cell?_spot h7
        subst hspot
        rw [add_eq] at h7
        refine ⟨b, off, rfl, World.block_lt_of_cell? w _ h7, ?_⟩
        intro i j r v hr hv'
        rw [List.getElem?_map] at hr
        by_cases hi' : i < len
        · rw [List.getElem?_range hi'] at hr
          simp only [Option.map_some, Option.some.injEq] at hr
          subst hr
          have hj : j < c := by
            have := (List.getElem?_eq_some_iff.1 hv').1
            have := (hg i hi').1
            omega
          have := (hg i hi').2.2 j hj
          rw [add_eq] at this
          rw [this, hv']
        · rw [List.getElem?_eq_none (by simpa using hi')] at hr
          cases hr
    · intro r hr
      obtain ⟨i, hi', rfl⟩ := List.mem_map.1 hr
      exact (hg i (List.mem_range.1 hi')).2.1
end
end Go.Proofs.Ytffgjjlamdaajaa
