/- Plain laws on lists of things under keys: what a cache holds behind each call. No program is in sight. -/
import Derived.Test.YtoecclpfgdfpoaaB
namespace Go.Proofs.Ytoecclpfgdfpoaa
open Go.RowKit

abbrev Th := Int × Int

/-- Is there a thing of this key? -/
def has (l : List Th) (k : Int) : Bool := l.any fun x => x.1 == k
/-- The value of the first thing of this key; 0: there is none. -/
def val : List Th → Int → Int
  | [], _ => 0
  | x :: r, k => if x.1 = k then x.2 else val r k
/-- The place of the first thing of this key. -/
def pos : List Th → Int → Nat
  | [], _ => 0
  | x :: r, k => if x.1 = k then 0 else pos r k + 1
/-- The list without the first thing of this key. -/
def wo : List Th → Int → List Th
  | [], _ => []
  | x :: r, k => if x.1 = k then r else x :: wo r k

def getL (l : List Th) (k : Int) : List Th := if has l k then (k, val l k) :: wo l k else l
def putL (room : Int) (l : List Th) (k v : Int) : List Th := if has l k then (k, v) :: wo l k else if (l.length : Int) = room then (k, v) :: l.dropLast else (k, v) :: l
/-- The key that a put drops. -/
def goneK (room : Int) (l : List Th) (k : Int) : Int := if has l k then 0 else if (l.length : Int) = room then (l.getD (l.length - 1) (0, 0)).1 else 0
def goneB (room : Int) (l : List Th) (k : Int) : Bool := !has l k && decide ((l.length : Int) = room)
def keys (l : List Th) : List Int := l.map (·.1)

theorem has_cons (x : Th) (r : List Th) (k : Int) : has (x :: r) k = (x.1 == k || has r k) := rfl
theorem has_iff (l : List Th) (k : Int) : has l k = true ↔ k ∈ keys l := by
  simp only [has, keys, List.any_eq_true, List.mem_map, beq_iff_eq]
theorem not_has {l : List Th} {k : Int} (h : has l k = false) : ∀ j, j < l.length → (l.getD j (0, 0)).1 ≠ k := by
  intro j hj e
  have : has l k = true := (has_iff l k).2 (List.mem_map.2 ⟨l.getD j (0, 0), by rw [List.getD_eq_getElem?_getD, List.getElem?_eq_getElem hj]; exact List.getElem_mem hj, e⟩)
  rw [h] at this
  cases this

theorem pos_spec : ∀ {l : List Th} {k : Int}, has l k = true → pos l k < l.length ∧ (l.getD (pos l k) (0, 0)).1 = k ∧ (l.getD (pos l k) (0, 0)).2 = val l k ∧ (∀ j, j < pos l k → (l.getD j (0, 0)).1 ≠ k) ∧
    l.take (pos l k) ++ l.drop (pos l k + 1) = wo l k
  | [], _, h => by simp [has] at h
  | x :: r, k, h => by
    by_cases e : x.1 = k
    · simp [pos, wo, val, e]
    · have hr : has r k = true := by
        rw [has_cons] at h
        simpa [e] using h
      obtain ⟨h1, h2, h3, h4, h5⟩ := pos_spec hr
      refine ⟨?_, ?_, ?_, ?_, ?_⟩
      · simp [pos, e]; omega
      · simpa [pos, e] using h2
      · simpa [pos, e, val] using h3
      · intro j hj
        cases j with
        | zero => simpa using e
        | succ j =>
          simp only [pos, e, if_false] at hj
          simpa using h4 j (by omega)
      · simpa [pos, e, wo] using h5

theorem wo_len : ∀ {l : List Th} {k : Int}, has l k = true → (wo l k).length + 1 = l.length
  | [], _, h => by simp [has] at h
  | x :: r, k, h => by
    by_cases e : x.1 = k
    · simp [wo, e]
    · have hr : has r k = true := by
        rw [has_cons] at h
        simpa [e] using h
      have := wo_len hr
      simp [wo, e]; omega

theorem lifted_get {l : List Th} {k : Int} (h : has l k = true) : lifted l (pos l k) (k, val l k) = getL l k := by
  unfold lifted getL
  rw [if_pos h, (pos_spec h).2.2.2.2]
theorem lifted_put {room : Int} {l : List Th} {k : Int} (h : has l k = true) (v : Int) : lifted l (pos l k) (k, v) = putL room l k v := by
  unfold lifted putL
  rw [if_pos h, (pos_spec h).2.2.2.2]
theorem lifted_room {room : Int} {l : List Th} {k : Int} (h : has l k = false) (hr : (l.length : Int) ≠ room) (v : Int) : lifted (l ++ [(k, v)]) l.length (k, v) = putL room l k v := by
  unfold lifted putL
  rw [h, if_neg (by simp), if_neg hr]
  simp
theorem lifted_full {room : Int} {l : List Th} {k : Int} (h : has l k = false) (hr : (l.length : Int) = room) (h0 : 0 < l.length) (v : Int) : lifted l (l.length - 1) (k, v) = putL room l k v := by
  unfold lifted putL
  rw [h, if_neg (by simp), if_pos hr, List.dropLast_eq_take, show l.length - 1 + 1 = l.length by omega]
  simp

theorem getL_len (l : List Th) (k : Int) : (getL l k).length = l.length := by
  unfold getL
  split
  · rename_i h; have := wo_len h; simp; omega
  · rfl
theorem putL_len {room : Int} {l : List Th} (h : (l.length : Int) ≤ room) (k v : Int) (h1 : 1 ≤ room) : ((putL room l k v).length : Int) ≤ room := by
  unfold putL
  split
  · rename_i hh; have := wo_len hh; simp; omega
  · split
    · rename_i hh; simp; omega
    · simp; omega
end Go.Proofs.Ytoecclpfgdfpoaa
