/- Acts in memory, and plain laws on what caches hold behind puts. -/
import Derived.Test.YtoecclpfgdfpoaaF
namespace Go.Proofs.Ytoecclpfgdfpoaa
open Go.RowKit

abbrev Ac := Int × Int × Int

/-- A row of acts that can be read. -/
def RowA (w : World) (a : Option Addr) (l : List Ac) : Prop :=
  l = [] ∨ ∃ b off, a = some ⟨b, off, none⟩ ∧ b < w.heap.size ∧ ∀ i, i < l.length → w.cell? ⟨b, off + i * 3, none⟩ = some (.int .i64 (l.getD i (0, 0, 0)).1) ∧
    w.cell? ⟨b, off + i * 3 + 1, none⟩ = some (.int .i64 (l.getD i (0, 0, 0)).2.1) ∧ w.cell? ⟨b, off + i * 3 + 2, none⟩ = some (.int .i64 (l.getD i (0, 0, 0)).2.2)

theorem RowA.at_ {w w' : World} {a : Option Addr} {l : List Ac} (h : RowA w a l) (hb : Below w.heap.size w w') {k : Nat} (hk : k < l.length) :
    ∃ b off, a = some ⟨b, off, none⟩ ∧ b < w.heap.size ∧ w'.cell? ⟨b, off + k * 3, none⟩ = some (.int .i64 (l.getD k (0, 0, 0)).1) ∧
    w'.cell? ⟨b, off + k * 3 + 1, none⟩ = some (.int .i64 (l.getD k (0, 0, 0)).2.1) ∧ w'.cell? ⟨b, off + k * 3 + 2, none⟩ = some (.int .i64 (l.getD k (0, 0, 0)).2.2) := by
  rcases h with rfl | ⟨b, off, h1, h2, h3⟩
  · simp at hk
  · obtain ⟨q1, q2, q3⟩ := h3 k hk
    exact ⟨b, off, h1, h2, (hb.cell (p := ⟨b, _, none⟩) h2).trans q1, (hb.cell (p := ⟨b, _, none⟩) h2).trans q2, (hb.cell (p := ⟨b, _, none⟩) h2).trans q3⟩

/-- What a cache of this room holds behind these puts. -/
def puts (room : Int) (l : List Ac) : List Th := l.foldl (fun t a => putL room t a.2.1 a.2.2) []

theorem puts_snoc (room : Int) (l : List Ac) (k : Nat) (hk : k < l.length) : puts room (l.take (k + 1)) = putL room (puts room (l.take k)) (l.getD k (0, 0, 0)).2.1 (l.getD k (0, 0, 0)).2.2 := by
  unfold puts
  rw [List.take_succ_eq_append_getElem hk, List.foldl_append]
  simp [List.getD_eq_getElem?_getD, hk]

theorem foldl_len (room : Int) (h1 : 1 ≤ room) : ∀ (l : List Ac) (t : List Th), (t.length : Int) ≤ room → ((l.foldl (fun t a => putL room t a.2.1 a.2.2) t).length : Int) ≤ room
  | [], _, h => h
  | a :: r, _, h => foldl_len room h1 r _ (putL_len h a.2.1 a.2.2 h1)
theorem puts_len {room : Int} (h1 : 1 ≤ room) (l : List Ac) : ((puts room l).length : Int) ≤ room := foldl_len room h1 l [] (by simp; omega)

/-! ### more room -/

theorem has_app (a b : List Th) (k : Int) : has (a ++ b) k = (has a k || has b k) := by simp [has]
theorem wo_app_left : ∀ (a b : List Th) (k : Int), has a k = true → wo (a ++ b) k = wo a k ++ b
  | [], _, _, h => by simp [has] at h
  | x :: r, b, k, h => by
    by_cases e : x.1 = k
    · simp [wo, e]
    · have hr : has r k = true := by rw [has_cons] at h; simpa [e] using h
      simp [wo, e, wo_app_left r b k hr]
theorem wo_app_right : ∀ (a b : List Th) (k : Int), has a k = false → wo (a ++ b) k = a ++ wo b k
  | [], _, _, _ => rfl
  | x :: r, b, k, h => by
    rw [has_cons] at h
    simp only [Bool.or_eq_false_iff, beq_eq_false_iff_ne, ne_eq] at h
    simp [wo, h.1, wo_app_right r b k h.2]
theorem val_app_left : ∀ (a b : List Th) (k : Int), has a k = true → val (a ++ b) k = val a k
  | [], _, _, h => by simp [has] at h
  | x :: r, b, k, h => by
    by_cases e : x.1 = k
    · simp [val, e]
    · have hr : has r k = true := by rw [has_cons] at h; simpa [e] using h
      simp [val, e, val_app_left r b k hr]

theorem more_step {r q : Nat} (h1 : 1 ≤ r) (hrq : r ≤ q) {a b : List Th} (_hb : b.length ≤ q) (hab : a = b.take r) (k v : Int) :
    putL r a k v = (putL q b k v).take r := by
  obtain ⟨r, rfl⟩ : ∃ n, r = n + 1 := ⟨r - 1, by omega⟩
  have hsp : b = a ++ b.drop (r + 1) := by rw [hab, List.take_append_drop]
  have hal : a.length = min (r + 1) b.length := by rw [hab, List.length_take]
  by_cases ha : has a k = true
  · have hB : has b k = true := by rw [hsp, has_app, ha]; rfl
    have e1 : putL ((r + 1 : Nat) : Int) a k v = (k, v) :: wo a k := by unfold putL; rw [if_pos ha]
    have e2 : putL (q : Int) b k v = (k, v) :: (wo a k ++ b.drop (r + 1)) := by
      unfold putL; rw [if_pos hB, hsp, wo_app_left a _ k ha, ← hsp]
    rw [e1, e2, List.take_succ_cons]
    congr 1
    have hl := wo_len ha
    by_cases hlt : b.length ≤ r + 1
    · rw [List.drop_of_length_le hlt, List.append_nil, List.take_of_length_le (by omega)]
    · rw [List.take_append, List.take_of_length_le (by omega)]
      have : r - (wo a k).length = 0 := by omega
      rw [this]; simp
  · have ha' : has a k = false := by simpa using ha
    by_cases hB : has b k = true
    · have hC : has (b.drop (r + 1)) k = true := by rw [hsp, has_app, ha'] at hB; simpa using hB
      have hlt : r + 1 < b.length := by
        by_cases h : r + 1 < b.length
        · exact h
        · rw [List.drop_of_length_le (by omega)] at hC; simp [has] at hC
      have e1 : putL ((r + 1 : Nat) : Int) a k v = (k, v) :: a.dropLast := by
        unfold putL; rw [ha', if_neg (by simp), if_pos (by omega)]
      have e2 : putL (q : Int) b k v = (k, v) :: (a ++ wo (b.drop (r + 1)) k) := by
        unfold putL; rw [if_pos hB]
        conv => lhs; rw [hsp, wo_app_right a _ k ha']
      rw [e1, e2, List.take_succ_cons, List.dropLast_eq_take, show a.length - 1 = r by omega, List.take_append, show r - a.length = 0 by omega]
      simp
    · have hB' : has b k = false := by simpa using hB
      have e1 : putL ((r + 1 : Nat) : Int) a k v = (k, v) :: a.take r := by
        unfold putL; rw [ha', if_neg (by simp)]
        by_cases hl : (a.length : Int) = ((r + 1 : Nat) : Int)
        · rw [if_pos hl, List.dropLast_eq_take, show a.length - 1 = r by omega]
        · rw [if_neg hl, List.take_of_length_le (by omega)]
      have e2 : (putL (q : Int) b k v).take (r + 1) = (k, v) :: b.take r := by
        unfold putL; rw [hB', if_neg (by simp)]
        by_cases hl : (b.length : Int) = (q : Int)
        · rw [if_pos hl, List.take_succ_cons, List.dropLast_eq_take, List.take_take, Nat.min_eq_left (by omega)]
        · rw [if_neg hl, List.take_succ_cons]
      rw [e1, e2, hab, List.take_take, Nat.min_eq_left (by omega)]

theorem puts_nil (room : Int) : puts room [] = [] := rfl

theorem more_puts {r q : Nat} (h1 : 1 ≤ r) (hrq : r ≤ q) (l : List Ac) : ∀ j, j ≤ l.length → puts r (l.take j) = (puts q (l.take j)).take r
  | 0, _ => by simp [puts]
  | j + 1, hj => by
    rw [puts_snoc _ _ _ (by omega), puts_snoc _ _ _ (by omega)]
    exact more_step h1 hrq (by have := puts_len (room := (q : Int)) (by omega) (l.take j); omega) (more_puts h1 hrq l j (by omega)) _ _

/-- What the two caches tell, side by side. -/
theorem more_told {r : Nat} {a b : List Th} (hab : a = b.take r) : a.length ≤ b.length ∧ (keys b).take a.length = keys a ∧ ∀ i, i < a.length → has a ((keys a).getD i 0) = true ∧ has b ((keys a).getD i 0) = true ∧ val b ((keys a).getD i 0) = val a ((keys a).getD i 0) := by
  have hsp : b = a ++ b.drop r := by rw [hab, List.take_append_drop]
  refine ⟨by rw [hab, List.length_take]; omega, ?_, fun i hi => ?_⟩
  · conv => lhs; rw [hsp]
    simp [keys]
  · have h : has a ((keys a).getD i 0) = true := by
      rw [has_iff, List.getD_eq_getElem?_getD, List.getElem?_eq_getElem (by rw [keys_len]; exact hi)]
      exact List.getElem_mem _
    refine ⟨h, ?_, ?_⟩
    · rw [hsp, has_app, h]; rfl
    · conv => lhs; rw [hsp]
      exact val_app_left a _ _ h
end Go.Proofs.Ytoecclpfgdfpoaa
