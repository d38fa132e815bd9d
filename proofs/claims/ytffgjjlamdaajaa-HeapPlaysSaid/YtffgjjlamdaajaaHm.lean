/- A region that draws its order, walked in an order of one's own: its own operations only read, or are passed over; a call comes up alone. No program is in sight. -/
import Derived.Deep.RegionHeld3
namespace Go.Proofs.Ytffgjjlamdaajaa
section
variable {P : Program} {l : List Oper} {Q : Exit → Act → World → Prop} {S : World → Prop} {md : Region.Mode}

/-- In the order told: 'true' tells that an operation comes up alone; else it may be taken first. -/
def heldO (md : Region.Mode) (ops : Array Oper) : List (Bool × Nat) → Array Bool → Bool
  | [], listed => (Region.ready md ops listed).isEmpty
  | (true, k) :: cs, listed => Region.ready md ops listed == [k] && heldO md ops cs (listed.setIfInBounds k true)
  | (false, k) :: cs, listed => ((Region.ready md ops listed).contains k && Region.free md ops listed k) && heldO md ops cs (listed.setIfInBounds k true)
/-- The operation of a number. -/
def nthO : List Oper → Nat → Option Oper
  | x :: _, 0 => some x
  | _ :: r, n + 1 => nthO r n
  | [], _ => none
theorem nthO_eq : ∀ (l : List Oper) (k : Nat), l.toArray[k]? = nthO l k
  | [], _ => by simp [nthO]
  | _ :: _, 0 => by simp [nthO]
  | _ :: r, k + 1 => by have := nthO_eq r k; simpa [nthO] using this
/-- The walk. -/
def wpOrd (P : Program) (l : List Oper) (Q : Exit → Act → World → Prop) (S : World → Prop) : List (Bool × Nat) → Act → World → Prop
  | (true, k) :: cs, a, w => ∃ o, nthO l k = some o ∧ Region.wanted o (yielded l.toArray a.tmps) = true ∧ ∀ K' : Act → World → Prop, Shut (∀ a' w', S w' → wpOrd P l Q S cs a' w' → K' a' w') → Oper.wp P o a w K' Q
  | (false, k) :: cs, a, w => ∃ o v, nthO l k = some o ∧ YieldsIf P l.toArray S o v a ∧ wpOrd P l Q S cs (a.put o.dst v) w
  | [], a, w => Q .normal a w

theorem ord_take {cs : List (Bool × Nat)} {k : Nat} {o : Oper} {a : Act} {w : World} {v : Value} (hk : nthO l k = some o) (hw : Region.wanted o (yielded l.toArray a.tmps) = true) (hy : ∀ w, S w → (execOp a.eval o).run P w = .ok (.value v) w)
    (h : wpOrd P l Q S cs (a.put o.dst v) w) : wpOrd P l Q S ((false, k) :: cs) a w := ⟨o, v, hk, .inl ⟨hw, hy⟩, h⟩
theorem ord_skip {cs : List (Bool × Nat)} {k : Nat} {o : Oper} {a : Act} {w : World} (hk : nthO l k = some o) (hw : Region.wanted o (yielded l.toArray a.tmps) = false)
    (h : wpOrd P l Q S cs (a.put o.dst undef) w) : wpOrd P l Q S ((false, k) :: cs) a w := ⟨o, undef, hk, .inr ⟨hw, rfl⟩, h⟩
theorem ord_call {cs : List (Bool × Nat)} {k : Nat} {o : Oper} {a : Act} {w : World} (hk : nthO l k = some o) (hw : Region.wanted o (yielded l.toArray a.tmps) = true)
    (h : ∀ K' : Act → World → Prop, Shut (∀ a' w', S w' → wpOrd P l Q S cs a' w' → K' a' w') → Oper.wp P o a w K' Q) : wpOrd P l Q S ((true, k) :: cs) a w := ⟨o, hk, hw, h⟩
theorem ord_end {a : Act} {w : World} (h : Q .normal a w) : wpOrd P l Q S [] a w := h

theorem ord_any (hs : Region.noSelect l.toArray = true) (hQ : ∀ c a d v w, Q (.panic c) (Act.put a d v) w → Q (.panic c) a w) : ∀ (cs : List (Bool × Nat)) (listed : Array Bool) (a : Act) (w : World),
    heldO md l.toArray cs listed = true → S w → wpOrd P l Q S cs a w → wpAnyH P md l.toArray Q S cs.length listed a w
  | [], _, _, _, hB, _, h => ⟨by simpa [heldO] using hB, h⟩
  | (false, k) :: cs, listed, a, w, hB, hS, h => by
    simp only [heldO, Bool.and_eq_true] at hB
    obtain ⟨⟨hr, hf⟩, hB'⟩ := hB
    obtain ⟨o, v, h0, hy, h'⟩ := h
    exact wpAnyH_take ((nthO_eq l k).trans h0) hs hf hr (fun c a w => hQ c a _ _ w) hy hS (ord_any hs hQ cs _ _ _ hB' hS h')
  | (true, k) :: cs, listed, a, w, hB, hS, h => by
    simp only [heldO, Bool.and_eq_true, beq_iff_eq] at hB
    obtain ⟨hr, hB'⟩ := hB
    obtain ⟨o, h0, hw, h'⟩ := h
    refine wpAnyH_ready hr (by simp) (AllReadyH.cons ((nthO_eq l k).trans h0) (fun K' hK => ?_) AllReadyH.nil)
    rw [if_pos hw]
    exact h' K' (fun a' w' hS' hh => hK.out a' w' hS' (fun _ => ord_any hs hQ cs _ _ _ hB' hS' hh))

/-- The beginning. -/
theorem wp_region_ord {id : Nat} {a : Act} {w : World} (S : World → Prop) (cs : List (Bool × Nat)) (hm : P.follows .mixedOrders = true) (hB : (Region.noSelect l.toArray && (cs.length == l.length && heldO .any l.toArray cs (Array.replicate l.length false))) = true)
    (hQ : ∀ c a d v w, Q (.panic c) (Act.put a d v) w → Q (.panic c) a w) (hS : S w.drew) (h : wpOrd P l Q S cs a w.drew) : (Code.region id l.toArray true).wp P Q a w := by
  simp only [Bool.and_eq_true, beq_iff_eq] at hB
  obtain ⟨h1, h2, h3⟩ := hB
  refine wp_region_held_drew hm hS (fun _ => ?_)
  have := ord_any (md := .any) h1 hQ cs (Array.replicate l.length false) a w.drew h3 hS h
  rw [h2] at this
  simpa using this
end
end Go.Proofs.Ytffgjjlamdaajaa
