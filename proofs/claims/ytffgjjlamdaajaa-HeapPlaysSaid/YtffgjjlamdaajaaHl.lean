/- A region that draws its order, walked in the text's order: its own operations only read, or are passed over; a call comes up alone. No program is in sight. -/
import Derived.Deep.RegionHeld3
namespace Go.Proofs.Ytffgjjlamdaajaa
section
variable {P : Program} {ops : Array Oper} {Q : Exit → Act → World → Prop} {S : World → Prop} {md : Region.Mode}

/-- In the text's order: c tells that an operation comes up alone; else it may be taken first. -/
def heldB (md : Region.Mode) (ops : Array Oper) : List Bool → Nat → Array Bool → Bool
  | [], _, listed => (Region.ready md ops listed).isEmpty
  | c :: cs, k, listed => (match c with | true => Region.ready md ops listed == [k] | false => (Region.ready md ops listed).contains k && Region.free md ops listed k) && heldB md ops cs (k + 1) (listed.setIfInBounds k true)
/-- The walk. -/
def wpHeld (P : Program) (ops : Array Oper) (Q : Exit → Act → World → Prop) (S : World → Prop) : List Bool → List Oper → Act → World → Prop
  | true :: cs, o :: l, a, w => Region.wanted o (yielded ops a.tmps) = true ∧ ∀ K' : Act → World → Prop, Shut (∀ a' w', S w' → wpHeld P ops Q S cs l a' w' → K' a' w') → Oper.wp P o a w K' Q
  | false :: cs, o :: l, a, w => ∃ v, YieldsIf P ops S o v a ∧ wpHeld P ops Q S cs l (a.put o.dst v) w
  | _, _, a, w => Q .normal a w

theorem held_take {cs : List Bool} {o : Oper} {l : List Oper} {a : Act} {w : World} {v : Value} (hw : Region.wanted o (yielded ops a.tmps) = true) (hy : ∀ w, S w → (execOp a.eval o).run P w = .ok (.value v) w)
    (h : wpHeld P ops Q S cs l (a.put o.dst v) w) : wpHeld P ops Q S (false :: cs) (o :: l) a w := ⟨v, .inl ⟨hw, hy⟩, h⟩
theorem held_skip {cs : List Bool} {o : Oper} {l : List Oper} {a : Act} {w : World} (hw : Region.wanted o (yielded ops a.tmps) = false)
    (h : wpHeld P ops Q S cs l (a.put o.dst undef) w) : wpHeld P ops Q S (false :: cs) (o :: l) a w := ⟨undef, .inr ⟨hw, rfl⟩, h⟩
theorem held_call {cs : List Bool} {o : Oper} {l : List Oper} {a : Act} {w : World} (hw : Region.wanted o (yielded ops a.tmps) = true)
    (h : ∀ K' : Act → World → Prop, Shut (∀ a' w', S w' → wpHeld P ops Q S cs l a' w' → K' a' w') → Oper.wp P o a w K' Q) : wpHeld P ops Q S (true :: cs) (o :: l) a w := ⟨hw, h⟩
theorem held_end {a : Act} {w : World} (h : Q .normal a w) : wpHeld P ops Q S [] [] a w := h

theorem held_any (hs : Region.noSelect ops = true) (hQ : ∀ c a d v w, Q (.panic c) (Act.put a d v) w → Q (.panic c) a w) : ∀ (cs : List Bool) (l : List Oper) (k : Nat) (listed : Array Bool) (a : Act) (w : World), cs.length = l.length → (∀ j, l[j]? = ops[k + j]?) →
    heldB md ops cs k listed = true → S w → wpHeld P ops Q S cs l a w → wpAnyH P md ops Q S l.length listed a w
  | [], [], _, _, _, _, _, _, hB, _, h => ⟨by simpa [heldB] using hB, h⟩
  | [], _ :: _, _, _, _, _, hn, _, _, _, _ => by simp at hn
  | _ :: _, [], _, _, _, _, hn, _, _, _, _ => by simp at hn
  | false :: cs, o :: l, k, listed, a, w, hn, hl, hB, hS, h => by
    have h0 : ops[k]? = some o := by simpa using (hl 0).symm
    simp only [heldB, Bool.and_eq_true] at hB
    obtain ⟨⟨hr, hf⟩, hB'⟩ := hB
    obtain ⟨v, hy, h'⟩ := h
    exact wpAnyH_take h0 hs hf hr (fun c a w => hQ c a _ _ w) hy hS (held_any hs hQ cs l (k + 1) _ _ _ (by simpa using hn) (fun j => by have := hl (j + 1); simpa [Nat.add_assoc, Nat.add_comm 1 j] using this) hB' hS h')
  | true :: cs, o :: l, k, listed, a, w, hn, hl, hB, hS, h => by
    have h0 : ops[k]? = some o := by simpa using (hl 0).symm
    simp only [heldB, Bool.and_eq_true, beq_iff_eq] at hB
    obtain ⟨hr, hB'⟩ := hB
    obtain ⟨hw, h'⟩ := h
    refine wpAnyH_ready hr (by simp) (AllReadyH.cons h0 (fun K' hK => ?_) AllReadyH.nil)
    rw [if_pos hw]
    refine h' K' (fun a' w' hS' hh => hK.out a' w' hS' (fun _ => ?_))
    exact held_any hs hQ cs l (k + 1) _ _ _ (by simpa using hn) (fun j => by have := hl (j + 1); simpa [Nat.add_assoc, Nat.add_comm 1 j] using this) hB' hS' hh

/-- The beginning. -/
theorem wp_region_held_lex {id : Nat} {a : Act} {w : World} {l : List Oper} (S : World → Prop) (cs : List Bool) (hm : P.follows .mixedOrders = true) (hB : (Region.noSelect l.toArray && (cs.length == l.length && heldB .any l.toArray cs 0 (Array.replicate l.length false))) = true)
    (hQ : ∀ c a d v w, Q (.panic c) (Act.put a d v) w → Q (.panic c) a w) (hS : S w.drew) (h : wpHeld P l.toArray Q S cs l a w.drew) : (Code.region id l.toArray true).wp P Q a w := by
  simp only [Bool.and_eq_true, beq_iff_eq] at hB
  obtain ⟨h1, h2, h3⟩ := hB
  refine wp_region_held_drew hm hS (fun _ => ?_)
  have := held_any (md := .any) h1 hQ cs l 0 (Array.replicate l.length false) a w.drew h2 (by simp) h3 hS h
  simpa using this
end
end Go.Proofs.Ytffgjjlamdaajaa
