/- A map of numbers in memory, read as a function of its keys: look-ups, stores, deletes, the two halves of a store. No program is in sight. -/
import Derived.Test.YtffgjjlamdaajaaMem
import Derived.MapKept
import Derived.WideKeyEntry
import Derived.Maps.OwnSet
namespace Go.Proofs.Ytffgjjlamdaajaa
open Go.RowKit Go.MapKept

/-- Another value at a key. -/
def upd (f : Int → Option Int) (k : Int) (o : Option Int) : Int → Option Int := fun j => if j = k then o else f j

/-- What a list of entries reads as. -/
def Ents (es : List MapEntry) (f : Int → Option Int) : Prop :=
  (∀ x ∈ es, ∃ k v, x.key = .int .i64 k ∧ x.val = .int .i64 v ∧ f k = some v) ∧ ∀ k v, f k = some v → ∃ x ∈ es, x.key = .int .i64 k

theorem Ents.nil : Ents [] (fun _ => none) := ⟨by simp, by simp⟩

theorem nodup_at {α β : Type} {g : α → β} {es : List α} (hn : (es.map g).Nodup) {i j : Nat} {x e : α} (hi : es[i]? = some x) (hj : es[j]? = some e) (h : g x = g e) : i = j := by
  obtain ⟨h1, h2⟩ := List.getElem?_eq_some_iff.1 hi
  obtain ⟨h3, h4⟩ := List.getElem?_eq_some_iff.1 hj
  have hp := List.pairwise_iff_getElem.1 hn
  rcases Nat.lt_trichotomy i j with q | q | q
  · exact (hp i j (by simpa using h1) (by simpa using h3) q (by rw [List.getElem_map, List.getElem_map, h2, h4, h])).elim
  · exact q
  · exact (hp j i (by simpa using h3) (by simpa using h1) q (by rw [List.getElem_map, List.getElem_map, h2, h4, h])).elim

theorem Ents.set {es : List MapEntry} {f : Int → Option Int} (h : Ents es f) (hn : (es.map (·.key)).Nodup) {j : Nat} {e : MapEntry} {k : Int} (hj : es[j]? = some e) (hk : e.key = .int .i64 k) (v : Int) {e' : MapEntry}
    (hk' : e'.key = .int .i64 k) (hv' : e'.val = .int .i64 v) : Ents (es.set j e') (upd f k (some v)) := by
  have hjl : j < es.length := (List.getElem?_eq_some_iff.1 hj).1
  refine ⟨fun x hx => ?_, fun k0 v0 h0 => ?_⟩
  · obtain ⟨i, hi⟩ := List.mem_iff_getElem?.1 hx
    rw [List.getElem?_set] at hi
    by_cases hij : j = i
    · subst hij
      simp [hjl] at hi
      subst hi
      exact ⟨k, v, hk', hv', by simp [upd]⟩
    · rw [if_neg hij] at hi
      obtain ⟨k1, v1, a1, a2, a3⟩ := h.1 x (List.mem_of_getElem? hi)
      refine ⟨k1, v1, a1, a2, ?_⟩
      have : k1 ≠ k := fun e1 => hij (nodup_at hn hi hj (by rw [a1, hk, e1])).symm
      simp [upd, this, a3]
  · by_cases hkk : k0 = k
    · subst hkk
      exact ⟨e', List.mem_iff_getElem?.2 ⟨j, by simp [hjl]⟩, hk'⟩
    · simp [upd, hkk] at h0
      obtain ⟨x, hx, hxk⟩ := h.2 k0 v0 h0
      obtain ⟨i, hi⟩ := List.mem_iff_getElem?.1 hx
      refine ⟨x, List.mem_iff_getElem?.2 ⟨i, ?_⟩, hxk⟩
      rw [List.getElem?_set, if_neg (fun e1 => ?_)]
      · exact hi
      · subst e1
        rw [hj] at hi
        cases hi
        rw [hk] at hxk
        simp at hxk
        exact hkk hxk.symm

theorem Ents.push {es : List MapEntry} {f : Int → Option Int} (h : Ents es f) {k v : Int} (hno : ∀ x ∈ es, x.key ≠ .int .i64 k) {e' : MapEntry} (hk' : e'.key = .int .i64 k) (hv' : e'.val = .int .i64 v) : Ents (es ++ [e']) (upd f k (some v)) := by
  refine ⟨fun x hx => ?_, fun k0 v0 h0 => ?_⟩
  · rcases List.mem_append.1 hx with hx | hx
    · obtain ⟨k1, v1, a1, a2, a3⟩ := h.1 x hx
      refine ⟨k1, v1, a1, a2, ?_⟩
      have : k1 ≠ k := fun e1 => hno x hx (by rw [a1, e1])
      simp [upd, this, a3]
    · simp at hx
      subst hx
      exact ⟨k, v, hk', hv', by simp [upd]⟩
  · by_cases hkk : k0 = k
    · subst hkk
      exact ⟨e', by simp, hk'⟩
    · simp [upd, hkk] at h0
      obtain ⟨x, hx, hxk⟩ := h.2 k0 v0 h0
      exact ⟨x, List.mem_append.2 (.inl hx), hxk⟩

theorem Ents.erase {es : List MapEntry} {f : Int → Option Int} (h : Ents es f) (hn : (es.map (·.key)).Nodup) {j : Nat} {e : MapEntry} {k : Int} (hj : es[j]? = some e) (hk : e.key = .int .i64 k) : Ents (es.eraseIdx j) (upd f k none) := by
  refine ⟨fun x hx => ?_, fun k0 v0 h0 => ?_⟩
  · obtain ⟨i, hij, hi⟩ := List.mem_eraseIdx_iff_getElem?.1 hx
    obtain ⟨k1, v1, a1, a2, a3⟩ := h.1 x (List.mem_of_getElem? hi)
    refine ⟨k1, v1, a1, a2, ?_⟩
    have : k1 ≠ k := fun e1 => hij (nodup_at hn hi hj (by rw [a1, hk, e1]))
    simp [upd, this, a3]
  · by_cases hkk : k0 = k
    · subst hkk
      simp [upd] at h0
    · simp [upd, hkk] at h0
      obtain ⟨x, hx, hxk⟩ := h.2 k0 v0 h0
      obtain ⟨i, hi⟩ := List.mem_iff_getElem?.1 hx
      refine ⟨x, List.mem_eraseIdx_iff_getElem?.2 ⟨i, fun e1 => ?_, hi⟩, hxk⟩
      subst e1
      rw [hj] at hi
      cases hi
      rw [hk] at hxk
      simp at hxk
      exact hkk hxk.symm

theorem upd_none {f : Int → Option Int} {k : Int} (h : f k = none) : upd f k none = f := by
  funext j
  by_cases hj : j = k
  · subst hj; simp [upd, h]
  · simp [upd, hj]

/-- Block b is a map that reads as f. -/
def MapF (w : World) (b : Nat) (f : Int → Option Int) : Prop := ∃ es clock, w.heap[b]? = some (.map es clock) ∧ Stamped es clock ∧ Ents es.toList f

/-- A stamp of a key's entry. -/
def Stamp (w : World) (b : Nat) (k : Int) (st : Nat) : Prop := ∃ (es : Array MapEntry) (clock j : Nat) (e : MapEntry), w.heap[b]? = some (.map es clock) ∧ es.toList[j]? = some e ∧ e.key = .int .i64 k ∧ e.born = st

section
variable {w w' : World} {b : Nat} {f : Int → Option Int}
theorem MapF.lt (h : MapF w b f) : b < w.heap.size := by
  obtain ⟨es, clock, hb, _⟩ := h
  exact (Array.getElem?_eq_some_iff.1 hb).1
theorem MapF.of_block (h : MapF w b f) (e : w'.heap[b]? = w.heap[b]?) : MapF w' b f := by
  obtain ⟨es, clock, hb, r⟩ := h
  exact ⟨es, clock, e.trans hb, r⟩
theorem MapF.kept {S : Nat → Prop} (h : MapF w b f) (hk : Kept S w w') (hS : ¬ S b) : MapF w' b f := h.of_block (hk.block b h.lt hS)
theorem MapF.below {B : Nat} (h : MapF w b f) (hk : Below B w w') (hS : b < B) : MapF w' b f := h.of_block (hk.block b hS)
theorem MapF.fresh (h : MapF w b f) (hk : Below w.heap.size w w') : MapF w' b f := h.below hk h.lt
theorem MapF.new (w : World) : MapF (w.alloc (.map #[] 0)) w.heap.size (fun _ => none) := ⟨#[], 0, (MapKept.heap_alloc w _).1, stamped_empty 0, Ents.nil⟩
theorem Stamp.kept {S : Nat → Prop} {k : Int} {st : Nat} (h : Stamp w b k st) (hk : Kept S w w') (hS : ¬ S b) : Stamp w' b k st := by
  obtain ⟨es, clock, j, e, hb, r⟩ := h
  exact ⟨es, clock, j, e, (hk.block b (Array.getElem?_eq_some_iff.1 hb).1 hS).trans hb, r⟩
end

theorem heap_same {w : World} {b : Nat} {o : Obj} (hb : w.heap[b]? = some o) : { w with heap := w.heap.setIfInBounds b o } = w := by
  have e : w.heap.setIfInBounds b o = w.heap := by
    apply Array.ext_getElem?
    intro i
    by_cases hi : i = b
    · subst hi
      exact (heap_set hb).1.trans hb.symm
    · exact (heap_set hb).2 i hi
  rw [e]

theorem kept_set {w : World} {b : Nat} {o o' : Obj} (hb : w.heap[b]? = some o) : Kept (fun g => g = b) w { w with heap := w.heap.setIfInBounds b o' } :=
  ⟨rfl, rfl, rfl, by simp, fun k _ hk => (heap_set hb).2 k hk⟩

section
variable {P : Program} {w : World} {t kt et : TypeId} {b : Nat} {f : Int → Option Int}

theorem find_ents {es : List MapEntry} (h : Ents es f) (k : Int) :
    (f k = none ∧ Instr.findNow (.int .i64) (.int .i64 k) es 0 = some none ∧ ∀ x ∈ es, x.key ≠ .int .i64 k) ∨
    ∃ (j : Nat) (e : MapEntry) (v : Int), f k = some v ∧ Instr.findNow (.int .i64) (.int .i64 k) es 0 = some (some (j, .int .i64 v)) ∧ es[j]? = some e ∧ e.key = .int .i64 k ∧ e.val = .int .i64 v := by
  have hks : ∀ x ∈ es, IsKey (.int .i64) x.key := fun x hx => by
    obtain ⟨k1, v1, a1, _⟩ := h.1 x hx
    rw [a1]; rfl
  rcases findNow_spec (d := .int .i64) (k := .int .i64 k) rfl es 0 hks with ⟨h1, h2⟩ | ⟨j, e, h1, h2, h3⟩
  · refine .inl ⟨?_, h1, h2⟩
    cases hf : f k with
    | none => rfl
    | some v =>
      obtain ⟨x, hx, hxk⟩ := h.2 k v hf
      exact absurd hxk (h2 x hx)
  · obtain ⟨k1, v1, a1, a2, a3⟩ := h.1 e (List.mem_of_getElem? h2)
    rw [h3] at a1
    simp at a1
    subst a1
    exact .inr ⟨j, e, v1, a3, by rw [h1, a2, Nat.zero_add], h2, h3, a2⟩

theorem run_look (c : Bool) (hm : P.underlying t = some (.map kt et)) (hd : P.underlying kt = some (.int .i64)) (hz : (zeroValue et).run P w = .ok (.int .i64 0) w) (h : MapF w b f) (k : Int) :
    (Instr.lookup t (.map (some b)) (.int .i64 k) c).run P w = .ok (if c then .tuple #[.int .i64 ((f k).getD 0), .bool (f k).isSome] else .int .i64 ((f k).getD 0)) w := by
  obtain ⟨es, clock, hb, hs, he⟩ := h
  have hk : IsKey (.int .i64) (.int .i64 k) := rfl
  rcases find_ents he k with ⟨h0, h1, _⟩ | ⟨j, e, v, h0, h1, _⟩
  · simp [Instr.lookup, run_underlying hm, MapKept.run_getObj_map hb, run_checkKey hd hk, run_findKey hd h1, hz, Result.andThen, h0]
  · simp [Instr.lookup, run_underlying hm, MapKept.run_getObj_map hb, run_checkKey hd hk, run_findKey hd h1, Result.andThen, h0]

theorem modify_set {es : Array MapEntry} {j : Nat} {e : MapEntry} (hj : es.toList[j]? = some e) (g : MapEntry → MapEntry) : (es.modify j g).toList = es.toList.set j (g e) := by
  rw [Array.toList_modify]
  exact List.ext_getElem? fun i => by
    rw [List.getElem?_modify, List.getElem?_set]
    by_cases hij : j = i
    · subst hij
      have hj2 : es[j]? = some e := by simpa using hj
      obtain ⟨hl, he⟩ := Array.getElem?_eq_some_iff.1 hj2
      simp [hl, he]
    · simp [hij]

theorem run_update (hm : P.underlying t = some (.map kt et)) (hd : P.underlying kt = some (.int .i64)) (h : MapF w b f) (k v : Int) :
    ∃ w', (Instr.mapUpdate t (.map (some b)) (.int .i64 k) (.int .i64 v)).run P w = .ok () w' ∧ MapF w' b (upd f k (some v)) ∧ Kept (fun g => g = b) w w' := by
  obtain ⟨es, clock, hb, hs, he⟩ := h
  have hk : IsKey (.int .i64) (.int .i64 k) := rfl
  rcases find_ents he k with ⟨h0, h1, h2⟩ | ⟨j, e, v0, h0, h1, h2, h3, h4⟩
  · refine ⟨_, by simp [Instr.mapUpdate, run_underlying hm, MapKept.run_getObj_map hb, run_checkKey hd hk, run_findKey hd h1, MapKept.run_setObj_map _ hb, Result.andThen]; rfl, ?_, kept_set hb⟩
    exact ⟨_, _, (heap_set hb).1, stamped_push hs h2, by rw [Array.toList_push]; exact he.push h2 rfl rfl⟩
  · have hj : es[j]? = some e := by simpa using h2
    refine ⟨_, by simp [Instr.mapUpdate, run_underlying hm, MapKept.run_getObj_map hb, run_checkKey hd hk, run_findKey hd h1, hj, h3, run_keyThatStays hk, MapKept.run_setObj_map _ hb, Result.andThen]; rfl, ?_, kept_set hb⟩
    refine ⟨_, _, (heap_set hb).1, stamped_modify hs _ _ (fun _ _ => rfl) (fun e' _ he' => by rw [hj] at he'; cases he'; exact h3.symm), ?_⟩
    rw [modify_set h2]
    exact he.set hs.2.2 h2 h3 v rfl rfl

theorem run_delete (ty : TypeId) (hm : P.underlying t = some (.map kt et)) (hd : P.underlying kt = some (.int .i64)) (h : MapF w b f) (k : Int) :
    ∃ w', (Builtin.delete_ #[t, kt] ty #[.map (some b), .int .i64 k]).run P w = .ok (.tuple #[]) w' ∧ MapF w' b (upd f k none) ∧ Kept (fun g => g = b) w w' := by
  obtain ⟨es, clock, hb, hs, he⟩ := h
  have hk : IsKey (.int .i64) (.int .i64 k) := rfl
  rcases find_ents he k with ⟨h0, h1, h2⟩ | ⟨j, e, v0, h0, h1, h2, h3, h4⟩
  · refine ⟨_, by simp [Builtin.delete_, run_underlying hm, MapKept.run_getObj_map hb, run_checkKey hd hk, run_findKey hd h1, MapKept.run_setObj_map _ hb, Result.andThen]; rfl, ?_, kept_set hb⟩
    exact ⟨_, _, (heap_set hb).1, hs, by rw [upd_none h0]; exact he⟩
  · refine ⟨_, by simp [Builtin.delete_, run_underlying hm, MapKept.run_getObj_map hb, run_checkKey hd hk, run_findKey hd h1, MapKept.run_setObj_map _ hb, Result.andThen]; rfl, ?_, kept_set hb⟩
    refine ⟨_, _, (heap_set hb).1, stamped_erase hs _, ?_⟩
    have hjl : j < es.size := by simpa using (List.getElem?_eq_some_iff.1 h2).1
    have e1 : (es.eraseIdxIfInBounds j).toList = es.toList.eraseIdx j := by simp [Array.eraseIdxIfInBounds, hjl]
    rw [e1]
    exact he.erase hs.2.2 h2 h3

theorem run_entry (hm : P.underlying t = some (.map kt et)) (hd : P.underlying kt = some (.int .i64)) (h : MapF w b f) {k v : Int} (hf : f k = some v) :
    ∃ st : Nat, (Instr.mapEntry t (.map (some b)) (.int .i64 k)).run P w = .ok (.tuple #[.int .i64 v, .int .i64 st]) w ∧ Stamp w b k st := by
  obtain ⟨es, clock, hb, hs, he⟩ := h
  have hk : IsKey (.int .i64) (.int .i64 k) := rfl
  rcases find_ents he k with ⟨h0, _⟩ | ⟨j, e, v0, h0, h1, h2, h3, h4⟩
  · rw [h0] at hf; cases hf
  · rw [h0] at hf
    cases hf
    have hj : es[j]? = some e := by simpa using h2
    have hsame : es.modify j (fun e => { e with key := .int .i64 k }) = es := by
      apply Array.ext'
      rw [modify_set h2]
      have : ({ e with key := .int .i64 k } : MapEntry) = e := by rw [← h3]
      rw [this]
      exact WideElems.set_self _ _ _ h2
    refine ⟨e.born, ?_, es, clock, j, e, hb, h2, h3, rfl⟩
    simp [Instr.mapEntry, run_underlying hm, MapKept.run_getObj_map hb, run_checkKey hd hk, run_findKey hd h1, hj, h3, run_keyThatStays hk, hsame, MapKept.run_setObj_map _ hb, Result.andThen, goInt, heap_same hb]

theorem run_store (h : MapF w b f) {k : Int} {st : Nat} (hst : Stamp w b k st) (v : Int) :
    ∃ w', (Instr.entryStore t (.map (some b)) (.int .i64 st) (.int .i64 v)).run P w = .ok () w' ∧ MapF w' b (upd f k (some v)) ∧ Kept (fun g => g = b) w w' ∧ ∀ k' st', Stamp w b k' st' → Stamp w' b k' st' := by
  obtain ⟨es, clock, hb, hs, he⟩ := h
  obtain ⟨es2, clock2, j, e, hb2, h2, h3, rfl⟩ := hst
  rw [hb] at hb2
  cases hb2
  have hj : es[j]? = some e := by simpa using h2
  have hidx : es.findIdx? (fun x => ((x.born : Nat) : Int) == ((e.born : Nat) : Int)) = some j := by
    rw [WideElems.findIdx_arr]
    exact WideElems.findIdx_born hs.2.1 h2
  have hmod := modify_set (es := es) h2 (fun e => { e with val := .int .i64 v })
  refine ⟨_, by simp [Instr.entryStore, MapKept.run_getObj_map hb, asInt, asIntOf, hidx, MapKept.run_setObj_map _ hb, Result.andThen]; rfl, ?_, kept_set hb, ?_⟩
  · refine ⟨_, _, (heap_set hb).1, stamped_modify hs _ _ (fun _ _ => rfl) (fun _ _ _ => rfl), ?_⟩
    rw [hmod]
    exact he.set hs.2.2 h2 h3 v (by exact h3) rfl
  · rintro k' st' ⟨es3, clock3, j', e', hb3, h2', h3', rfl⟩
    rw [hb] at hb3
    cases hb3
    refine ⟨_, _, j', if j = j' then { e' with val := .int .i64 v } else e', (heap_set hb).1, ?_, ?_, ?_⟩
    · rw [hmod, List.getElem?_set]
      by_cases hjj : j = j'
      · subst hjj
        rw [h2] at h2'
        cases h2'
        have hl := (List.getElem?_eq_some_iff.1 h2).1
        rw [Array.length_toList] at hl
        simp [hl]
      · simp [hjj, h2']
    · split <;> exact h3'
    · split <;> rfl
end

section
variable {P : Program} {ops : Array Oper} {rest : List Oper} {o : Oper} {a : Act} {Q : Exit → Act → World → Prop}

theorem wpList_update (w : World) (hg : o.guard = none) (m x v : Operand) (t kt et : TypeId) (hop : o.op = Op.mapUpdate t m x v) (hm : P.underlying t = some (.map kt et)) (hd : P.underlying kt = some (.int .i64))
    (b : Nat) (f : Int → Option Int) (h : MapF w b f) (k y : Int) (hmv : a.eval m = .map (some b)) (hx : a.eval x = .int .i64 k) (hv : a.eval v = .int .i64 y)
    (hK : ∀ w', MapF w' b (upd f k (some y)) → Kept (fun g => g = b) w w' → wpList P ops Q rest (a.put o.dst undef) w') : wpList P ops Q (o :: rest) a w := by
  refine wpList_plain hg fun K' hK' => ?_
  obtain ⟨w', hrun, r1, r2⟩ := run_update (P := P) hm hd h k y
  unfold Oper.wp
  simp [execOp, hop, hmv, hx, hv, hrun, Result.andThen]
  exact hK' _ _ (hK w' r1 r2)

theorem wpList_delete (w : World) (hg : o.guard = none) (m x : Operand) (t kt et : TypeId) (hop : o.op = Op.call { callee := Callee.builtin Builtin.delete, args := #[m, x], argTypes := #[t, kt] })
    (hm : P.underlying t = some (.map kt et)) (hd : P.underlying kt = some (.int .i64)) (b : Nat) (f : Int → Option Int) (h : MapF w b f) (k : Int) (hmv : a.eval m = .map (some b)) (hx : a.eval x = .int .i64 k)
    (hK : ∀ w', MapF w' b (upd f k none) → Kept (fun g => g = b) w w' → wpList P ops Q rest (a.put o.dst (.tuple #[])) w') : wpList P ops Q (o :: rest) a w := by
  refine wpList_plain hg fun K' hK' => ?_
  obtain ⟨w', hrun, r1, r2⟩ := run_delete (P := P) o.type hm hd h k
  unfold Oper.wp
  simp [execOp, hop, resolve, invoke, builtin, hmv, hx, hrun, Result.andThen]
  exact hK' _ _ (hK w' r1 r2)
end
end Go.Proofs.Ytffgjjlamdaajaa
