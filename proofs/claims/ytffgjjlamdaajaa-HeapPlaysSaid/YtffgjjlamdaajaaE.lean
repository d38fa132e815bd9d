/- A heap: what New, Len, Push return, and what the heap holds then. -/
import Derived.Test.YtffgjjlamdaajaaD
import Derived.Deep.RegionWith
namespace Go.Proofs.Ytffgjjlamdaajaa
open Go.RowKit

/-- A heap of things in order. -/
def Hp (w : World) (p : Nat) (s : Value) (m : Nat) (S : List Th) : Prop := ∃ l f, H0 w p s m l f ∧ At l f ∧ Heaped l ∧ l.Perm S ∧ Sorted S

section
variable {w w' : World} {p : Nat} {s : Value} {m : Nat} {S : List Th}
theorem Hp.lt (h : Hp w p s m S) {b : Nat} (hb : O p s m b) : b < w.heap.size := by
  obtain ⟨l, f, h0, _⟩ := h
  exact h0.lt hb
theorem Hp.kept {T : Nat → Prop} (h : Hp w p s m S) (hk : Kept T w w') (hS : ∀ b, O p s m b → ¬ T b) : Hp w' p s m S := by
  obtain ⟨l, f, h0, r⟩ := h
  exact ⟨l, f, h0.kept hk hS, r⟩
theorem Hp.fresh (h : Hp w p s m S) (hk : Below w.heap.size w w') : Hp w' p s m S := by
  obtain ⟨l, f, h0, r⟩ := h
  exact ⟨l, f, h0.fresh hk, r⟩
theorem Hp.sorted (h : Hp w p s m S) : Sorted S := by
  obtain ⟨l, f, _, _, _, _, hs⟩ := h
  exact hs
theorem Hp.once (h : Hp w p s m S) : Once S := by
  obtain ⟨l, f, _, ha, _, hp, _⟩ := h
  exact ha.once.perm hp
end

theorem wpList_look {P : Program} {ops : Array Oper} {rest : List Oper} {o : Oper} {a : Act} {Q : Exit → Act → World → Prop} (w : World) (hg : o.guard = none) (m x : Operand) (t kt et : TypeId) (hop : o.op = Op.lookup t m x true)
    (hm : P.underlying t = some (.map kt et)) (hd : P.underlying kt = some (.int .i64)) (hz : (zeroValue et).run P w = .ok (.int .i64 0) w)
    (b : Nat) (f : Int → Option Int) (h : MapF w b f) (k v : Int) (ok : Bool) (hv : (f k).getD 0 = v) (hok : (f k).isSome = ok) (hmv : a.eval m = .map (some b)) (hx : a.eval x = .int .i64 k)
    (hK : wpList P ops Q rest (a.put o.dst (.tuple #[.int .i64 v, .bool ok])) w) : wpList P ops Q (o :: rest) a w := by
  refine wpList_plain hg fun K' hK' => ?_
  have hrun := run_look (P := P) (w := w) true hm hd hz h k
  rw [hv, hok] at hrun
  unfold Oper.wp
  simp [execOp, hop, hmv, hx, hrun, Result.andThen]
  exact hK' _ _ hK

/-- A new heap. -/
def NewPost (w : World) (e : Ending) (w' : World) : Prop :=
  ∃ p m, e = .returned (.pointer (some ⟨p, 0, none⟩)) ∧ Hp w' p (.slice none 0 0) m [] ∧ w.heap.size ≤ p ∧ w.heap.size ≤ m ∧ Below w.heap.size w w'

set_option maxHeartbeats 400000 in
theorem new_any (w : World) : Calls Try.prog 13 #[] w (NewPost w) := by
  have hmm := @run_makeMap Try.prog
  go_enter Try.func13, Try.ntmps13
  go_wp2_with fail
  go_ret
  refine ⟨w.heap.size + 1, w.heap.size, rfl, ⟨[], fun _ => none, ⟨?_, Own.nil _ _ _, ?_, by simp [Value.ownBlock], by omega, by simp [Value.ownBlock]⟩, At.nil, Heaped.nil, .refl _, List.Pairwise.nil⟩, by omega, Nat.le_refl _, by go_grown⟩
  · have := Blk.new (w.alloc (.map #[] 0)) 66 #[.slice none 0 0, .map (some w.heap.size)]
    rw [World.size_alloc] at this
    exact this
  · exact (MapF.new w).fresh ((Below.refl _ _).alloc (Nat.le_refl _) _)

theorem len_any (p : Nat) (s : Value) (m : Nat) (S : List Th) (w : World) (h : Hp w p s m S) :
    Calls Try.prog 25 #[.pointer (some ⟨p, 0, none⟩)] w fun e w' => e = .returned (.int .i64 S.length) ∧ w = w' := by
  obtain ⟨l, f, h0, _, _, hp, _⟩ := h
  rw [← hp.length_eq]
  obtain ⟨a, cap, rfl⟩ := h0.own.of_any
  have q0 := h0.blk.cell 0
  simp at q0
  clear h0 hp
  go_enter Try.func25, Try.ntmps25
  go_wp2_with fail
  go_ret
  exact ⟨rfl, rfl⟩
theorem len_nil (w : World) : Calls Try.prog 25 #[.pointer none] w fun e w' => e = .returned (.int .i64 0) ∧ w = w' := by
  go_enter Try.func25, Try.ntmps25
  go_wp2_with fail
  go_ret
  exact ⟨rfl, rfl⟩

/-- What Push leaves. -/
def PushPost (p : Nat) (s : Value) (m : Nat) (S : List Th) (id : Int) (k : Ky) (w : World) (e : Ending) (w' : World) : Prop :=
  ∃ s', e = .returned (.int .i64 (if hasS S id then 15 else 0)) ∧ Hp w' p s' m (pushS S id k) ∧ Kept (O p s m) w w' ∧ Fresh w s s'

set_option maxHeartbeats 1000000 in
theorem push_there (p : Nat) (s : Value) (m : Nat) (S : List Th) (id : Int) (k : Ky) (w : World) (h : Hp w p s m S) (hh : hasS S id = true) :
    Calls Try.prog 14 #[.pointer (some ⟨p, 0, none⟩), .int .i64 id, kyV k] w (PushPost p s m S id k w) := by
  have HH := Lib.hid h
  obtain ⟨l, f, h0, hA, _, hp, _⟩ := h
  have HM := Lib.hid h0.map
  have hs : (f id).isSome = true := (hA.has hp id).trans hh
  obtain ⟨v, hv⟩ : ∃ v, (f id).getD 0 = v := ⟨_, rfl⟩
  have HS := Lib.hid hh
  have q1 := h0.blk.cell 1
  simp at q1
  have hplt := h0.blk.lt
  clear h0 hA hp hh
  obtain ⟨k1, k2, k3, k4⟩ := k
  go_enter Try.func14, Try.ntmps14
  go_wp2_with (at_lookup; refine wpList_look _ rfl _ _ 63 3 3 rfl und63 und3 (zero3 _) m f (by exact HM.out.fresh ((Below.refl _ _).alloc (Nat.le_refl _) _)) id v true hv hs rfl rfl ?_)
  go_ret
  refine ⟨s, by rw [HS.out]; rfl, ?_, Kept.of_fresh (by go_grown) _, fun _ e => .inl e⟩
  unfold pushS
  rw [HS.out, if_pos rfl]
  exact HH.out.fresh (by go_grown)

theorem push_blk {X w2 : World} {p m : Nat} {s : Value} {l : List Th} {f : Int → Option Int} (hg : X.grownBy w2 s.ownBlock) (hX : H0 X p s m l f) : Blk w2 p 66 #[s, .map (some m)] :=
  ((Kept.refl (fun b => s.ownBlock = some b) X).grown hg (fun _ e => .inl e)).blk hX.blk hX.ne1
theorem push_mem {X w2 : World} {p m : Nat} {s s' : Value} {l : List Th} {f : Int → Option Int} {x : Th} (ho : Own w2 69 5 s' (l.length + 1) (flat l ++ flat [x])) (hg : X.grownBy w2 s.ownBlock) (hf : Fresh X s s') (hX : H0 X p s m l f) :
    H0 (w2.setCell ⟨p, 0, none⟩ s') p s' m (l ++ [x]) f := by
  have hk := (Kept.refl (fun b => s.ownBlock = some b) X).grown hg (fun _ e => .inl e)
  have n1 : s'.ownBlock ≠ some p := fun e => (hf p e).elim hX.ne1 (fun q => by have := hX.blk.lt; omega)
  have n3 : s'.ownBlock ≠ some m := fun e => (hf m e).elim hX.ne3 (fun q => by have := hX.map.lt; omega)
  have hk2 : Kept (fun b => b = p) w2 (w2.setCell ⟨p, 0, none⟩ s') := (Kept.refl (fun b => b = p) w2).setCell (p := ⟨p, 0, none⟩) (.inl rfl) s'
  refine ⟨((push_blk hg hX).set_ 0 s'), ?_, (hX.map.kept hk hX.ne3).kept hk2 hX.ne2, n1, hX.ne2, n3⟩
  rw [List.length_append, flat_app]
  exact ho.kept hk2 (fun b hb e => n1 (e ▸ hb))
theorem push_kept {w X w2 : World} {p m : Nat} {s s' : Value} (h1 : Below w.heap.size w X) (hg : X.grownBy w2 s.ownBlock) : Kept (O p s m) w (w2.setCell ⟨p, 0, none⟩ s') :=
  ((((Kept.of_fresh h1 (O p s m)).grown hg (fun _ e => .inl (.inr (.inr e)))).setCell (p := ⟨p, 0, none⟩) (.inl (.inl rfl)) s'))

theorem H0.remap {w w' : World} {p m : Nat} {s : Value} {l : List Th} {f f' : Int → Option Int} (h : H0 w p s m l f) (hm : MapF w' m f') (hk : Kept (fun b => b = m) w w') : H0 w' p s m l f' :=
  ⟨hk.blk h.blk (fun e => h.ne2 e.symm), h.own.kept hk (fun q e1 e2 => h.ne3 (by rw [e1, e2])), hm, h.ne1, h.ne2, h.ne3⟩
theorem Hp.of_done {w w' : World} {p m : Nat} {s : Value} {l0 l S : List Th} {f : Int → Option Int} (h : Mid w w' p s m l0 l f) (hh : Heaped l) (hp : l0.Perm S) (hs : Sorted S) : Hp w' p s m S := ⟨l, f, h.h, h.at_, hh, h.perm.trans hp, hs⟩

theorem cells_five (w : World) (t : TypeId) (c0 c1 c2 c3 c4 : Value) : ∀ j u, [c0, c1, c2, c3, c4][j]? = some u → (w.alloc (.cells #[c0, c1, c2, c3, c4] t)).cell? ((⟨w.heap.size, 0, none⟩ : Addr).add j) = some u := by
  intro j u hu
  rw [Addr.add_lit, Nat.zero_add]
  rw [show (w.alloc (.cells #[c0, c1, c2, c3, c4] t)).cell? ⟨w.heap.size, j, none⟩ = #[c0, c1, c2, c3, c4][j]? from (Blk.new w t _).cell j]
  rw [← hu, ← Array.getElem?_toList]

theorem cells_five' (w : World) (t : TypeId) (c0 c1 c2 c3 c4 : Value) (n : Nat) (hn : n = w.heap.size) : ∀ j u, [c0, c1, c2, c3, c4][j]? = some u → (w.alloc (.cells #[c0, c1, c2, c3, c4] t)).cell? ((⟨n, 0, none⟩ : Addr).add j) = some u := by
  subst hn
  exact cells_five w t c0 c1 c2 c3 c4

theorem info69z : (Try.prog.info? 69).map (fun i => (i.zero, i.size, i.bytes)) = some (some (.agg #[.int .i64 0, .int .u64 0, .int .u64 0, .int .i64 0, .int .i64 0]), 5, 40) := by kernel_rfl

set_option maxHeartbeats 1000000 in
theorem push_new (p : Nat) (s : Value) (m : Nat) (S : List Th) (id : Int) (k : Ky) (w : World) (h : Hp w p s m S) (hl : S.length ≤ 999999) (hh : hasS S id = false) :
    Calls Try.prog 14 #[.pointer (some ⟨p, 0, none⟩), .int .i64 id, kyV k] w (PushPost p s m S id k w) := by
  obtain ⟨i0, hi0, hz0, hz1, hz2⟩ := info_parts info69z
  obtain ⟨l, f, h0, hA, hHe, hp, hSo⟩ := h
  have hlen : l.length ≤ 999999 := by rw [hp.length_eq]; exact hl
  have hn : f id = none := by
    have := (hA.has hp id).trans hh
    cases hf : f id with
    | none => rfl
    | some v => rw [hf] at this; cases this
  obtain ⟨a, cap, rfl⟩ := h0.own.of_any
  have q0 := h0.blk.cell 0
  have q1 := h0.blk.cell 1
  simp at q0 q1
  have hplt := h0.blk.lt
  have HH := Lib.hid h0
  have HA := Lib.hid hA
  have HHe := Lib.hid hHe
  have HO := Lib.hid (ordered_push (k := k) hp hSo hh)
  have HS := Lib.hid hh
  have hv0 : (f id).getD 0 = 0 := by rw [hn]; rfl
  have hok : (f id).isSome = false := by rw [hn]; rfl
  have HN := Lib.hid hn
  clear h0 hA hHe hp hSo hh hn
  obtain ⟨k1, k2, k3, k4⟩ := k
  go_enter Try.func14, Try.ntmps14
  go_wp2_with (at_lookup; refine wpList_look _ rfl _ _ 63 3 3 rfl und63 und3 (zero3 _) m f (by exact HH.out.map.fresh ((Below.refl _ _).alloc (Nat.le_refl _) _)) id 0 false hv0 hok rfl rfl ?_)
  go_region_law (refine step_append_fresh _ rfl (.tmp 31) (.tmp 35) 64 rfl 69 i0 (.agg #[.int .i64 0, .int .u64 0, .int .u64 0, .int .i64 0, .int .i64 0]) 5 40 Try.underlying64 hi0 hz0 hz1 hz2 rfl (by decide) (.slice a l.length cap) l.length (flat l) (by simp [Act.eval]) (by first | exact (own_drew (HH.out.own.alloc _)).alloc _ | exact own_drew ((HH.out.own.alloc _).alloc _)) (some ⟨w.heap.size + 1, 0, none⟩) 1 1 [.int .i64 id, .int .u64 k1, .int .u64 k2, .int .i64 k3, .int .i64 k4] (by simp [Act.eval]) rfl (fun _ => ⟨_, rfl, by exact cells_five' _ _ _ _ _ _ _ _ (by simp)⟩) (by simp [Value.oneCell']) (by simp [maxLen]; omega) (by omega) ?_; intro s' w2 ho hg hf; have kb := push_blk hg (HH.out.fresh (by go_grown)); have c0 := kb.cell 0; have c1 := kb.cell 1; have f0 := kb.frozen 0; simp at c0 c1; have H3 := Lib.hid (push_mem (x := (id, k1, k2, k3, k4)) ho hg hf (HH.out.fresh (by go_grown))); have K3 := Lib.hid (push_kept (p := p) (m := m) (s' := s') (w := w) (by go_grown) hg); have F3 := Lib.hid hf; have SZ := Lib.hid hg.size; obtain ⟨b', cap', cur', rfl, _⟩ := ho.of_pos (by omega); clear ho hg hf kb)
  all_goals
    have q1' := H3.out.blk.cell 1
    simp at q1'
    go_wp2_with (at_mapUpdate; refine wpList_update _ rfl _ _ _ 63 3 3 rfl und63 und3 m f (by exact H3.out.map) id l.length rfl rfl rfl ?_; intro w4 hm4 hk4)
    have H4 := Lib.hid (H3.out.remap hm4 hk4)
    have K4 := Lib.hid (K3.out.trans hk4 (fun _ e => .inl (.inr (.inl e))))
    clear hm4 hk4 q1'
    refine (rise_any p b' (l.length + 1) cap' m (l ++ [(id, k1, k2, k3, k4)]) _ l.length w4 (by simp) H4.out (by omega) (by omega) (HA.out.push HN.out) (HHe.out.push _)).mono ?_
    rintro e w5 ⟨rfl, l5, f5, hm5, hh5⟩
    have M5 := Lib.hid hm5
    have H5 := Lib.hid hh5
    clear hm5 hh5
    go_wp2_with fail
    go_ret
    refine ⟨_, by rw [HS.out]; rfl, Hp.of_done M5.out H5.out HO.out.1 HO.out.2, K4.out.trans M5.out.kept (fun b hb => ?_), fun b hb => (F3.out b hb).imp (fun e => e) (fun e => by simp at e; omega)⟩
    rcases hb with e | e | e
    · exact .inl (.inl e)
    · exact .inl (.inr (.inl e))
    · exact (F3.out b e).imp (fun e => .inr (.inr e)) (fun e => by simp at e; omega)

theorem push_any (p : Nat) (s : Value) (m : Nat) (S : List Th) (id : Int) (k : Ky) (w : World) (h : Hp w p s m S) (hl : S.length ≤ 999999) :
    Calls Try.prog 14 #[.pointer (some ⟨p, 0, none⟩), .int .i64 id, kyV k] w (PushPost p s m S id k w) := by
  cases hh : hasS S id
  · exact push_new p s m S id k w h hl hh
  · exact push_there p s m S id k w h hh

theorem push_nil (id : Int) (k : Ky) (w : World) : Calls Try.prog 14 #[.pointer none, .int .i64 id, kyV k] w fun e w' => e = .returned (.int .i64 2) ∧ Below w.heap.size w w' := by
  obtain ⟨k1, k2, k3, k4⟩ := k
  go_enter Try.func14, Try.ntmps14
  go_wp2_with fail
  go_ret
  exact ⟨rfl, by go_grown⟩
end Go.Proofs.Ytffgjjlamdaajaa
