/- A clone of a heap, and a thing's key: what each call returns. -/
import Derived.Test.YtffgjjlamdaajaaG
import Derived.Laws.Externs
namespace Go.Proofs.Ytffgjjlamdaajaa
open Go.RowKit Go.MapKept

/-- A row of things in new memory. -/
def NewThings (l : List Th) (w : World) (e : Ending) (w' : World) : Prop :=
  ∃ s, e = .returned s ∧ Own w' 69 5 s l.length (flat l) ∧ (∀ b, s.ownBlock = some b → w.heap.size ≤ b) ∧ Below w.heap.size w w'

theorem src_of {w : World} {a : Option Addr} {cap : Nat} {l : List Th} (h : Own w 69 5 (.slice a l.length cap) l.length (flat l)) : 0 < l.length → ∃ a', a = some a' ∧ a'.block < w.heap.size ∧ ∀ j u, (flat l)[j]? = some u → w.cell? (a'.add j) = some u := by
  intro h0
  obtain ⟨g', cap', cur, e1, hb, _⟩ := h.of_pos h0
  simp only [Value.slice.injEq, true_and] at e1
  obtain ⟨rfl, rfl⟩ := e1
  exact ⟨_, rfl, hb.lt, World.ownsRow.cells h (g := g') rfl⟩

set_option maxHeartbeats 1000000 in
theorem sclone_any (a : Option Addr) (cap : Nat) (l : List Th) (w : World) (h : Own w 69 5 (.slice a l.length cap) l.length (flat l)) (hl : l.length ≤ 1000000) :
    Calls Try.prog 28 #[.slice a l.length cap] w (NewThings l w) := by
  obtain ⟨i0, hi0, hz0, hz1, hz2⟩ := info_parts info69z
  have HS := Lib.hid (src_of h)
  have HO := Lib.hid h
  by_cases hn : (Value.slice a l.length cap) = .slice none 0 0
  · simp only [Value.slice.injEq] at hn
    obtain ⟨rfl, h0, rfl⟩ := hn
    obtain rfl : l = [] := List.eq_nil_of_length_eq_zero h0
    clear h
    have q64 : ∀ (w : World) (a : Option Addr) (n c n' c' : Nat), (binOp .eql 64 (.slice a n c) (.slice none n' c')).run Try.prog w = .ok (.bool a.isNone) w := fun w a n c n' c' => Lib.run_eql_slice_nil w _ _ a n c n' c' Try.underlying64
    go_enter Try.func28, Try.ntmps28
    go_wp2
    go_ret
    exact ⟨_, rfl, Own.nil _ _ _, fun b hb => by simp [Value.ownBlock] at hb, by go_grown⟩
  · obtain ⟨g, rfl⟩ : ∃ g, a = some g := by
      cases a with
      | some g => exact ⟨g, rfl⟩
      | none =>
        exfalso
        rcases h.2 with ⟨e, _⟩ | ⟨g, cap', cur, e, _⟩
        · exact hn e
        · simp at e
    clear h hn
    have q64 : ∀ (w : World) (a : Option Addr) (n c n' c' : Nat), (binOp .eql 64 (.slice a n c) (.slice none n' c')).run Try.prog w = .ok (.bool a.isNone) w := fun w a n c n' c' => Lib.run_eql_slice_nil w _ _ a n c n' c' Try.underlying64
    go_enter Try.func28, Try.ntmps28
    have HP := Lib.hid (show 0 < l.length → ∃ a', some g = some a' ∧ ∀ j u, (flat l)[j]? = some u → (w.alloc (.cells #[] 69)).cell? (a'.add j) = some u from fun h0 => ⟨g, rfl, fun j u hu => by
      obtain ⟨a', e1, e2, e3⟩ := HS.out h0
      cases e1
      exact (Below.cell (B := w.heap.size) ((Below.refl _ w).alloc (Nat.le_refl _) _) (p := g.add j) (by rw [show (g.add j).block = g.block by unfold Addr.add; split <;> rfl]; exact e2)).trans (e3 j u hu)⟩)
    have HM := Lib.hid (show Own (w.alloc (.cells #[] 69)) 69 5 (.slice (some ⟨w.heap.size, 0, none⟩) 0 0) 0 [] from World.ownsRow_made w _ 0 (Nat.zero_le _) (by simp [maxLen]) (by simp))
    have HFL := Lib.hid (flat_len l)
    go_wp2_with (at_builtin; refine wpList_append_fresh _ rfl (.tmp 5) (.tmp 6) 64 rfl 69 i0 (.agg #[.int .i64 0, .int .u64 0, .int .u64 0, .int .i64 0, .int .i64 0]) 5 40 Try.underlying64 hi0 hz0 hz1 hz2 rfl (by decide) (.slice (some ⟨w.heap.size, 0, none⟩) 0 0) 0 [] rfl HM.out (some g) l.length cap (flat l) rfl HFL.out HP.out (flat_one l) (by simp [maxLen]; omega) (by omega) ?_; intro s' w2 ho hg hf)
    have HO2 := Lib.hid (show Own w2 69 5 s' l.length (flat l) by simpa using ho)
    have HF := Lib.hid (show ∀ b, s'.ownBlock = some b → w.heap.size ≤ b from fun b hb => (hf b hb).elim (fun e => by simp [Value.ownBlock] at e; omega) (fun e => by simp only [World.size_alloc] at e; omega))
    have HB := Lib.hid (((Below.refl w.heap.size w).alloc (Nat.le_refl _) (.cells #[] 69)).trans (((Kept.refl (fun b => some b = some w.heap.size) _).grown hg (fun _ e => .inl e.symm)).below (fun b _ hb => by simp at hb; omega) (by simp)))
    clear ho hg hf
    go_wp2_with fail
    go_ret
    exact ⟨_, rfl, HO2.out, HF.out, HB.out⟩

theorem run_equalIn_map_nil (w : World) (d : Nat) (t k e : TypeId) (p : Option Nat) (h : Try.prog.underlying t = some (.map k e)) :
    (Op.equalIn (d + 1) t (.map p) (.map none)).run Try.prog w = .ok p.isNone w := by
  cases p <;> simp [Op.equalIn, run_underlying h]
theorem run_eql_map_nil (w : World) (p : Option Nat) : (binOp .eql 63 (.map p) (.map none)).run Try.prog w = .ok (.bool p.isNone) w := by
  simp only [binOp]
  simp [show Op.equal 63 (.map p) (.map none) = Op.equalIn (9999 + 1) 63 (.map p) (.map none) from rfl, run_equalIn_map_nil w 9999 63 3 3 p und63]
theorem run_typeAssert_map (w : World) (t xT k e : TypeId) (v : Value) (h : Try.prog.underlying t = some (.map k e)) : (Instr.typeAssert (.iface t v) xT t false).run Try.prog w = .ok v w := by
  simp [Instr.typeAssert, run_underlying h, go_sem, Result.andThen]
theorem run_maps_clone {w : World} {r : Nat} {es : Array MapEntry} {clock : Nat} (t : TypeId) (hb : w.heap[r]? = some (.map es clock)) :
    (Extern.MapsClone.clone #[.iface t (.map (some r))]).run Try.prog w = .ok (.iface t (.map (some w.heap.size))) (w.alloc (.map es clock)) := by
  have e : Extern.MapsClone.clone #[.iface t (.map (some r))] = (getObj r >>= fun o => match o with
      | .map entries clock => (newObj (.map entries clock) >>= fun n => pure (.iface t (.map (some n))))
      | _ => stuck "maps.clone: a map expected") := rfl
  rw [e]
  simp [MapKept.run_getObj_map hb, Result.andThen, go_sem]

set_option maxHeartbeats 2000000 in
theorem mclone_any (m : Nat) (f : Int → Option Int) (w : World) (h : MapF w m f) :
    Calls Try.prog 29 #[.map (some m)] w fun e w' => ∃ m', e = .returned (.map (some m')) ∧ MapF w' m' f ∧ w.heap.size ≤ m' ∧ Below w.heap.size w w' := by
  obtain ⟨es, clock, hb, hs, he⟩ := h
  have HS := Lib.hid hs
  have HE := Lib.hid he
  clear hs he
  have hq := run_eql_map_nil
  go_enter Try.func29, Try.ntmps29
  go_wp2
  rw [run_callFunc_extern Try.func33 (by kernel_rfl) (by kernel_rfl) (by kernel_rfl) (e := Extern.MapsClone.clone) (by kernel_rfl), run_maps_clone 63 hb]
  simp only [Result.andThen]
  rw [Oper.upon_value]
  go_wp2
  rw [run_typeAssert_map _ 63 20 3 3 _ und63]
  simp only [Result.andThen]
  rw [Oper.upon_value]
  go_wp2
  go_ret
  exact ⟨w.heap.size, rfl, ⟨es, clock, (MapKept.heap_alloc w _).1, HS.out, HE.out⟩, Nat.le_refl _, by go_grown⟩

/-- A new heap with these things. -/
def ClonePost (S : List Th) (w : World) (e : Ending) (w' : World) : Prop :=
  ∃ p s m, e = .returned (.pointer (some ⟨p, 0, none⟩)) ∧ Hp w' p s m S ∧ (∀ b, O p s m b → w.heap.size ≤ b) ∧ Below w.heap.size w w'

theorem clone_end {w wf : World} {s : Value} {mm : Nat} {l S : List Th} {f : Int → Option Int} (hw : Below w.heap.size w wf) (ho : Own wf 69 5 s l.length (flat l)) (hs : ∀ b, s.ownBlock = some b → w.heap.size ≤ b) (hm : MapF wf mm f) (hmm : w.heap.size ≤ mm)
    (ne : s.ownBlock ≠ some mm) (hR : At l f ∧ Heaped l ∧ l.Perm S ∧ Sorted S) : ClonePost S w (.returned (.pointer (some ⟨wf.heap.size, 0, none⟩))) (wf.alloc (.cells #[s, .map (some mm)] 66)) := by
  have hb : Below wf.heap.size wf (wf.alloc (.cells #[s, .map (some mm)] 66)) := (Below.refl _ _).alloc (Nat.le_refl _) _
  refine ⟨wf.heap.size, s, mm, rfl, ⟨l, f, ⟨Blk.new _ _ _, ho.alloc _, hm.fresh hb, fun e => ?_, fun e => ?_, ne⟩, hR⟩, ?_, bl hw hb⟩
  · have := ho.lt e; omega
  · have := hm.lt; omega
  · rintro b (rfl | rfl | e)
    · exact hw.size
    · exact hmm
    · exact hs b e

set_option maxHeartbeats 2000000 in
theorem clone_any (p : Nat) (s : Value) (m : Nat) (S : List Th) (w : World) (h : Hp w p s m S) (hl : S.length ≤ 1000000) :
    Calls Try.prog 15 #[.pointer (some ⟨p, 0, none⟩)] w (ClonePost S w) := by
  obtain ⟨l, f, h0, hA, hHe, hp, hSo⟩ := h
  have hll : l.length ≤ 1000000 := by rw [hp.length_eq]; exact hl
  have HR := Lib.hid (show At l f ∧ Heaped l ∧ l.Perm S ∧ Sorted S from ⟨hA, hHe, hp, hSo⟩)
  obtain ⟨a, cap, rfl⟩ := h0.own.of_any
  have q0 := h0.blk.cell 0
  have q1 := h0.blk.cell 1
  simp at q0 q1
  have hplt := h0.blk.lt
  have HH := Lib.hid h0
  clear h0 hA hHe hp hSo
  have HW := Lib.hid (Below.refl w.heap.size w)
  go_enter Try.func15, Try.ntmps15
  go_wp2_with fail
  go_region_with (first
    | (go_at_call 28; refine (sclone_any a cap l _ (by first | exact (HH.out.fresh HBm.out).own | exact HH.out.own | exact own_drew HH.out.own) hll).mono ?_; rintro e ws ⟨t, rfl, ho, hf, hb⟩; obtain ⟨a2, c2, rfl⟩ := ho.of_any; have HBs := Lib.hid (show Below w.heap.size w ws from by first | exact bl HBm.out hb | exact bl ((Below.refl _ _).drew) hb | exact hb); have HZs := Lib.hid hb.size; have q0s := (HBs.out.cell (p := ⟨p, 0, none⟩) hplt).trans q0; have q1s := (HBs.out.cell (p := ⟨p, 1, none⟩) hplt).trans q1; have HOs := Lib.hid ho; have HFs := Lib.hid hf; have HKs := Lib.hid hb; clear ho hf hb)
    | (go_at_call 29; refine (mclone_any m f _ (by first | exact (HH.out.fresh HBs.out).map | exact HH.out.map)).mono ?_; rintro e wm ⟨mm, rfl, ho, hf, hb⟩; have HBm := Lib.hid (show Below w.heap.size w wm from by first | exact bl HBs.out hb | exact bl ((Below.refl _ _).drew) hb | exact hb); have q0m := (HBm.out.cell (p := ⟨p, 0, none⟩) hplt).trans q0; have q1m := (HBm.out.cell (p := ⟨p, 1, none⟩) hplt).trans q1; have HOm := Lib.hid ho; have HFm := Lib.hid hf; have HKm := Lib.hid hb; clear ho hf hb))
  all_goals
    go_wp2_with fail
    go_ret
    first
    | exact clone_end HBm.out (HOs.out.kept (Kept.of_below HKm.out) (fun b hb => by have := HOs.out.lt hb; omega)) (fun b hb => HFs.out b hb) HOm.out (Nat.le_trans HBs.out.size HFm.out) (fun e => by have := HOs.out.lt e; have := HFm.out; omega) HR.out
    | exact clone_end HBs.out HOs.out (fun b hb => Nat.le_trans HBm.out.size (HFs.out b hb)) (HOm.out.fresh HKs.out) HFm.out (fun e => by have := HFs.out _ e; have := HOm.out.lt; omega) HR.out

theorem clone_nil (w : World) : Calls Try.prog 15 #[.pointer none] w fun e w' => e = .returned (.pointer none) ∧ w = w' := by
  go_enter Try.func15, Try.ntmps15
  go_wp2
  go_ret
  exact ⟨rfl, rfl⟩

/-- What Key returns. -/
def keyV (S : List Th) (id : Int) : Value := .tuple #[kyV (if hasS S id then keyS S id else (0, 0, 0, 0)), .bool (hasS S id)]

set_option maxHeartbeats 2000000 in
theorem key_any (p : Nat) (s : Value) (m : Nat) (S : List Th) (id : Int) (w : World) (h : Hp w p s m S) (hl : S.length ≤ 1000000) :
    Calls Try.prog 23 #[.pointer (some ⟨p, 0, none⟩), .int .i64 id] w fun e w' => e = .returned (keyV S id) ∧ Below w.heap.size w w' := by
  obtain ⟨l, f, h0, hA, hHe, hp, hSo⟩ := h
  have HM := Lib.hid h0.map
  have hplt := h0.blk.lt
  have q0 := h0.blk.cell 0
  have q1 := h0.blk.cell 1
  simp at q0 q1
  cases hh : hasS S id
  · have hs : (f id).isSome = false := (hA.has hp id).trans hh
    obtain ⟨v, hv⟩ : ∃ v, (f id).getD 0 = v := ⟨_, rfl⟩
    have HS := Lib.hid hh
    clear h0 hA hp hh
    go_enter Try.func23, Try.ntmps23
    go_wp2_with (at_lookup; refine wpList_look _ rfl _ _ 63 3 3 rfl und63 und3 (zero3 _) m f (by exact HM.out.fresh ((Below.refl _ _).alloc (Nat.le_refl _) _)) id v false hv hs rfl rfl ?_)
    refine bodyPost_ret (by rw [results_cell_tmp rfl]; go_simp; first | rfl | (go_simp; rfl)) rfl ?_
    exact ⟨by unfold keyV; rw [HS.out]; rfl, by go_grown⟩
  · obtain ⟨j, hj, hfj, hgj⟩ := hA.key hp hh
    obtain ⟨b, cap, cur, rfl, hb, _⟩ := h0.own.of_pos (by omega)
    obtain ⟨c0, c1, c2, c3, c4⟩ := own_cells h0.own hj
    rw [hgj] at c0 c1 c2 c3 c4
    have hblt := hb.lt
    have hv0 : (f id).getD 0 = (j : Int) := by rw [hfj]; rfl
    have hok : (f id).isSome = true := by rw [hfj]; rfl
    have HS := Lib.hid hh
    have j0 : (0 : Int) ≤ (j : Int) := by omega
    have j1 : (j : Int) < (l.length : Int) := by omega
    have hll : l.length ≤ 1000000 := by rw [hp.length_eq]; exact hl
    have HK : Hid (keyV S id = .tuple #[kyV (keyS S id), .bool true]) := Lib.hid (by unfold keyV; rw [hh, if_pos rfl])
    generalize keyS S id = y at *
    obtain ⟨y1, y2, y3, y4⟩ := y
    dsimp only at c0 c1 c2 c3 c4
    clear h0 hA hp hh hb hfj hgj
    go_enter Try.func23, Try.ntmps23
    go_wp2_with (at_lookup; refine wpList_look _ rfl _ _ 63 3 3 rfl und63 und3 (zero3 _) m f (by exact HM.out.fresh ((Below.refl _ _).alloc (Nat.le_refl _) _)) id j true hv0 hok rfl rfl ?_)
    refine bodyPost_ret (by rw [results_cell_tmp rfl]; go_simp; first | rfl | (go_simp; rfl)) rfl ?_
    exact ⟨by rw [HK.out], by go_grown⟩

theorem key_nil (id : Int) (w : World) : Calls Try.prog 23 #[.pointer none, .int .i64 id] w fun e w' => e = .returned (keyV [] id) ∧ Below w.heap.size w w' := by
  go_enter Try.func23, Try.ntmps23
  go_wp2_with fail
  refine bodyPost_ret (by rw [results_cell_tmp rfl]; go_simp; first | rfl | (go_simp; rfl)) rfl ?_
  exact ⟨rfl, by go_grown⟩
end Go.Proofs.Ytffgjjlamdaajaa
