/- Things dropped out of a cache by what a function says of their keys: what each function returns, and what the cache holds then. -/
import Derived.Test.YtoecclpfgdfpoaaK
import Derived.StillTailTactics
namespace Go.Proofs.Ytoecclpfgdfpoaa
open Go.RowKit

section
variable {P : Program}

theorem zero_one (z : Array Value) (n : Nat) (hz : 0 < z.size) (h : ∀ u ∈ z.toList, u.oneCell' = true) : ∀ v ∈ (Builtin.zeroCells z n).toList, v.oneCell' = true := by
  intro v hv
  simp only [Builtin.zeroCells, Array.toList_map, List.mem_map] at hv
  obtain ⟨i, _, rfl⟩ := hv
  apply h
  have hi : i % z.size < z.size := Nat.mod_lt _ hz
  rw [getElem!_pos z (i % z.size) hi]
  exact Array.getElem_mem_toList hi

/-- clear, of elements of k cells, in a block known whole. -/
theorem run_clear_k (w : World) (t e ty te : TypeId) (z : Value) (ht : P.underlying t = some (.slice e)) (hv : ∀ w, (zeroValue e).run P w = .ok z w) (hz : 0 < z.cells.size) (h1 : ∀ u ∈ z.cells.toList, u.oneCell' = true)
    (g off n c : Nat) (cur : Array Value) (hg : Blk w g te cur) (hn : 0 < n) (hfit : off + n * z.cells.size ≤ cur.size) :
    (Builtin.clear_ #[t] ty #[.slice (some ⟨g, off, none⟩) n c]).run P w = .ok (.tuple #[]) (w.setRow g (cur.toList.take off ++ (Builtin.zeroCells z.cells n).toList ++ cur.toList.drop (off + (Builtin.zeroCells z.cells n).toList.length)).toArray) := by
  have hl : (Builtin.zeroCells z.cells n).toList.length = n * z.cells.size := by rw [Array.length_toList, size_zeroCells]
  have hst := run_storeCells_at P g off te (Builtin.zeroCells z.cells n).toList 0 cur w hg (by rw [hl]; simpa using hfit) (zero_one z.cells n hz h1)
  simp only [Nat.add_zero] at hst
  obtain ⟨m, rfl⟩ : ∃ m, n = m + 1 := ⟨n - 1, by omega⟩
  simp [Builtin.clear_, run_underlying ht, hv, hst]

theorem wpList_clear_k (w : World) {ops : Array Oper} {rest : List Oper} {o : Oper} {a : Act} {Q : Exit → Act → World → Prop} (hgd : o.guard = none) (d : Operand) (t : TypeId)
    (ho : o.op = .call { callee := .builtin .clear, args := #[d], argTypes := #[t] }) (e te : TypeId) (z : Value) (ht : P.underlying t = some (.slice e)) (hv : ∀ w, (zeroValue e).run P w = .ok z w) (hz : 0 < z.cells.size) (h1 : ∀ u ∈ z.cells.toList, u.oneCell' = true)
    (g off n c : Nat) (hd : a.eval d = .slice (some ⟨g, off, none⟩) n c) (cur : Array Value) (hg : Blk w g te cur) (hn : 0 < n) (hfit : off + n * z.cells.size ≤ cur.size)
    (h : ∀ w' cur', Blk w' g te cur' → cur'.size = cur.size → cur'.toList.take off = cur.toList.take off → Kept (fun b => b = g) w w' → wpList P ops Q rest (a.put o.dst (.tuple #[])) w') : wpList P ops Q (o :: rest) a w := by
  refine wpList_plain hgd fun K hK => ?_
  have hl : (Builtin.zeroCells z.cells n).toList.length = n * z.cells.size := by rw [Array.length_toList, size_zeroCells]
  have hrun := run_clear_k (P := P) w t e o.type te z ht hv hz h1 g off n c cur hg hn hfit
  unfold Oper.wp
  simp only [execOp, ho, resolve, invoke, builtin, Sem.run_bind, Sem.run_pure, Result.andThen_ok, List.map_toArray, List.map_cons, List.map_nil, hd, hrun]
  refine hK _ _ (h _ _ (setRow_heap w g cur _ te _ hg) ?_ ?_ (Kept.setRow (Kept.refl (fun b => b = g) w) (g := g) (.inl rfl) _))
  · simp only [List.size_toArray, List.length_append, List.length_take, List.length_drop, Array.length_toList, size_zeroCells]
    omega
  · rw [List.append_assoc, List.take_append_of_le_length (by rw [List.length_take, Array.length_toList]; omega), List.take_take, Nat.min_self]
end

theorem zero77 (w : World) : (zeroValue 77).run Try.prog w = .ok (.agg #[.int .i64 0, .int .i64 0]) w := by kernel_rfl

/-- What is asked of the function that tells which things go, at things: whatever is written into the row. -/
def AsksK (F : Nat) (c : Value) (S : Nat → Prop) (w : World) (f : Int → Bool) : Prop :=
  ∀ (k v : Int) (W : World), Kept S w W → Calls Try.prog F #[.agg #[.int .i64 k, .int .i64 v], c] W fun e w' => e = .returned (.bool (f k)) ∧ Below W.heap.size W w'
/-- .. at keys. -/
def SuchK (F : Nat) (c d : Value) (S : Nat → Prop) (w : World) (f : Int → Bool) : Prop :=
  ∀ (k : Int) (W : World), Kept S w W → Calls Try.prog F #[.int .i64 k, c, d] W fun e w' => e = .returned (.bool (f k)) ∧ Below W.heap.size W w'

/-- The things that stay. -/
def stay (f : Int → Bool) (l : List Th) : List Th := l.filter fun x => !f x.1

theorem stay_none {f : Int → Bool} {l : List Th} (h : ∀ j, j < l.length → f (l.getD j (0, 0)).1 = false) : stay f l = l := by
  refine List.filter_eq_self.2 (fun x hx => ?_)
  obtain ⟨i, hi, rfl⟩ := List.mem_iff_getElem.1 hx
  have := h i hi
  rw [List.getD_eq_getElem?_getD, List.getElem?_eq_getElem hi] at this
  simpa using this

theorem stay_step (f : Int → Bool) (l : List Th) (y : Nat) (hy : y < l.length) : stay f (l.take (y + 1)) = if f (l.getD y (0, 0)).1 then stay f (l.take y) else stay f (l.take y) ++ [l.getD y (0, 0)] := by
  unfold stay
  rw [List.take_succ_eq_append_getElem hy, List.filter_append]
  simp only [List.getD_eq_getElem?_getD, List.getElem?_eq_getElem hy, Option.getD_some, List.filter_cons, List.filter_nil]
  cases f (l[y].1) <;> simp

/-- The row while things are dropped: x of the first y have stayed. -/
structure Drp (f : Int → Bool) (l m : List Th) (x y : Nat) : Prop where
  ln : m.length = l.length
  tk : m.take x = stay f (l.take y)
  dr : m.drop y = l.drop y
  xy : x < y
  sx : (stay f (l.take y)).length = x

theorem Drp.getD {f : Int → Bool} {l m : List Th} {x y : Nat} (h : Drp f l m x y) : m.getD y (0, 0) = l.getD y (0, 0) := by
  have := congrArg (fun z => z.getD 0 (0, 0)) h.dr
  simpa [List.getD_eq_getElem?_getD, List.getElem?_drop] using this

theorem Drp.go {f : Int → Bool} {l m : List Th} {x y : Nat} (h : Drp f l m x y) (hy : y < l.length) (hf : f (l.getD y (0, 0)).1 = true) : Drp f l m x (y + 1) := by
  have e := stay_step f l y hy
  rw [hf, if_pos rfl] at e
  refine ⟨h.ln, by rw [e]; exact h.tk, ?_, by have := h.xy; omega, by rw [e]; exact h.sx⟩
  rw [← List.drop_drop, ← List.drop_drop, h.dr]

theorem Drp.keep {f : Int → Bool} {l m : List Th} {x y : Nat} (h : Drp f l m x y) (hy : y < l.length) (hf : f (l.getD y (0, 0)).1 = false) : Drp f l (m.set x (l.getD y (0, 0))) (x + 1) (y + 1) := by
  have e := stay_step f l y hy
  rw [hf, if_neg (by simp)] at e
  have hx := h.xy
  have hm := h.ln
  refine ⟨by rw [List.length_set]; exact h.ln, ?_, ?_, by omega, by rw [e, List.length_append, h.sx]; rfl⟩
  · rw [e, ← h.tk, List.take_succ_eq_append_getElem (by rw [List.length_set]; omega), List.take_set_of_le (Nat.le_refl _)]
    simp
  · rw [List.drop_set_of_lt (by omega), ← List.drop_drop, ← List.drop_drop, h.dr]

theorem Drp.start {f : Int → Bool} {l : List Th} {r : Nat} (hr : r < l.length) (hf : f (l.getD r (0, 0)).1 = true) (hno : ∀ j, j < r → f (l.getD j (0, 0)).1 = false) : Drp f l l r (r + 1) := by
  have e0 : stay f (l.take r) = l.take r := stay_none (fun j hj => by
    rw [List.length_take] at hj
    have : (l.take r).getD j (0, 0) = l.getD j (0, 0) := by simp [List.getD_eq_getElem?_getD, show j < r by omega]
    rw [this]; exact hno j (by omega))
  have e := stay_step f l r hr
  rw [hf, if_pos rfl, e0] at e
  exact ⟨rfl, e.symm, rfl, by omega, by rw [e, List.length_take]; omega⟩

theorem flat_set (m : List Th) (x : Nat) (v : Th) : ((flat m).set (x * 2) (.int .i64 v.1)).set (x * 2 + 1) (.int .i64 v.2) = flat (m.set x v) := by
  induction m generalizing x with
  | nil => simp [flat]
  | cons a r ih =>
    cases x with
    | zero => simp [flat]
    | succ x =>
      rw [show (x + 1) * 2 = x * 2 + 1 + 1 by omega]
      simp only [flat, List.set_cons_succ]
      rw [ih]

/-- What DeleteFunc leaves. -/
def DelPost (f : Int → Bool) (s : Value) (l : List Th) (w : World) (e : Ending) (w' : World) : Prop :=
  ∃ s', e = .returned s' ∧ Own w' 77 2 s' (stay f l).length (flat (stay f l)) ∧ Kept (fun b => s.ownBlock = some b) w w' ∧ (∀ b, s'.ownBlock = some b → s.ownBlock = some b)

set_option maxHeartbeats 1000000 in
theorem del_none (F : Nat) (c s : Value) (f : Int → Bool) (l : List Th) (w : World) (h : Own w 77 2 s l.length (flat l)) (hl : l.length ≤ 1000000)
    (hF : ∀ (v : Value) (W : World), (callFunc F #[v, c]).run Try.prog W = .ok (.enter F #[v, c]) W) (ha : AsksK F c (fun b => s.ownBlock = some b) w f) (hno : ∀ j, j < l.length → f (l.getD j (0, 0)).1 = false) :
    Calls Try.prog 44 #[s, .func (.func F) #[] #[c]] w (DelPost f s l w) := by
  have HC := Lib.hid (index_none F c s l (fun j => f (l.getD j (0, 0)).1) w h hl hno hF (fun j _ W hW => ha _ _ W (Kept.of_fresh hW _)))
  have HE := Lib.hid (stay_none hno)
  have HO := Lib.hid h
  clear h ha hno
  go_enter Try.func44, Try.ntmps44
  go_wp2_with fail
  refine HC.out.mono ?_
  rintro e w1 ⟨rfl, hb⟩
  go_wp2_with fail
  go_ret
  exact ⟨s, rfl, by rw [HE.out]; exact HO.out.kept (Kept.of_below hb) (fun b hb' => by have := HO.out.lt hb'; omega), Kept.of_fresh hb _, fun b hb => hb⟩

set_option maxHeartbeats 4000000 in
theorem del_some (F : Nat) (c s : Value) (f : Int → Bool) (l : List Th) (r : Nat) (w : World) (h : Own w 77 2 s l.length (flat l)) (hl : l.length ≤ 1000000)
    (hF : ∀ (v : Value) (W : World), (callFunc F #[v, c]).run Try.prog W = .ok (.enter F #[v, c]) W) (ha : AsksK F c (fun b => s.ownBlock = some b) w f) (hr : r < l.length) (hf : f (l.getD r (0, 0)).1 = true) (hno : ∀ j, j < r → f (l.getD j (0, 0)).1 = false) :
    Calls Try.prog 44 #[s, .func (.func F) #[] #[c]] w (DelPost f s l w) := by
  have HC := Lib.hid (index_some F c s l (fun j => f (l.getD j (0, 0)).1) r w h hr hl hf hno hF (fun j _ W hW => ha _ _ W (Kept.of_fresh hW _)))
  obtain ⟨g, cap, cur, rfl, hb0, hc1, hc2, _⟩ := h.of_pos (by omega)
  have HO := Lib.hid h
  have HA := Lib.hid ha
  have HD := Lib.hid (Drp.start hr hf hno)
  have hw0 : IntKind.i64.wrap ((r : Int) + 1) = ((r + 1 : Nat) : Int) := by rw [IntWalk.i64_in _ (by omega)]; omega
  clear h ha hf hno hb0
  go_enter Try.func44, Try.ntmps44
  go_wp2_with fail
  refine HC.out.mono ?_
  rintro e w1 ⟨rfl, hb⟩
  have HO1 := Lib.hid (HO.out.kept (Kept.of_below hb) (fun b hb' => by have := HO.out.lt hb'; omega))
  have HK1 := Lib.hid (Kept.of_fresh hb (fun b => (Value.slice (some ⟨g, 0, none⟩) l.length cap).ownBlock = some b))
  clear hb
  go_wp2_with fail
  go_loopw [5, 6, 7] (fun i j _ wr => ∃ (x y : Nat) (m : List Th), i = .int .i64 x ∧ j = .int .i64 y ∧ y ≤ l.length ∧ Drp f l m x y ∧ Own wr 77 2 (.slice (some ⟨g, 0, none⟩) l.length cap) l.length (flat m) ∧ Kept (fun b => (Value.slice (some ⟨g, 0, none⟩) l.length cap).ownBlock = some b) w wr)
    (fun _ j _ _ => l.length - (intOf j).toNat)
  case atStart => exact ⟨r, r + 1, l, rfl, by go_num, by omega, HD.out, HO1.out, HK1.out⟩
  case round =>
    obtain ⟨x, y, m, rfl, rfl, hy, hd, ho, hk⟩ := hrel
    have DD := Lib.hid hd
    have OO := Lib.hid ho
    have KK := Lib.hid hk
    have hxy := hd.xy
    have hml := hd.ln
    have hgl := ho.lt (b := g) rfl
    clear hd ho hk hw0
    by_cases hlt : y < l.length
    · obtain ⟨q1, q2⟩ := flat_get m y (by omega)
      rw [DD.out.getD] at q1 q2
      have c1 := (World.ownsRow.cellAt OO.out (y * 2) (by omega)).trans q1
      have c2 := (World.ownsRow.cellAt OO.out (y * 2 + 1) (by omega)).trans q2
      have y0 : (0 : Int) ≤ (y : Int) := by omega
      have y1 : (y : Int) < (l.length : Int) := by omega
      have x0 : (0 : Int) ≤ (x : Int) := by omega
      have x1 : (x : Int) < (l.length : Int) := by omega
      have HGO := Lib.hid (fun hf => DD.out.go hlt hf)
      have HKP := Lib.hid (fun hf => DD.out.keep hlt hf)
      generalize l.getD y (0, 0) = v at *
      obtain ⟨vk, vv⟩ := v
      simp only at c1 c2
      clear q1 q2
      have hne : ¬ g = wr.heap.size := by omega
      go_wp2_with fail
      refine (HA.out vk vv _ (by exact KK.out.alloc _)).mono ?_
      rintro e w2 ⟨rfl, hb⟩
      have O2 := Lib.hid ((OO.out.alloc (.cells #[.int .i64 vk, .int .i64 vv] 77)).kept (Kept.of_below hb) (fun b hb' => by
        have := (OO.out.alloc (.cells #[.int .i64 vk, .int .i64 vv] 77)).lt hb'; omega))
      have K2 := Lib.hid (((KK.out.alloc (.cells #[.int .i64 vk, .int .i64 vv] 77))).trans (Kept.of_fresh hb (fun _ => False)) (fun b h => h.elim))
      have e1 : w2.cell? ⟨wr.heap.size, 0, none⟩ = some (.int .i64 vk) := (hb.cell (p := ⟨wr.heap.size, 0, none⟩) (by simp)).trans (by simp)
      have e2 : w2.cell? ⟨wr.heap.size, 1, none⟩ = some (.int .i64 vv) := (hb.cell (p := ⟨wr.heap.size, 1, none⟩) (by simp)).trans (by simp)
      clear hb
      cases hfv : f vk
      · have HX := Lib.hid (HKP.out hfv)
        obtain ⟨z1, z2⟩ := flat_get m x (by omega)
        have d1 := (World.ownsRow.cellAt O2.out (x * 2) (by omega)).trans z1
        have d2 := (World.ownsRow.cellAt O2.out (x * 2 + 1) (by omega)).trans z2
        have f1 := World.ownsRow.frozenAt O2.out (x * 2)
        have f2 := World.ownsRow.frozenAt O2.out (x * 2 + 1)
        have ST := Lib.hid (World.ownsRow.stored ((World.ownsRow.stored O2.out (x * 2) (.int .i64 vk)).1) (x * 2 + 1) (.int .i64 vv)).1
        have FS := Lib.hid (flat_set m x (vk, vv))
        have KS := Lib.hid (Kept.setCell (Kept.setCell K2.out (p := ⟨g, x * 2, none⟩) (.inl rfl) (.int .i64 vk)) (p := ⟨g, x * 2 + 1, none⟩) (.inl rfl) (.int .i64 vv))
        clear z1 z2 c1 c2 hfv
        go_wp2_with fail
        go_roundw
        case rel =>
          (repeat apply Exists.intro)
          exact ⟨⟨x + 1, y + 1, _, by go_num, by go_num, by omega, HX.out, by rw [← FS.out]; exact ST.out, KS.out⟩, rfl⟩
        case measure => simp [intOf]; omega
      · have HX := Lib.hid (HGO.out hfv)
        clear hfv
        go_wp2_with fail
        go_roundw
        case rel =>
          (repeat apply Exists.intro)
          exact ⟨⟨x, y + 1, m, rfl, by go_num, by omega, HX.out, O2.out, K2.out⟩, rfl⟩
        case measure => simp [intOf]; omega
    · obtain rfl : y = l.length := by omega
      have TK := Lib.hid (show m.take x = stay f l by have := DD.out.tk; rw [List.take_length] at this; exact this)
      have SX := Lib.hid (show (stay f l).length = x by have := DD.out.sx; rw [List.take_length] at this; exact this)
      obtain ⟨g', cap', cur', e1, hbk, _, _, hcs, hct⟩ := OO.out.of_pos (by omega)
      simp only [Value.slice.injEq, Option.some.injEq, Addr.mk.injEq, and_true, true_and] at e1
      obtain ⟨rfl, rfl⟩ := e1
      have BK := Lib.hid hbk
      have CS := Lib.hid hcs
      have CT := Lib.hid hct
      have x0 : (0 : Int) ≤ (x : Int) := by omega
      have x1 : (x : Int) ≤ (l.length : Int) := by omega
      have x2 : (x : Int) ≤ (cap : Int) := by omega
      have hcx : ¬ cap = x := by omega
      clear hbk hcs hct hlt
      go_wp2_with (with_reducible refine wpList_clear_k _ rfl (.tmp 38) 70 rfl 77 77 (.agg #[.int .i64 0, .int .i64 0]) Try.underlying70 zero77 (by decide) (by simp [Value.cells, Value.oneCell']) g (x * 2) (l.length - x) (cap - x) rfl cur' BK.out (by omega) (by rw [CS.out]; simp [Value.cells]; omega) ?_; intro w3 cur3 hb3 hs3 ht3 hk3)
      go_returns
      have hlx := SX.out
      refine ⟨_, rfl, ?_, KK.out.trans hk3 (fun b e => .inl (by rw [e]; rfl)), fun b hb => hb⟩
      rw [hlx, ← TK.out]
      refine Own.mk hb3 (by omega) hc2 (by rw [hs3, CS.out]) ?_
      rw [ht3, flat_take, ← CT.out, List.take_take, Nat.min_eq_left (by omega)]

/-- What DeleteFunc leaves, whichever things go. -/
theorem del_any (F : Nat) (c s : Value) (f : Int → Bool) (l : List Th) (w : World) (h : Own w 77 2 s l.length (flat l)) (hl : l.length ≤ 1000000)
    (hF : ∀ (v : Value) (W : World), (callFunc F #[v, c]).run Try.prog W = .ok (.enter F #[v, c]) W) (ha : AsksK F c (fun b => s.ownBlock = some b) w f) :
    Calls Try.prog 44 #[s, .func (.func F) #[] #[c]] w (DelPost f s l w) := by
  by_cases hx : ∃ j, j < l.length ∧ f (l.getD j (0, 0)).1 = true
  · obtain ⟨r, hr, hf, hno⟩ : ∃ r, r < l.length ∧ f (l.getD r (0, 0)).1 = true ∧ ∀ j, j < r → f (l.getD j (0, 0)).1 = false := by
      obtain ⟨j, hj, hf⟩ := hx
      induction j using Nat.strongRecOn with
      | _ j ih =>
        by_cases h2 : ∃ i, i < j ∧ f (l.getD i (0, 0)).1 = true
        · obtain ⟨i, hi, hfi⟩ := h2
          exact ih i hi (by omega) hfi
        · refine ⟨j, hj, hf, fun i hi => ?_⟩
          cases hc : f (l.getD i (0, 0)).1
          · rfl
          · exact absurd ⟨i, hi, hc⟩ h2
    exact del_some F c s f l r w h hl hF ha hr hf hno
  · exact del_none F c s f l w h hl hF ha (fun j hj => by
      cases hc : f (l.getD j (0, 0)).1
      · rfl
      · exact absurd ⟨j, hj, hc⟩ hx)

/-- The closure of Drop: it hands the key on. -/
theorem hand_any (F q : Nat) (c d : Value) (S : Nat → Prop) (f : Int → Bool) (w : World) (hq : w.cell? ⟨q, 0, none⟩ = some (.func (.func F) #[] #[c, d])) (hlt : q < w.heap.size) (hS : ¬ S q)
    (hF : ∀ (k : Int) (W : World), (callFunc F #[.int .i64 k, c, d]).run Try.prog W = .ok (.enter F #[.int .i64 k, c, d]) W) (ha : SuchK F c d S w f) : AsksK 45 (.pointer (some ⟨q, 0, none⟩)) S w f := by
  intro k v W hW
  have hc := (hW.cell (o := 0) hlt hS).trans hq
  have HC := Lib.hid (fun W' hW' => ha k W' (hW.trans (Kept.of_fresh hW' S) (fun _ h => .inl h)))
  have hqW : q < W.heap.size := Nat.lt_of_lt_of_le hlt hW.size
  have hne : ¬ q = W.heap.size := by omega
  clear ha hW hq
  go_enter Try.func45, Try.ntmps45
  go_wp2_with fail
  refine (HC.out _ (by go_grown)).mono ?_
  rintro e w1 ⟨rfl, hb⟩
  have hb1 : Below W.heap.size W w1 := bl (by go_grown) hb
  clear hb
  go_wp2
  go_ret
  exact ⟨rfl, hb1⟩
end Go.Proofs.Ytoecclpfgdfpoaa
