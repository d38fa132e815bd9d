/- A heap and the reference's, side by side, with the same things; what calls on both leave. -/
import Derived.Test.YtffgjjlamdaajaaY
namespace Go.Proofs.Ytffgjjlamdaajaa
open Go.RowKit

theorem fldm28 : ((Try.prog.fieldsOf 28).toList.map fun f => (f.name, f.type, f.offset)) = [("F", 22, 0), ("H", 22, 1), ("Y", 3, 2), ("X", 3, 3)] := by kernel_rfl
theorem flds28 : ∃ f1 f2 f3 f4, (Try.prog.fieldsOf 28).toList = [f1, f2, f3, f4] ∧ (f1.name = "F" ∧ f1.type = 22 ∧ f1.offset = 0) ∧ (f2.name = "H" ∧ f2.type = 22 ∧ f2.offset = 1) ∧ (f3.name = "Y" ∧ f3.type = 3 ∧ f3.offset = 2) ∧ (f4.name = "X" ∧ f4.type = 3 ∧ f4.offset = 3) := by
  have h := fldm28
  match hl : (Try.prog.fieldsOf 28).toList, h with
  | [f1, f2, f3, f4], h => simp only [List.map_cons, List.map_nil, List.cons.injEq, Prod.mk.injEq, and_true] at h; exact ⟨f1, f2, f3, f4, rfl, h.1, h.2.1, h.2.2.1, h.2.2.2⟩
  | [], h => simp at h
  | [_], h => simp at h
  | [_, _], h => simp at h
  | [_, _, _], h => simp at h
  | _ :: _ :: _ :: _ :: _ :: _, h => simp at h
theorem und28 : Try.prog.underlying 28 = some (.struct (Try.prog.fieldsOf 28)) := by kernel_rfl
theorem held28 : Try.prog.stoodInHeld 28 = false := by kernel_rfl
theorem eqKey28 (a b : Ky) (w : World) : (binOp .eql 28 (kyV a) (kyV b)).run Try.prog w = .ok (.bool (decide (a = b))) w := by
  obtain ⟨f1, f2, f3, f4, e, ⟨n1, t1, o1⟩, ⟨n2, t2, o2⟩, ⟨n3, t3, o3⟩, ⟨n4, t4, o4⟩⟩ := flds28
  obtain ⟨a1, a2, a3, a4⟩ := a
  obtain ⟨b1, b2, b3, b4⟩ := b
  have p0 : ∀ (x1 x2 x3 x4 : Int), (part 22 #[Value.int .u64 x1, .int .u64 x2, .int .i64 x3, .int .i64 x4] 0).run Try.prog w = .ok (.int .u64 x1) w := fun _ _ _ _ => by simp [part, isAgg, run_underlying und22]
  have p1 : ∀ (x1 x2 x3 x4 : Int), (part 22 #[Value.int .u64 x1, .int .u64 x2, .int .i64 x3, .int .i64 x4] 1).run Try.prog w = .ok (.int .u64 x2) w := fun _ _ _ _ => by simp [part, isAgg, run_underlying und22]
  have p2 : ∀ (x1 x2 x3 x4 : Int), (part 3 #[Value.int .u64 x1, .int .u64 x2, .int .i64 x3, .int .i64 x4] 2).run Try.prog w = .ok (.int .i64 x3) w := fun _ _ _ _ => by simp [part, isAgg, run_underlying und3]
  have p3 : ∀ (x1 x2 x3 x4 : Int), (part 3 #[Value.int .u64 x1, .int .u64 x2, .int .i64 x3, .int .i64 x4] 3).run Try.prog w = .ok (.int .i64 x4) w := fun _ _ _ _ => by simp [part, isAgg, run_underlying und3]
  have hd : decide ((a1, a2, a3, a4) = (b1, b2, b3, b4)) = (a1 == b1 && (a2 == b2 && (a3 == b3 && a4 == b4))) := by
    rw [Bool.eq_iff_iff]
    simp
  rw [hd, run_eql_struct, run_equalIn_struct w 9999 28 _ _ und28 held28, e]
  simp only [Op.eqFields, n1, t1, o1, n2, t2, o2, n3, t3, o3, n4, t4, o4]
  rw [if_pos (by decide), if_pos (by decide), if_pos (by decide), if_pos (by decide)]
  simp only [Sem.run_bind, p0, Result.andThen_ok, run_equalIn_int _ _ _ _ _ _ _ und22]
  cases h1 : a1 == b1 <;> cases h2 : a2 == b2 <;> cases h3 : a3 == b3 <;> cases h4 : a4 == b4 <;> simp [Sem.run_bind, p1, p2, p3, run_equalIn_int _ _ _ _ _ _ _ und22, run_equalIn_int _ _ _ _ _ _ _ und3, h2, h3, h4]


set_option maxHeartbeats 1000000 in
theorem same_any (a : Ky) (w : World) : Calls Try.prog 22 #[kyV a, kyV a] w fun e w' => e = .returned (.bool true) ∧ Below w.heap.size w w' := by
  have HE := Lib.hid (show decide (a = a) = true by simp)
  have HQ := Lib.hid (fun W => eqKey28 a a W)
  have HP := Lib.hid (fun W => plain_any a W)
  rw [HE.out] at HQ
  obtain ⟨k1, k2, k3, k4⟩ := a
  have heq := HQ.out
  go_enter Try.func22, Try.ntmps22
  go_wp2_with fail
  go_region_with (go_at_call 11; refine (HP.out _).mono ?_; rintro e w2 ⟨rfl, hb⟩; have HB := Lib.hid (show Below w.heap.size w w2 from bl (by go_grown) hb); have kb := ((Blk.new (w.alloc (.cells #[.int .u64 k1, .int .u64 k2, .int .i64 k3, .int .i64 k4] 24)) 28 #[.int .u64 k1, .int .u64 k2, .int .i64 k3, .int .i64 k4]).drew).below hb (by simp); have c0 := kb.cell 0; have c1 := kb.cell 1; have c2 := kb.cell 2; have c3 := kb.cell 3; simp at c0 c1 c2 c3; clear hb kb)
  all_goals
    go_wp2_with fail
    go_ret
    exact ⟨rfl, HB.out⟩

/-! ### plain laws -/
theorem ids_iff {R : List Th} {id : Int} : id ∈ ids R ↔ hasS R id = true := by
  rw [hasS_iff]
  simp [ids]
theorem ids_no {R : List Th} {id : Int} (h : hasS R id = false) : id ∉ ids R := fun e => by rw [ids_iff.1 e] at h; cases h
theorem once_iff {R : List Th} : Once R ↔ (ids R).Nodup := by
  unfold Once ids List.Nodup
  rw [List.pairwise_map]
def pushR (R : List Th) (id : Int) (k : Ky) : List Th := if hasS R id then R else R ++ [(id, k)]
theorem pushR_srt (R : List Th) (id : Int) (k : Ky) : pushS (srt R) id k = srt (pushR R id k) := by
  unfold pushR
  cases h : hasS R id
  · rw [if_neg (by simp)]; exact push_srt h
  · rw [if_pos rfl]; exact srt_there h
theorem pushR_once {R : List Th} (ho : Once R) (id : Int) (k : Ky) : Once (pushR R id k) := by
  unfold pushR
  cases h : hasS R id
  · rw [if_neg (by simp), once_iff]
    have := ids_no h
    simp only [ids, List.map_append, List.map_cons, List.map_nil]
    exact List.nodup_append.2 ⟨once_iff.1 ho, by simp, fun a ha b hb e => by simp at hb; subst hb; subst e; exact this ha⟩
  · rw [if_pos rfl]; exact ho
theorem pushR_len (R : List Th) (id : Int) (k : Ky) : (pushR R id k).length ≤ R.length + 1 := by
  unfold pushR
  split
  · omega
  · simp
/-- The place of a thing. -/
theorem place {R : List Th} (ho : Once R) {id : Int} (hh : hasS R id = true) : ∃ q, q < R.length ∧ (ids R).getD q 0 = id ∧ (∀ j, j < q → (ids R).getD j 0 ≠ id) ∧ (kys R).getD q (0, 0, 0, 0) = keyS (srt R) id := by
  obtain ⟨q, h1, h2, h3⟩ := first_at (ids_iff.2 hh)
  have hq : q < R.length := by simpa [ids] using h1
  refine ⟨q, hq, h2, h3, ?_⟩
  rw [ids_at] at h2
  rw [kys_at]
  have hm : (id, (g R q).2) ∈ R := by
    have : g R q = R[q] := by simp [g, hq]
    rw [← h2, this]
    exact List.getElem_mem hq
  exact (keyS_srt ho hm).symm
theorem set_ids {R : List Th} {q : Nat} (hq : q < R.length) {id : Int} (h : (ids R).getD q 0 = id) (k : Ky) : ids (R.set q (id, k)) = ids R ∧ kys (R.set q (id, k)) = (kys R).set q k := by
  refine ⟨?_, by simp [kys, List.map_set]⟩
  unfold ids
  rw [List.map_set]
  have e : (List.map (·.1) R)[q]? = some id := by
    rw [← h]
    simp [ids, List.getD_eq_getElem?_getD, hq]
  exact List.ext_getElem? fun i => by
    rw [List.getElem?_set]
    split
    · rename_i e2; subst e2
      split
      · exact e.symm
      · rename_i e3; simp at e3; omega
    · rfl

/-! ### calls of the reference -/
theorem rpush_any (r : Nat) (si sk : Value) (R : List Th) (id : Int) (k : Ky) (hl : R.length ≤ 999999) {E : Int} (hE : (if hasS (srt R) id = true then (15 : Int) else 0) = E) (w : World) (h : R2 w r si sk (ids R) (kys R)) :
    Calls Try.prog 19 #[.pointer (some ⟨r, 0, none⟩), .int .i64 id, kyV k] w (RPost r si sk E (ids (pushR R id k)) (kys (pushR R id k)) w) := by
  rw [hasS_srt] at hE
  unfold pushR
  cases hh : hasS R id
  · rw [hh, if_neg (by simp)] at hE
    subst hE
    rw [if_neg (by simp)]
    have := rpush_new r si sk (ids R) (kys R) id k w h (by simpa [ids] using hl) (by simpa [kys] using hl) (ids_no hh)
    simpa [ids, kys] using this
  · rw [hh, if_pos rfl] at hE
    subst hE
    rw [if_pos rfl]
    exact rpush_there r si sk (ids R) (kys R) id k w h (by simp [ids]; omega) (ids_iff.2 hh)
theorem rlower_any (R : List Th) (ho : Once R) (id : Int) (k : Ky) (hl : R.length ≤ 1000000) : ∃ R', Once R' ∧ lowerS (srt R) id k = srt R' ∧ R'.length = R.length ∧ ∀ (r : Nat) (si sk : Value) (w : World), R2 w r si sk (ids R) (kys R) →
    Calls Try.prog 20 #[.pointer (some ⟨r, 0, none⟩), .int .i64 id, kyV k] w (RPost r si sk (lowerE (srt R) id k) (ids R') (kys R') w) := by
  cases hh : hasS R id
  · have hs : hasS (srt R) id = false := by rw [hasS_srt]; exact hh
    refine ⟨R, ho, by unfold lowerS lowerB; rw [hs, Bool.false_and, if_neg (by simp)], rfl, fun r si sk w h => ?_⟩
    have e : lowerE (srt R) id k = 14 := by unfold lowerE; rw [hs, if_neg (by simp)]
    rw [e]
    exact rlower_none r si sk (ids R) (kys R) id k w h (by simpa [ids] using hl) (ids_no hh)
  · have hs : hasS (srt R) id = true := by rw [hasS_srt]; exact hh
    obtain ⟨q, hq, h1, h2, h3⟩ := place ho hh
    have hid := set_ids hq h1 k
    have e : lowerE (srt R) id k = if ltK k ((kys R).getD q (0, 0, 0, 0)) = true then (0 : Int) else 1 := by unfold lowerE; rw [hs, if_pos rfl, h3]
    cases hlt : ltK k (keyS (srt R) id)
    · refine ⟨R, ho, by unfold lowerS lowerB; rw [hlt, Bool.and_false, if_neg (by simp)], rfl, fun r si sk w h => ?_⟩
      refine rlower_there r si sk (ids R) (kys R) id k q w h (by simpa [ids] using hl) (by simp [ids, kys]) (by simpa [ids] using hq) h1 h2 e.symm ?_
      rw [h3, hlt, if_neg (by simp)]
    · have hon : Once (R.set q (id, k)) := by rw [once_iff, hid.1]; exact once_iff.1 ho
      have h4 := ordered_lower (l := R) (S := srt R) ho (srt_perm R).symm (srt_sorted ho) hs hlt hq (by
        rw [ids_at] at h1
        rw [kys_at] at h3
        rw [← h1] at h3 ⊢
        rw [← h3])
      refine ⟨R.set q (id, k), hon, srt_eq hon h4.2 h4.1, by simp, fun r si sk w h => ?_⟩
      rw [hid.1, hid.2]
      exact rlower_there r si sk (ids R) (kys R) id k q w h (by simpa [ids] using hl) (by simp [ids, kys]) (by simpa [ids] using hq) h1 h2 e.symm (by rw [h3, hlt, if_pos rfl])

set_option maxHeartbeats 1000000 in
theorem rpop_none (r : Nat) (si sk : Value) (w : World) (h : R2 w r si sk [] []) :
    Calls Try.prog 21 #[.pointer (some ⟨r, 0, none⟩)] w (RPop r si sk (.tuple #[.int .i64 0, kyV (0, 0, 0, 0), .bool false]) [] [] w) := by
  obtain ⟨a1, c1, rfl⟩ := h.oi.of_any
  obtain ⟨a2, c2, rfl⟩ := h.ok.of_any
  have HR := Lib.hid h
  have c0 := h.blk.cell 0
  have c1 := h.blk.cell 1
  simp at c0 c1
  have hrlt := h.blk.lt
  clear h
  go_enter Try.func21, Try.ntmps21
  go_wp2_with fail
  have HB1 := Lib.hid (show Below w.heap.size w (w.alloc (.cells #[.int .u64 0, .int .u64 0, .int .i64 0, .int .i64 0] 28)) by go_grown)
  go_loopw [5, 6] (fun bs i wr => bs = .int .i64 (-1) ∧ i = .int .i64 0 ∧ wr = w.alloc (.cells #[.int .u64 0, .int .u64 0, .int .i64 0, .int .i64 0] 28))
    (fun _ _ _ => 0)
  case atStart => exact ⟨rfl, rfl, rfl⟩
  case round =>
    obtain ⟨rfl, rfl, rfl⟩ := hrel
    go_wp2_with fail
    refine bodyPost_ret (by rw [results_tct rfl]; go_simp; first | rfl | (go_simp; rfl)) rfl ?_
    exact ⟨_, _, rfl, HR.out.fresh (by go_grown), Kept.of_fresh (by go_grown) _, fun b hb => .inl hb⟩
theorem rpop_any (R : List Th) (ho : Once R) (hl : R.length ≤ 1000000) : ∃ R', Once R' ∧ (srt R).tail = srt R' ∧ R'.length = R.length - 1 ∧ ∀ (r : Nat) (si sk : Value) (w : World), R2 w r si sk (ids R) (kys R) →
    Calls Try.prog 21 #[.pointer (some ⟨r, 0, none⟩)] w (RPop r si sk (popV (srt R)) (ids R') (kys R') w) := by
  by_cases h0 : R.length = 0
  · obtain rfl := List.eq_nil_of_length_eq_zero h0
    exact ⟨[], ho, rfl, rfl, fun r si sk w h => rpop_none r si sk w h⟩
  · have hb := best_lt R R.length (by omega)
    have hs := srt_best ho hb (best_first R R.length)
    have hlen : (without R (best R R.length)).length = R.length - 1 := by
      unfold without
      rw [List.length_append, List.length_take, List.length_drop]; omega
    have hon : Once (without R (best R R.length)) := by
      unfold without Once
      have hsub : (R.take (best R R.length) ++ R.drop (best R R.length + 1)).Sublist R := by
        conv => rhs; rw [← List.take_append_drop (best R R.length) R]
        exact List.Sublist.append (List.Sublist.refl _) (by rw [← List.tail_drop]; exact List.tail_sublist _)
      exact List.Pairwise.sublist hsub ho
    refine ⟨without R (best R R.length), hon, by rw [hs]; rfl, hlen, fun r si sk w h => ?_⟩
    rw [hs, erase_ids, erase_kys]
    exact rpop_some r si sk (ids R) (kys R) R R.length w h rfl rfl rfl (by omega) hl

/-! ### side by side -/
structure HP (w wr : World) (p : Nat) (s : Value) (m : Nat) (S : List Th) (r : Nat) (si sk : Value) (R : List Th) : Prop where
  sys : Sys w wr [(p, s, m, S)]
  r2 : R2 wr r si sk (ids R) (kys R)
  once : Once R
  base : ∀ b, OR r si sk b → w.heap.size ≤ b
  out : ∀ b, OR r si sk b → Out [(p, s, m, S)] b
section
variable {w wr w' : World} {p m r : Nat} {s s' si sk si' sk' : Value} {S S' R R' : List Th}
theorem HP.mono (h : HP w wr p s m S r si sk R) (hb : Below wr.heap.size wr w') : HP w w' p s m S r si sk R := ⟨h.sys.mono hb, h.r2.fresh hb, h.once, h.base, h.out⟩
theorem HP.heap (h : HP w wr p s m S r si sk R) (hs : Sys w w' [(p, s', m, S')]) (hf : Far wr [(p, s, m, S)] w' [(p, s', m, S')]) : HP w w' p s' m S' r si sk R :=
  ⟨hs, ⟨hf.blk h.r2.blk (h.out r (.inl rfl)), hf.own h.r2.oi (fun b hb => h.out b (.inr (.inl hb))), hf.own h.r2.ok (fun b hb => h.out b (.inr (.inr hb))), h.r2.ne1, h.r2.ne2, h.r2.ne3⟩, h.once, h.base, fun b hb => hf.out (h.r2.lt hb) (h.out b hb)⟩
theorem HP.ref (h : HP w wr p s m S r si sk R) (h2 : R2 w' r si' sk' (ids R') (kys R')) (hk : Kept (OR r si sk) wr w') (hf : FreshR wr r si sk si' sk') (ho : Once R') : HP w w' p s m S r si' sk' R' :=
  ⟨h.sys.kept hk (fun b hb => ⟨h.base b hb, h.out b hb⟩), h2, ho, fun b hb => (hf b hb).elim (h.base b) (fun q => Nat.le_trans h.sys.below.size q), fun b hb => (hf b hb).elim (h.out b) (fun q => h.sys.out q)⟩
/-- A block of others. -/
theorem HP.far (h : HP w wr p s m S r si sk R) {c : Nat} (hc : wr.heap.size ≤ c) : Out [(p, s, m, S)] c ∧ ¬ OR r si sk c := ⟨h.sys.out hc, fun e => by have := h.r2.lt e; omega⟩
end
end Go.Proofs.Ytffgjjlamdaajaa
