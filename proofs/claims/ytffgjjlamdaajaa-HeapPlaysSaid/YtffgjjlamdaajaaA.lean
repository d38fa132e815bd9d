/- Keys and things compared: what each function returns. -/
import Derived.Test.YtffgjjlamdaajaaPn
import Derived.Laws.StructEq
namespace Go.Proofs.Ytffgjjlamdaajaa
open Go.RowKit

/-- A key as a value. -/
abbrev kyV (k : Ky) : Value := .agg #[.int .u64 k.1, .int .u64 k.2.1, .int .i64 k.2.2.1, .int .i64 k.2.2.2]
/-- A thing as a value. -/
abbrev thV (t : Th) : Value := .agg #[.int .i64 t.1, .int .u64 t.2.1, .int .u64 t.2.2.1, .int .i64 t.2.2.2.1, .int .i64 t.2.2.2.2]

theorem fldm : ((Try.prog.fieldsOf 24).toList.map fun f => (f.name, f.type, f.offset)) = [("F", 22, 0), ("H", 22, 1), ("Y", 3, 2), ("X", 3, 3)] := by kernel_rfl
theorem flds : ∃ f1 f2 f3 f4, (Try.prog.fieldsOf 24).toList = [f1, f2, f3, f4] ∧ (f1.name = "F" ∧ f1.type = 22 ∧ f1.offset = 0) ∧ (f2.name = "H" ∧ f2.type = 22 ∧ f2.offset = 1) ∧ (f3.name = "Y" ∧ f3.type = 3 ∧ f3.offset = 2) ∧ (f4.name = "X" ∧ f4.type = 3 ∧ f4.offset = 3) := by
  have h := fldm
  match hl : (Try.prog.fieldsOf 24).toList, h with
  | [f1, f2, f3, f4], h => simp only [List.map_cons, List.map_nil, List.cons.injEq, Prod.mk.injEq, and_true] at h; exact ⟨f1, f2, f3, f4, rfl, h.1, h.2.1, h.2.2.1, h.2.2.2⟩
  | [], h => simp at h
  | [_], h => simp at h
  | [_, _], h => simp at h
  | [_, _, _], h => simp at h
  | _ :: _ :: _ :: _ :: _ :: _, h => simp at h
theorem und24 : Try.prog.underlying 24 = some (.struct (Try.prog.fieldsOf 24)) := by kernel_rfl
theorem und3 : Try.prog.underlying 3 = some (.int .i64) := by kernel_rfl
theorem und22 : Try.prog.underlying 22 = some (.int .u64) := by kernel_rfl
theorem held24 : Try.prog.stoodInHeld 24 = false := by kernel_rfl
theorem eqKey (a b : Ky) (w : World) : (binOp .eql 24 (kyV a) (kyV b)).run Try.prog w = .ok (.bool (decide (a = b))) w := by
  obtain ⟨f1, f2, f3, f4, e, ⟨n1, t1, o1⟩, ⟨n2, t2, o2⟩, ⟨n3, t3, o3⟩, ⟨n4, t4, o4⟩⟩ := flds
  obtain ⟨a1, a2, a3, a4⟩ := a
  obtain ⟨b1, b2, b3, b4⟩ := b
  have p0 : ∀ (x1 x2 x3 x4 : Int), (part 22 #[Value.int .u64 x1, .int .u64 x2, .int .i64 x3, .int .i64 x4] 0).run Try.prog w = .ok (.int .u64 x1) w := fun _ _ _ _ => by simp [part, isAgg, run_underlying und22]
  have p1 : ∀ (x1 x2 x3 x4 : Int), (part 22 #[Value.int .u64 x1, .int .u64 x2, .int .i64 x3, .int .i64 x4] 1).run Try.prog w = .ok (.int .u64 x2) w := fun _ _ _ _ => by simp [part, isAgg, run_underlying und22]
  have p2 : ∀ (x1 x2 x3 x4 : Int), (part 3 #[Value.int .u64 x1, .int .u64 x2, .int .i64 x3, .int .i64 x4] 2).run Try.prog w = .ok (.int .i64 x3) w := fun _ _ _ _ => by simp [part, isAgg, run_underlying und3]
  have p3 : ∀ (x1 x2 x3 x4 : Int), (part 3 #[Value.int .u64 x1, .int .u64 x2, .int .i64 x3, .int .i64 x4] 3).run Try.prog w = .ok (.int .i64 x4) w := fun _ _ _ _ => by simp [part, isAgg, run_underlying und3]
  have hd : decide ((a1, a2, a3, a4) = (b1, b2, b3, b4)) = (a1 == b1 && (a2 == b2 && (a3 == b3 && a4 == b4))) := by
    rw [Bool.eq_iff_iff]
    simp
  rw [hd, run_eql_struct, run_equalIn_struct w 9999 24 _ _ und24 held24, e]
  simp only [Op.eqFields, n1, t1, o1, n2, t2, o2, n3, t3, o3, n4, t4, o4]
  rw [if_pos (by decide), if_pos (by decide), if_pos (by decide), if_pos (by decide)]
  simp only [Sem.run_bind, p0, Result.andThen_ok, run_equalIn_int _ _ _ _ _ _ _ und22]
  cases h1 : a1 == b1 <;> cases h2 : a2 == b2 <;> cases h3 : a3 == b3 <;> cases h4 : a4 == b4 <;> simp [Sem.run_bind, p1, p2, p3, run_equalIn_int _ _ _ _ _ _ _ und22, run_equalIn_int _ _ _ _ _ _ _ und3, h2, h3, h4]

set_option maxHeartbeats 1000000 in
theorem less_any (a b : Ky) (w : World) : Calls Try.prog 9 #[kyV a, kyV b] w fun e w' => e = .returned (.bool (ltK a b)) ∧ Below w.heap.size w w' := by
  obtain ⟨a1, a2, a3, a4⟩ := a
  obtain ⟨b1, b2, b3, b4⟩ := b
  unfold ltK
  dsimp only
  by_cases h1 : a1 = b1
  · subst h1
    rw [if_pos rfl]
    by_cases h2 : a2 = b2
    · subst h2
      rw [if_pos rfl]
      by_cases h3 : a3 = b3
      · subst h3
        rw [if_pos rfl]
        go_enter Try.func9, Try.ntmps9
        go_wp2
        go_ret
        exact ⟨rfl, by go_grown⟩
      · rw [if_neg h3]
        have e3 : (a3 == b3) = false := by simpa using h3
        go_enter Try.func9, Try.ntmps9
        go_wp2
        go_ret
        exact ⟨rfl, by go_grown⟩
    · rw [if_neg h2]
      have e2 : (a2 == b2) = false := by simpa using h2
      go_enter Try.func9, Try.ntmps9
      go_wp2
      go_ret
      exact ⟨rfl, by go_grown⟩
  · rw [if_neg h1]
    have e1 : (a1 == b1) = false := by simpa using h1
    go_enter Try.func9, Try.ntmps9
    go_wp2
    go_ret
    exact ⟨rfl, by go_grown⟩

set_option maxHeartbeats 1000000 in
theorem ahead_any (a b : Th) (w : World) : Calls Try.prog 32 #[thV a, thV b] w fun e w' => e = .returned (.bool (ahead a b)) ∧ Below w.heap.size w w' := by
  have HL := Lib.hid (fun W => less_any a.2 b.2 W)
  have he := eqKey a.2 b.2
  unfold ahead
  obtain ⟨ai, a1, a2, a3, a4⟩ := a
  obtain ⟨bi, b1, b2, b3, b4⟩ := b
  dsimp only at he ⊢
  by_cases h : (a1, a2, a3, a4) = (b1, b2, b3, b4)
  · rw [if_pos h]
    rw [decide_eq_true h] at he
    clear h
    go_enter Try.func32, Try.ntmps32
    go_wp2_with fail
    go_ret
    exact ⟨rfl, by go_grown⟩
  · rw [if_neg h]
    rw [decide_eq_false h] at he
    clear h
    go_enter Try.func32, Try.ntmps32
    go_wp2_with fail
    refine (HL.out _).mono ?_
    rintro e w1 ⟨rfl, hb⟩
    have HB := Lib.hid (show Below w.heap.size w w1 from bl (by go_grown) hb)
    clear hb
    go_wp2_with fail
    go_ret
    exact ⟨rfl, HB.out⟩
end Go.Proofs.Ytffgjjlamdaajaa
