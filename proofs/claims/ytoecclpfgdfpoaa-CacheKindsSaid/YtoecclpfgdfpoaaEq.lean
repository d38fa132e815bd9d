import Derived.Test.YtoecclpfgdfpoaaF
import Derived.Laws.StructEq
namespace Go.Proofs.Ytoecclpfgdfpoaa
open Go.RowKit
theorem fldm : ((Try.prog.fieldsOf 31).toList.map fun f => (f.name, f.type, f.offset)) = [("Version", 3, 0), ("Text", 9, 1)] := by kernel_rfl
theorem flds : ∃ f1 f2, (Try.prog.fieldsOf 31).toList = [f1, f2] ∧ f1.name = "Version" ∧ f1.type = 3 ∧ f1.offset = 0 ∧ f2.name = "Text" ∧ f2.type = 9 ∧ f2.offset = 1 := by
  have h := fldm
  match hl : (Try.prog.fieldsOf 31).toList, h with
  | [f1, f2], h => simp only [List.map_cons, List.map_nil, List.cons.injEq, Prod.mk.injEq, and_true] at h; exact ⟨f1, f2, rfl, h.1.1, h.1.2.1, h.1.2.2, h.2.1, h.2.2.1, h.2.2.2⟩
  | [], h => simp at h
  | [_], h => simp at h
  | _ :: _ :: _ :: _, h => simp at h
theorem und31 : Try.prog.underlying 31 = some (.struct (Try.prog.fieldsOf 31)) := by kernel_rfl
theorem und3 : Try.prog.underlying 3 = some (.int .i64) := by kernel_rfl
theorem und9 : Try.prog.underlying 9 = some .string := by kernel_rfl
theorem held31 : Try.prog.stoodInHeld 31 = false := by kernel_rfl
theorem part0 (x : Int) (s : ByteArray) (w : World) : (part 3 #[Value.int IntKind.i64 x, Value.string s] 0).run Try.prog w = .ok (.int .i64 x) w := by
  simp [part, isAgg, run_underlying und3]
theorem part1 (x : Int) (s : ByteArray) (w : World) : (part 9 #[Value.int IntKind.i64 x, Value.string s] 1).run Try.prog w = .ok (.string s) w := by
  simp [part, isAgg, run_underlying und9]
theorem eqName (x k : Int) (s : ByteArray) (w : World) : (binOp .eql 31 (.agg #[.int .i64 x, .string s]) (.agg #[.int .i64 k, .string s])).run Try.prog w = .ok (.bool (x == k)) w := by
  obtain ⟨f1, f2, e, n1, t1, o1, n2, t2, o2⟩ := flds
  rw [run_eql_struct, run_equalIn_struct w 9999 31 _ _ und31 held31, e]
  simp only [Op.eqFields, n1, t1, o1, n2, t2, o2]
  rw [if_pos (by decide), if_pos (by decide)]
  simp only [Sem.run_bind, part0, Result.andThen_ok, run_equalIn_int _ _ _ _ _ _ _ und3]
  cases h : x == k <;> simp [Sem.run_bind, part1, run_equalIn_string _ _ _ _ _ und9]
end Go.Proofs.Ytoecclpfgdfpoaa
