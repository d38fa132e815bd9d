/- For every three keys the law HeapKeys returns true, and its argument reads as before. No condition. -/
import Derived.Test.YtffgjjlamdaajaaK
import Derived.Test.YtffgjjlamdaajaaL
import Derived.Test.YtffgjjlamdaajaaRows
import Derived.WalkKit
import Derived.ProofKit
import Derived.OpenShut
import Derived.ShutString
import Derived.ChangeOld
import Derived.Below
import Derived.Lib.SmallJoins
import Derived.Test.YtffgjjlamdaajaaOp
namespace Go.Proofs.Ytffgjjlamdaajaa.heapKeys
open Go.ChangeShapes Go.WideShapes Go.ChangeAt Go.RowKit
open Go.ChangeMaps (open_string shut_string)
set_option linter.unusedVariables false

theorem own : ownKnob Try.prog.godebug = none := by kernel_rfl
theorem laidOut : laidOutB Try.prog = true := by kernel_rfl

set_option maxRecDepth 100000 in
theorem lifted (os : Os) (started : os.Started) (H : Type) (enc : TypeId × Value → H) :
    ReturnsInHanded {} Try.checked os 3 .any (Rows.heapKeysSpec.pre6 enc Try.prog Try.f3 Rows.heapKeysRow.domain false) (Rows.heapKeysSpec.post enc Try.prog Try.f3 false true false false) := by
  refine returnsInHanded_of_change (C := Try.checked) own started (by kernel_rfl) Try.func3
    (ChangeSpec.witness6 (enc := enc) (C := Try.checked) false ⟨#[], #[.agg #[.int .u64 0, .int .u64 0, .int .i64 0, .int .i64 0, .int .u64 0, .int .u64 0, .int .i64 0, .int .i64 0, .int .u64 0, .int .u64 0, .int .i64 0, .int .i64 0]], []⟩ 8 (by kernel_rfl) (by kernel_rfl) (by kernel_rfl) (by kernel_rfl)) ?_
  intro W base args ds gs before hval0 hW hcnd _
  have hval : ∀ (j : Nat) t v, Try.f3.params[j]? = some t → args[j]? = some v → Value.okWide Try.prog W .any base t v := hval0
  have hW' := hW
  obtain ⟨p, q, hA0, hV, rfl, hfz, hnd⟩ := hW
  have hA : DataW.TrodAll enc Try.prog W 0 (fun _ => true) true Try.f3.params.toList args.toList ds p := hA0
  rw [Try.params3] at hA hval
  obtain ⟨v0, vs0, d0, ds0, p0, q0, hargs, rfl, rfl, h0, r0⟩ := trodAll_cons hA
  obtain ⟨rfl, rfl, rfl⟩ := trodAll_nil r0
  obtain rfl : args = #[v0] := by cases args; simp_all
  obtain ⟨rfl, rfl⟩ := trodVars_none hV
  have k0 := h0
  have lt0 : ∀ x ∈ p0, x.block < W.heap.size := by obtain ⟨m, hm⟩ := k0; exact DataW.trod_lt m _ _ _ hm
  obtain ⟨cs0, rfl, cf0⟩ := open_flat (f := 6) (ks := [some .u64, some .u64, some .i64, some .i64, some .u64, some .u64, some .i64, some .i64, some .u64, some .u64, some .i64, some .i64]) (.inr ⟨_, _, Try.underlying25⟩) (by kernel_rfl) (hval 0 25 v0 rfl rfl) h0
  obtain ⟨_, _, rfl, ⟨a0_0, rfl, w0_0⟩, cf0_0⟩ := Conf.cons cf0
  obtain ⟨_, _, rfl, ⟨a0_1, rfl, w0_1⟩, cf0_1⟩ := Conf.cons cf0_0
  obtain ⟨_, _, rfl, ⟨a0_2, rfl, w0_2⟩, cf0_2⟩ := Conf.cons cf0_1
  obtain ⟨_, _, rfl, ⟨a0_3, rfl, w0_3⟩, cf0_3⟩ := Conf.cons cf0_2
  obtain ⟨_, _, rfl, ⟨a0_4, rfl, w0_4⟩, cf0_4⟩ := Conf.cons cf0_3
  obtain ⟨_, _, rfl, ⟨a0_5, rfl, w0_5⟩, cf0_5⟩ := Conf.cons cf0_4
  obtain ⟨_, _, rfl, ⟨a0_6, rfl, w0_6⟩, cf0_6⟩ := Conf.cons cf0_5
  obtain ⟨_, _, rfl, ⟨a0_7, rfl, w0_7⟩, cf0_7⟩ := Conf.cons cf0_6
  obtain ⟨_, _, rfl, ⟨a0_8, rfl, w0_8⟩, cf0_8⟩ := Conf.cons cf0_7
  obtain ⟨_, _, rfl, ⟨a0_9, rfl, w0_9⟩, cf0_9⟩ := Conf.cons cf0_8
  obtain ⟨_, _, rfl, ⟨a0_10, rfl, w0_10⟩, cf0_10⟩ := Conf.cons cf0_9
  obtain ⟨_, _, rfl, ⟨a0_11, rfl, w0_11⟩, cf0_11⟩ := Conf.cons cf0_10
  obtain rfl := Conf.nil cf0_11
  clear hA0 hval0
  refine (wKeys (a0_0, a0_1, a0_2, a0_3) (a0_4, a0_5, a0_6, a0_7) (a0_8, a0_9, a0_10, a0_11) W).mono fun e W' ⟨he, bel⟩ => ?_
  subst he
  exact ⟨_, rfl, _, _, _, [], _, [], hW', trodAll_mk1 (shut_bool Try.underlying4 _), (trodAll_cons_mk (Below.trod laidOut (by kernel_rfl) (of_decide_eq_true (by kernel_rfl)) k0 bel lt0) trodAll_mk0), rfl, bel.frame _, fun h => by cases h⟩

theorem over : Rows.heapKeysRow.holds Try.pinned (OpenSpec.ofChange Rows.heapKeysSpec) :=
  OpenClaim.holds_of_wide 3 Try.f3 rfl rfl rfl rfl rfl rfl rfl ⟨rfl, rfl, rfl, rfl, rfl⟩ rfl rfl rfl rfl rfl (by kernel_rfl) Try.func3 (by kernel_rfl)
    (of_decide_eq_true (by kernel_rfl)) (by unfold Func.isWrapper; first | (rw [if_pos (by decide +kernel)]; kernel_rfl) | (rw [if_neg (by decide +kernel)]; exact ⟨rfl, rfl⟩))
    (fun os started H enc _ => lifted os started H enc)

/-- The statement. -/
theorem proved : Rows.HeapKeysSaid := over
#print axioms proved
end Go.Proofs.Ytffgjjlamdaajaa.heapKeys
