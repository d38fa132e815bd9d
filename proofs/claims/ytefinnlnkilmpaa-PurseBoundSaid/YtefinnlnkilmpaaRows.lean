/-
  No cell of these rows narrows 'for every input' (looked for: loops, veiled, ifaces, maps, wideKeys, modest, calm, conditions, laid).
  DERIVED. THE GIVEN ROWS OF THIS SEAT. 6 by the template 'for every input the law returns true; each argument reads behind the call as it read before'; 0 by the template 'total and deterministic' (their statements: YtefinnlnkilmpaaTotals.lean).
  GIVEN WITH THE SEED: the statements are not yours to turn. If you find one false, say at which input.
  Laid BY PROGRAM, IN A SANDBOX (cutbox-rows.mjs): the forced cells as the released guide's own fill.sh prints them over the translation d0d8ccfd155ea3f2… (all of the seat's roots in one cut). By AI agents, Wed Nov 11 2026. No macro, syntax, notation, axiom, sorry.
-/
import Derived.Test.YtefinnlnkilmpaaChecked
import GoSem.Claim
import GoSem.ClaimJoined
import GoSem.ClaimMapViews
import Derived.JoinedTies
import Derived.KernelRfl
namespace Go.Proofs.Ytefinnlnkilmpaa
/- THE CELL 'sum', in the pinned program and in every row, IS THE sha256 OF THE DUMP (.gsa) THAT YtefinnlnkilmpaaProg.lean LOADS. Nothing in Lean hashes anything: it is a label: what it is worth is what the hold of that sum in a sandbox is worth. -/
noncomputable def Try.pinned : Pinned := { name := "ytefinnlnkilmpaa", sum := "d0d8ccfd155ea3f2382b4e7262c43d290190a8bb59923e399219913b422659f3", checked := Try.checked }
namespace Rows
def none {H : Type} : Left H := { results := [], args := [] }

/-- 'gloaminglaw17.PurseNew': WHATEVER THE INPUT: true; the input reads as it did. -/
def purseNewSpec : ChangeSpec := { name := "purseNew", fn := fun _ => fun
  | [d1, d2] => { results := [.lit (.bool true)], args := [d1, d2] }
  | _ => none }
def purseNewRow : OpenClaim := { program := "ytefinnlnkilmpaa", sum := "d0d8ccfd155ea3f2382b4e7262c43d290190a8bb59923e399219913b422659f3", func := "gloaming/gloaminglaw17.PurseNew", spec := "purseNew", unfollowed := true, recurses := true, apart := false }
def PurseNewSaid : Prop := purseNewRow.holds Try.pinned (OpenSpec.ofChange purseNewSpec)

/-- ITS FALSE NEIGHBOUR: 'it returns false'. Refute it at one input. -/
def purseNewWrong : ChangeSpec := { name := "purseNew", fn := fun _ => fun
  | [d1, d2] => { results := [.lit (.bool false)], args := [d1, d2] }
  | _ => none }
def PurseNewWrongFalsely : Prop := purseNewRow.holds Try.pinned (OpenSpec.ofChange purseNewWrong)

/-- 'gloaminglaw17.PurseTicks': WHATEVER THE INPUT: true; the input reads as it did. -/
def purseTicksSpec : ChangeSpec := { name := "purseTicks", fn := fun _ => fun
  | [d1, d2] => { results := [.lit (.bool true)], args := [d1, d2] }
  | _ => none }
def purseTicksRow : OpenClaim := { program := "ytefinnlnkilmpaa", sum := "d0d8ccfd155ea3f2382b4e7262c43d290190a8bb59923e399219913b422659f3", func := "gloaming/gloaminglaw17.PurseTicks", spec := "purseTicks", unfollowed := true, recurses := true, apart := false }
def PurseTicksSaid : Prop := purseTicksRow.holds Try.pinned (OpenSpec.ofChange purseTicksSpec)

/-- ITS FALSE NEIGHBOUR: 'it returns false'. Refute it at one input. -/
def purseTicksWrong : ChangeSpec := { name := "purseTicks", fn := fun _ => fun
  | [d1, d2] => { results := [.lit (.bool false)], args := [d1, d2] }
  | _ => none }
def PurseTicksWrongFalsely : Prop := purseTicksRow.holds Try.pinned (OpenSpec.ofChange purseTicksWrong)

/-- 'gloaminglaw17.PurseTurns': WHATEVER THE INPUT: true; the input reads as it did. -/
def purseTurnsSpec : ChangeSpec := { name := "purseTurns", fn := fun _ => fun
  | [d1, d2, d3] => { results := [.lit (.bool true)], args := [d1, d2, d3] }
  | _ => none }
def purseTurnsRow : OpenClaim := { program := "ytefinnlnkilmpaa", sum := "d0d8ccfd155ea3f2382b4e7262c43d290190a8bb59923e399219913b422659f3", func := "gloaming/gloaminglaw17.PurseTurns", spec := "purseTurns", unfollowed := true, recurses := true, apart := false }
def PurseTurnsSaid : Prop := purseTurnsRow.holds Try.pinned (OpenSpec.ofChange purseTurnsSpec)

/-- ITS FALSE NEIGHBOUR: 'it returns false'. Refute it at one input. -/
def purseTurnsWrong : ChangeSpec := { name := "purseTurns", fn := fun _ => fun
  | [d1, d2, d3] => { results := [.lit (.bool false)], args := [d1, d2, d3] }
  | _ => none }
def PurseTurnsWrongFalsely : Prop := purseTurnsRow.holds Try.pinned (OpenSpec.ofChange purseTurnsWrong)

/-- 'gloaminglaw17.PurseBound': WHATEVER THE INPUT: true; the input reads as it did. -/
def purseBoundSpec : ChangeSpec := { name := "purseBound", fn := fun _ => fun
  | [d1, d2, d3] => { results := [.lit (.bool true)], args := [d1, d2, d3] }
  | _ => none }
def purseBoundRow : OpenClaim := { program := "ytefinnlnkilmpaa", sum := "d0d8ccfd155ea3f2382b4e7262c43d290190a8bb59923e399219913b422659f3", func := "gloaming/gloaminglaw17.PurseBound", spec := "purseBound", unfollowed := true, recurses := true, apart := false }
def PurseBoundSaid : Prop := purseBoundRow.holds Try.pinned (OpenSpec.ofChange purseBoundSpec)

/-- ITS FALSE NEIGHBOUR: 'it returns false'. Refute it at one input. -/
def purseBoundWrong : ChangeSpec := { name := "purseBound", fn := fun _ => fun
  | [d1, d2, d3] => { results := [.lit (.bool false)], args := [d1, d2, d3] }
  | _ => none }
def PurseBoundWrongFalsely : Prop := purseBoundRow.holds Try.pinned (OpenSpec.ofChange purseBoundWrong)

/-- 'gloaminglaw17.PurseSteps': WHATEVER THE INPUT: true; the input reads as it did. -/
def purseStepsSpec : ChangeSpec := { name := "purseSteps", fn := fun _ => fun
  | [d1, d2, d3] => { results := [.lit (.bool true)], args := [d1, d2, d3] }
  | _ => none }
def purseStepsRow : OpenClaim := { program := "ytefinnlnkilmpaa", sum := "d0d8ccfd155ea3f2382b4e7262c43d290190a8bb59923e399219913b422659f3", func := "gloaming/gloaminglaw17.PurseSteps", spec := "purseSteps", unfollowed := true, recurses := true, apart := false }
def PurseStepsSaid : Prop := purseStepsRow.holds Try.pinned (OpenSpec.ofChange purseStepsSpec)

/-- ITS FALSE NEIGHBOUR: 'it returns false'. Refute it at one input. -/
def purseStepsWrong : ChangeSpec := { name := "purseSteps", fn := fun _ => fun
  | [d1, d2, d3] => { results := [.lit (.bool false)], args := [d1, d2, d3] }
  | _ => none }
def PurseStepsWrongFalsely : Prop := purseStepsRow.holds Try.pinned (OpenSpec.ofChange purseStepsWrong)

/-- 'gloaminglaw17.PurseParts': WHATEVER THE INPUT: true; the input reads as it did. -/
def pursePartsSpec : ChangeSpec := { name := "purseParts", fn := fun _ => fun
  | [d1, d2] => { results := [.lit (.bool true)], args := [d1, d2] }
  | _ => none }
def pursePartsRow : OpenClaim := { program := "ytefinnlnkilmpaa", sum := "d0d8ccfd155ea3f2382b4e7262c43d290190a8bb59923e399219913b422659f3", func := "gloaming/gloaminglaw17.PurseParts", spec := "purseParts", unfollowed := true, recurses := true, apart := false }
def PursePartsSaid : Prop := pursePartsRow.holds Try.pinned (OpenSpec.ofChange pursePartsSpec)

/-- ITS FALSE NEIGHBOUR: 'it returns false'. Refute it at one input. -/
def pursePartsWrong : ChangeSpec := { name := "purseParts", fn := fun _ => fun
  | [d1, d2] => { results := [.lit (.bool false)], args := [d1, d2] }
  | _ => none }
def PursePartsWrongFalsely : Prop := pursePartsRow.holds Try.pinned (OpenSpec.ofChange pursePartsWrong)

/- THE SECOND FORM. 'bulk': how many values and letters a reading holds, each counted each time it is reached (what is shared counts as often as it is met; a slice's spare places count too). A statement '..UptoSaid' is the law's where the arguments, and the package variables that the reading takes, are together of bulk at most 1048576: NARROWER than '..Said'. Prove '..Said' where nothing that the law and all that it calls make is longer than what came in: it says more and counts as full. Else prove '..UptoSaid'. A law counts once. -/
mutual
def uptoBulk {H : Type} : DataW H → Nat
  | .lit (.string bytes) => bytes.length + 1
  | .lit _ => 1
  | .nil => 1
  | .ptr d => uptoBulk d + 1
  | .slice elems spare => uptoBulkAll elems + uptoBulkAll spare + 1
  | .agg parts => uptoBulkAll parts + 1
  | .iface _ d => uptoBulk d + 1
  | .map entries => uptoBulkEntries entries + 1
  | .held _ => 1
def uptoBulkAll {H : Type} : List (DataW H) → Nat
  | [] => 0
  | d :: r => uptoBulk d + uptoBulkAll r
def uptoBulkEntries {H : Type} : List (Lit × DataW H) → Nat
  | [] => 0
  | x :: r => uptoBulkEntry x + uptoBulkEntries r
def uptoBulkEntry {H : Type} : Lit × DataW H → Nat
  | (.string bytes, d) => bytes.length + uptoBulk d + 1
  | (_, d) => uptoBulk d + 1
 end
def uptoSmall : (H : Type) → List (DataW H) → Bool := fun _ ds => decide (uptoBulkAll ds ≤ 1048576)
def OpenSpec.upto (s : _root_.Go.ChangeSpec) : _root_.Go.OpenSpec := { _root_.Go.OpenSpec.ofChange s with cond := some uptoSmall }

/-- 'gloaminglaw17.PurseNew', WHERE WHAT IT READS IS OF BULK AT MOST 1048576: true; the input reads as it did. -/
def purseNewUptoRow : OpenClaim := { program := "ytefinnlnkilmpaa", sum := "d0d8ccfd155ea3f2382b4e7262c43d290190a8bb59923e399219913b422659f3", func := "gloaming/gloaminglaw17.PurseNew", spec := "purseNew", unfollowed := true, recurses := true, apart := false, narrowed := true }
def PurseNewUptoSaid : Prop := purseNewUptoRow.holds Try.pinned (OpenSpec.upto purseNewSpec)

/-- 'gloaminglaw17.PurseTicks', WHERE WHAT IT READS IS OF BULK AT MOST 1048576: true; the input reads as it did. -/
def purseTicksUptoRow : OpenClaim := { program := "ytefinnlnkilmpaa", sum := "d0d8ccfd155ea3f2382b4e7262c43d290190a8bb59923e399219913b422659f3", func := "gloaming/gloaminglaw17.PurseTicks", spec := "purseTicks", unfollowed := true, recurses := true, apart := false, narrowed := true }
def PurseTicksUptoSaid : Prop := purseTicksUptoRow.holds Try.pinned (OpenSpec.upto purseTicksSpec)

/-- 'gloaminglaw17.PurseTurns', WHERE WHAT IT READS IS OF BULK AT MOST 1048576: true; the input reads as it did. -/
def purseTurnsUptoRow : OpenClaim := { program := "ytefinnlnkilmpaa", sum := "d0d8ccfd155ea3f2382b4e7262c43d290190a8bb59923e399219913b422659f3", func := "gloaming/gloaminglaw17.PurseTurns", spec := "purseTurns", unfollowed := true, recurses := true, apart := false, narrowed := true }
def PurseTurnsUptoSaid : Prop := purseTurnsUptoRow.holds Try.pinned (OpenSpec.upto purseTurnsSpec)

/-- 'gloaminglaw17.PurseBound', WHERE WHAT IT READS IS OF BULK AT MOST 1048576: true; the input reads as it did. -/
def purseBoundUptoRow : OpenClaim := { program := "ytefinnlnkilmpaa", sum := "d0d8ccfd155ea3f2382b4e7262c43d290190a8bb59923e399219913b422659f3", func := "gloaming/gloaminglaw17.PurseBound", spec := "purseBound", unfollowed := true, recurses := true, apart := false, narrowed := true }
def PurseBoundUptoSaid : Prop := purseBoundUptoRow.holds Try.pinned (OpenSpec.upto purseBoundSpec)

/-- 'gloaminglaw17.PurseSteps', WHERE WHAT IT READS IS OF BULK AT MOST 1048576: true; the input reads as it did. -/
def purseStepsUptoRow : OpenClaim := { program := "ytefinnlnkilmpaa", sum := "d0d8ccfd155ea3f2382b4e7262c43d290190a8bb59923e399219913b422659f3", func := "gloaming/gloaminglaw17.PurseSteps", spec := "purseSteps", unfollowed := true, recurses := true, apart := false, narrowed := true }
def PurseStepsUptoSaid : Prop := purseStepsUptoRow.holds Try.pinned (OpenSpec.upto purseStepsSpec)

/-- 'gloaminglaw17.PurseParts', WHERE WHAT IT READS IS OF BULK AT MOST 1048576: true; the input reads as it did. -/
def pursePartsUptoRow : OpenClaim := { program := "ytefinnlnkilmpaa", sum := "d0d8ccfd155ea3f2382b4e7262c43d290190a8bb59923e399219913b422659f3", func := "gloaming/gloaminglaw17.PurseParts", spec := "purseParts", unfollowed := true, recurses := true, apart := false, narrowed := true }
def PursePartsUptoSaid : Prop := pursePartsUptoRow.holds Try.pinned (OpenSpec.upto pursePartsSpec)

end Rows
end Go.Proofs.Ytefinnlnkilmpaa
