/-
  No cell of these rows narrows 'for every input' (looked for: loops, veiled, ifaces, maps, wideKeys, modest, calm, conditions, laid).
  DERIVED. THE GIVEN ROWS OF THIS SEAT. 6 by the template 'for every input the law returns true; each argument reads behind the call as it read before'; 0 by the template 'total and deterministic' (their statements: YtoecclpfgdfpoaaTotals.lean).
  GIVEN WITH THE SEED: the statements are not yours to turn. If you find one false, say at which input.
  Laid BY PROGRAM, IN A SANDBOX (cutbox-rows.mjs): the forced cells as the released guide's own fill.sh prints them over the translation 1ee0c4d8ad6c600d… (all of the seat's roots in one cut). By AI agents, Wed Nov 11 2026. No macro, syntax, notation, axiom, sorry.
-/
import Derived.Test.YtoecclpfgdfpoaaChecked
import GoSem.Claim
import GoSem.ClaimJoined
import GoSem.ClaimMapViews
import Derived.JoinedTies
import Derived.KernelRfl
namespace Go.Proofs.Ytoecclpfgdfpoaa
/- THE CELL 'sum', in the pinned program and in every row, IS THE sha256 OF THE DUMP (.gsa) THAT YtoecclpfgdfpoaaProg.lean LOADS. Nothing in Lean hashes anything: it is a label: what it is worth is what the hold of that sum in a sandbox is worth. -/
noncomputable def Try.pinned : Pinned := { name := "ytoecclpfgdfpoaa", sum := "1ee0c4d8ad6c600d3ab236617b637e57616dff3716b80443bf8116019b9efc6f", checked := Try.checked }
namespace Rows
def none {H : Type} : Left H := { results := [], args := [] }

/-- 'gloaminglaw16.CacheKinds': WHATEVER THE INPUT: true; the input reads as it did. -/
def cacheKindsSpec : ChangeSpec := { name := "cacheKinds", fn := fun _ => fun
  | [d1, d2] => { results := [.lit (.bool true)], args := [d1, d2] }
  | _ => none }
def cacheKindsRow : OpenClaim := { program := "ytoecclpfgdfpoaa", sum := "1ee0c4d8ad6c600d3ab236617b637e57616dff3716b80443bf8116019b9efc6f", func := "gloaming/gloaminglaw16.CacheKinds", spec := "cacheKinds", unfollowed := true, recurses := true, apart := false }
def CacheKindsSaid : Prop := cacheKindsRow.holds Try.pinned (OpenSpec.ofChange cacheKindsSpec)

/-- ITS FALSE NEIGHBOUR: 'it returns false'. Refute it at one input. -/
def cacheKindsWrong : ChangeSpec := { name := "cacheKinds", fn := fun _ => fun
  | [d1, d2] => { results := [.lit (.bool false)], args := [d1, d2] }
  | _ => none }
def CacheKindsWrongFalsely : Prop := cacheKindsRow.holds Try.pinned (OpenSpec.ofChange cacheKindsWrong)

/-- 'gloaminglaw16.CacheMore': WHATEVER THE INPUT: true; the input reads as it did. -/
def cacheMoreSpec : ChangeSpec := { name := "cacheMore", fn := fun _ => fun
  | [d1, d2, d3] => { results := [.lit (.bool true)], args := [d1, d2, d3] }
  | _ => none }
def cacheMoreRow : OpenClaim := { program := "ytoecclpfgdfpoaa", sum := "1ee0c4d8ad6c600d3ab236617b637e57616dff3716b80443bf8116019b9efc6f", func := "gloaming/gloaminglaw16.CacheMore", spec := "cacheMore", unfollowed := true, recurses := true, apart := false }
def CacheMoreSaid : Prop := cacheMoreRow.holds Try.pinned (OpenSpec.ofChange cacheMoreSpec)

/-- ITS FALSE NEIGHBOUR: 'it returns false'. Refute it at one input. -/
def cacheMoreWrong : ChangeSpec := { name := "cacheMore", fn := fun _ => fun
  | [d1, d2, d3] => { results := [.lit (.bool false)], args := [d1, d2, d3] }
  | _ => none }
def CacheMoreWrongFalsely : Prop := cacheMoreRow.holds Try.pinned (OpenSpec.ofChange cacheMoreWrong)

/-- 'gloaminglaw16.CacheLast': WHATEVER THE INPUT: true; the input reads as it did. -/
def cacheLastSpec : ChangeSpec := { name := "cacheLast", fn := fun _ => fun
  | [d1, d2] => { results := [.lit (.bool true)], args := [d1, d2] }
  | _ => none }
def cacheLastRow : OpenClaim := { program := "ytoecclpfgdfpoaa", sum := "1ee0c4d8ad6c600d3ab236617b637e57616dff3716b80443bf8116019b9efc6f", func := "gloaming/gloaminglaw16.CacheLast", spec := "cacheLast", unfollowed := true, recurses := true, apart := false }
def CacheLastSaid : Prop := cacheLastRow.holds Try.pinned (OpenSpec.ofChange cacheLastSpec)

/-- ITS FALSE NEIGHBOUR: 'it returns false'. Refute it at one input. -/
def cacheLastWrong : ChangeSpec := { name := "cacheLast", fn := fun _ => fun
  | [d1, d2] => { results := [.lit (.bool false)], args := [d1, d2] }
  | _ => none }
def CacheLastWrongFalsely : Prop := cacheLastRow.holds Try.pinned (OpenSpec.ofChange cacheLastWrong)

/-- 'gloaminglaw16.CacheOwn': WHATEVER THE INPUT: true; the input reads as it did. -/
def cacheOwnSpec : ChangeSpec := { name := "cacheOwn", fn := fun _ => fun
  | [d1, d2, d3] => { results := [.lit (.bool true)], args := [d1, d2, d3] }
  | _ => none }
def cacheOwnRow : OpenClaim := { program := "ytoecclpfgdfpoaa", sum := "1ee0c4d8ad6c600d3ab236617b637e57616dff3716b80443bf8116019b9efc6f", func := "gloaming/gloaminglaw16.CacheOwn", spec := "cacheOwn", unfollowed := true, recurses := true, apart := false }
def CacheOwnSaid : Prop := cacheOwnRow.holds Try.pinned (OpenSpec.ofChange cacheOwnSpec)

/-- ITS FALSE NEIGHBOUR: 'it returns false'. Refute it at one input. -/
def cacheOwnWrong : ChangeSpec := { name := "cacheOwn", fn := fun _ => fun
  | [d1, d2, d3] => { results := [.lit (.bool false)], args := [d1, d2, d3] }
  | _ => none }
def CacheOwnWrongFalsely : Prop := cacheOwnRow.holds Try.pinned (OpenSpec.ofChange cacheOwnWrong)

/-- 'gloaminglaw16.CachePlays': WHATEVER THE INPUT: true; the input reads as it did. -/
def cachePlaysSpec : ChangeSpec := { name := "cachePlays", fn := fun _ => fun
  | [d1, d2] => { results := [.lit (.bool true)], args := [d1, d2] }
  | _ => none }
def cachePlaysRow : OpenClaim := { program := "ytoecclpfgdfpoaa", sum := "1ee0c4d8ad6c600d3ab236617b637e57616dff3716b80443bf8116019b9efc6f", func := "gloaming/gloaminglaw16.CachePlays", spec := "cachePlays", unfollowed := true, recurses := true, apart := false }
def CachePlaysSaid : Prop := cachePlaysRow.holds Try.pinned (OpenSpec.ofChange cachePlaysSpec)

/-- ITS FALSE NEIGHBOUR: 'it returns false'. Refute it at one input. -/
def cachePlaysWrong : ChangeSpec := { name := "cachePlays", fn := fun _ => fun
  | [d1, d2] => { results := [.lit (.bool false)], args := [d1, d2] }
  | _ => none }
def CachePlaysWrongFalsely : Prop := cachePlaysRow.holds Try.pinned (OpenSpec.ofChange cachePlaysWrong)

/-- 'gloaminglaw16.CacheDrops': WHATEVER THE INPUT: true; the input reads as it did. -/
def cacheDropsSpec : ChangeSpec := { name := "cacheDrops", fn := fun _ => fun
  | [d1, d2, d3] => { results := [.lit (.bool true)], args := [d1, d2, d3] }
  | _ => none }
def cacheDropsRow : OpenClaim := { program := "ytoecclpfgdfpoaa", sum := "1ee0c4d8ad6c600d3ab236617b637e57616dff3716b80443bf8116019b9efc6f", func := "gloaming/gloaminglaw16.CacheDrops", spec := "cacheDrops", unfollowed := true, recurses := true, apart := false }
def CacheDropsSaid : Prop := cacheDropsRow.holds Try.pinned (OpenSpec.ofChange cacheDropsSpec)

/-- ITS FALSE NEIGHBOUR: 'it returns false'. Refute it at one input. -/
def cacheDropsWrong : ChangeSpec := { name := "cacheDrops", fn := fun _ => fun
  | [d1, d2, d3] => { results := [.lit (.bool false)], args := [d1, d2, d3] }
  | _ => none }
def CacheDropsWrongFalsely : Prop := cacheDropsRow.holds Try.pinned (OpenSpec.ofChange cacheDropsWrong)

/- THE SECOND FORM. 'bulk': how many values and letters a reading holds, each counted each time it is reached (what is shared counts as often as it is met; a slice's spare places count too). A statement '..UptoSaid' is the law's where the arguments, and the package variables that the reading takes, are together of bulk at most 1048576: NARROWER than '..Said'. Prove '..Said' where nothing that the law and all that it calls make is longer than what came in: it says more and counts as full. Else prove '..UptoSaid'. A law counts once. -/
mutual
def uptoBulk {H : Type} : DataW H → Nat
  | .lit (.string bytes) => bytes.length + 1
  | .lit _ => 1
  | .nil => 1
  | .ptr d => uptoBulk d + 1
  | .slice elems spare => uptoBulkAll elems + uptoBulkAll spare + 1
  | .agg parts => uptoBulkAll parts + 1
  | .iface _ d => uptoBulk d + 1
  | .map entries => uptoBulkEntries entries + 1
  | .held _ => 1
def uptoBulkAll {H : Type} : List (DataW H) → Nat
  | [] => 0
  | d :: r => uptoBulk d + uptoBulkAll r
def uptoBulkEntries {H : Type} : List (Lit × DataW H) → Nat
  | [] => 0
  | x :: r => uptoBulkEntry x + uptoBulkEntries r
def uptoBulkEntry {H : Type} : Lit × DataW H → Nat
  | (.string bytes, d) => bytes.length + uptoBulk d + 1
  | (_, d) => uptoBulk d + 1
 end
def uptoSmall : (H : Type) → List (DataW H) → Bool := fun _ ds => decide (uptoBulkAll ds ≤ 1048576)
def OpenSpec.upto (s : _root_.Go.ChangeSpec) : _root_.Go.OpenSpec := { _root_.Go.OpenSpec.ofChange s with cond := some uptoSmall }

/-- 'gloaminglaw16.CacheKinds', WHERE WHAT IT READS IS OF BULK AT MOST 1048576: true; the input reads as it did. -/
def cacheKindsUptoRow : OpenClaim := { program := "ytoecclpfgdfpoaa", sum := "1ee0c4d8ad6c600d3ab236617b637e57616dff3716b80443bf8116019b9efc6f", func := "gloaming/gloaminglaw16.CacheKinds", spec := "cacheKinds", unfollowed := true, recurses := true, apart := false, narrowed := true }
def CacheKindsUptoSaid : Prop := cacheKindsUptoRow.holds Try.pinned (OpenSpec.upto cacheKindsSpec)

/-- 'gloaminglaw16.CacheMore', WHERE WHAT IT READS IS OF BULK AT MOST 1048576: true; the input reads as it did. -/
def cacheMoreUptoRow : OpenClaim := { program := "ytoecclpfgdfpoaa", sum := "1ee0c4d8ad6c600d3ab236617b637e57616dff3716b80443bf8116019b9efc6f", func := "gloaming/gloaminglaw16.CacheMore", spec := "cacheMore", unfollowed := true, recurses := true, apart := false, narrowed := true }
def CacheMoreUptoSaid : Prop := cacheMoreUptoRow.holds Try.pinned (OpenSpec.upto cacheMoreSpec)

/-- 'gloaminglaw16.CacheLast', WHERE WHAT IT READS IS OF BULK AT MOST 1048576: true; the input reads as it did. -/
def cacheLastUptoRow : OpenClaim := { program := "ytoecclpfgdfpoaa", sum := "1ee0c4d8ad6c600d3ab236617b637e57616dff3716b80443bf8116019b9efc6f", func := "gloaming/gloaminglaw16.CacheLast", spec := "cacheLast", unfollowed := true, recurses := true, apart := false, narrowed := true }
def CacheLastUptoSaid : Prop := cacheLastUptoRow.holds Try.pinned (OpenSpec.upto cacheLastSpec)

/-- 'gloaminglaw16.CacheOwn', WHERE WHAT IT READS IS OF BULK AT MOST 1048576: true; the input reads as it did. -/
def cacheOwnUptoRow : OpenClaim := { program := "ytoecclpfgdfpoaa", sum := "1ee0c4d8ad6c600d3ab236617b637e57616dff3716b80443bf8116019b9efc6f", func := "gloaming/gloaminglaw16.CacheOwn", spec := "cacheOwn", unfollowed := true, recurses := true, apart := false, narrowed := true }
def CacheOwnUptoSaid : Prop := cacheOwnUptoRow.holds Try.pinned (OpenSpec.upto cacheOwnSpec)

/-- 'gloaminglaw16.CachePlays', WHERE WHAT IT READS IS OF BULK AT MOST 1048576: true; the input reads as it did. -/
def cachePlaysUptoRow : OpenClaim := { program := "ytoecclpfgdfpoaa", sum := "1ee0c4d8ad6c600d3ab236617b637e57616dff3716b80443bf8116019b9efc6f", func := "gloaming/gloaminglaw16.CachePlays", spec := "cachePlays", unfollowed := true, recurses := true, apart := false, narrowed := true }
def CachePlaysUptoSaid : Prop := cachePlaysUptoRow.holds Try.pinned (OpenSpec.upto cachePlaysSpec)

/-- 'gloaminglaw16.CacheDrops', WHERE WHAT IT READS IS OF BULK AT MOST 1048576: true; the input reads as it did. -/
def cacheDropsUptoRow : OpenClaim := { program := "ytoecclpfgdfpoaa", sum := "1ee0c4d8ad6c600d3ab236617b637e57616dff3716b80443bf8116019b9efc6f", func := "gloaming/gloaminglaw16.CacheDrops", spec := "cacheDrops", unfollowed := true, recurses := true, apart := false, narrowed := true }
def CacheDropsUptoSaid : Prop := cacheDropsUptoRow.holds Try.pinned (OpenSpec.upto cacheDropsSpec)

end Rows
end Go.Proofs.Ytoecclpfgdfpoaa
