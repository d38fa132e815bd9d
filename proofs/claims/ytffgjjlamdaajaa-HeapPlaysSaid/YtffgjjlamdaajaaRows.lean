/-
  No cell of these rows narrows 'for every input' (looked for: loops, veiled, ifaces, maps, wideKeys, modest, calm, conditions, laid).
  DERIVED. THE GIVEN ROWS OF THIS SEAT. 6 by the template 'for every input the law returns true; each argument reads behind the call as it read before'; 0 by the template 'total and deterministic' (their statements: YtffgjjlamdaajaaTotals.lean).
  GIVEN WITH THE SEED: the statements are not yours to turn. If you find one false, say at which input.
  Laid BY PROGRAM, IN A SANDBOX (cutbox-rows.mjs): the forced cells as the released guide's own fill.sh prints them over the translation 06a8a162533c6255… (all of the seat's roots in one cut). By AI agents, Wed Nov 11 2026. No macro, syntax, notation, axiom, sorry.
-/
import Derived.Test.YtffgjjlamdaajaaChecked
import GoSem.Claim
import GoSem.ClaimJoined
import GoSem.ClaimMapViews
import Derived.JoinedTies
import Derived.KernelRfl
namespace Go.Proofs.Ytffgjjlamdaajaa
/- THE CELL 'sum', in the pinned program and in every row, IS THE sha256 OF THE DUMP (.gsa) THAT YtffgjjlamdaajaaProg.lean LOADS. Nothing in Lean hashes anything: it is a label: what it is worth is what the hold of that sum in a sandbox is worth. -/
noncomputable def Try.pinned : Pinned := { name := "ytffgjjlamdaajaa", sum := "06a8a162533c62550cbfd8190047a4b75b05619983d87f92c64c53f79f8feb5e", checked := Try.checked }
namespace Rows
def none {H : Type} : Left H := { results := [], args := [] }

/-- 'gloaminglaw07.HeapKeys': WHATEVER THE INPUT: true; the input reads as it did. -/
def heapKeysSpec : ChangeSpec := { name := "heapKeys", fn := fun _ => fun
  | [d] => { results := [.lit (.bool true)], args := [d] }
  | _ => none }
def heapKeysRow : OpenClaim := { program := "ytffgjjlamdaajaa", sum := "06a8a162533c62550cbfd8190047a4b75b05619983d87f92c64c53f79f8feb5e", func := "gloaming/gloaminglaw07.HeapKeys", spec := "heapKeys", inPlace := ["maps.clone"], apart := false }
def HeapKeysSaid : Prop := heapKeysRow.holds Try.pinned (OpenSpec.ofChange heapKeysSpec)

/-- ITS FALSE NEIGHBOUR: 'it returns false'. Refute it at one input. -/
def heapKeysWrong : ChangeSpec := { name := "heapKeys", fn := fun _ => fun
  | [d] => { results := [.lit (.bool false)], args := [d] }
  | _ => none }
def HeapKeysWrongFalsely : Prop := heapKeysRow.holds Try.pinned (OpenSpec.ofChange heapKeysWrong)

/-- 'gloaminglaw07.HeapSooner': WHATEVER THE INPUT: true; the input reads as it did. -/
def heapSoonerSpec : ChangeSpec := { name := "heapSooner", fn := fun _ => fun
  | [d1, d2, d3] => { results := [.lit (.bool true)], args := [d1, d2, d3] }
  | _ => none }
def heapSoonerRow : OpenClaim := { program := "ytffgjjlamdaajaa", sum := "06a8a162533c62550cbfd8190047a4b75b05619983d87f92c64c53f79f8feb5e", func := "gloaming/gloaminglaw07.HeapSooner", spec := "heapSooner", inPlace := ["maps.clone"], apart := false }
def HeapSoonerSaid : Prop := heapSoonerRow.holds Try.pinned (OpenSpec.ofChange heapSoonerSpec)

/-- ITS FALSE NEIGHBOUR: 'it returns false'. Refute it at one input. -/
def heapSoonerWrong : ChangeSpec := { name := "heapSooner", fn := fun _ => fun
  | [d1, d2, d3] => { results := [.lit (.bool false)], args := [d1, d2, d3] }
  | _ => none }
def HeapSoonerWrongFalsely : Prop := heapSoonerRow.holds Try.pinned (OpenSpec.ofChange heapSoonerWrong)

/-- 'gloaminglaw07.HeapAlike': WHATEVER THE INPUT: true; the input reads as it did. -/
def heapAlikeSpec : ChangeSpec := { name := "heapAlike", fn := fun _ => fun
  | [d1, d2] => { results := [.lit (.bool true)], args := [d1, d2] }
  | _ => none }
def heapAlikeRow : OpenClaim := { program := "ytffgjjlamdaajaa", sum := "06a8a162533c62550cbfd8190047a4b75b05619983d87f92c64c53f79f8feb5e", func := "gloaming/gloaminglaw07.HeapAlike", spec := "heapAlike", inPlace := ["maps.clone"], apart := false }
def HeapAlikeSaid : Prop := heapAlikeRow.holds Try.pinned (OpenSpec.ofChange heapAlikeSpec)

/-- ITS FALSE NEIGHBOUR: 'it returns false'. Refute it at one input. -/
def heapAlikeWrong : ChangeSpec := { name := "heapAlike", fn := fun _ => fun
  | [d1, d2] => { results := [.lit (.bool false)], args := [d1, d2] }
  | _ => none }
def HeapAlikeWrongFalsely : Prop := heapAlikeRow.holds Try.pinned (OpenSpec.ofChange heapAlikeWrong)

/-- 'gloaminglaw07.HeapPlays': WHATEVER THE INPUT: true; the input reads as it did. -/
def heapPlaysSpec : ChangeSpec := { name := "heapPlays", fn := fun _ => fun
  | [d] => { results := [.lit (.bool true)], args := [d] }
  | _ => none }
def heapPlaysRow : OpenClaim := { program := "ytffgjjlamdaajaa", sum := "06a8a162533c62550cbfd8190047a4b75b05619983d87f92c64c53f79f8feb5e", func := "gloaming/gloaminglaw07.HeapPlays", spec := "heapPlays", inPlace := ["maps.clone"], apart := false }
def HeapPlaysSaid : Prop := heapPlaysRow.holds Try.pinned (OpenSpec.ofChange heapPlaysSpec)

/-- ITS FALSE NEIGHBOUR: 'it returns false'. Refute it at one input. -/
def heapPlaysWrong : ChangeSpec := { name := "heapPlays", fn := fun _ => fun
  | [d] => { results := [.lit (.bool false)], args := [d] }
  | _ => none }
def HeapPlaysWrongFalsely : Prop := heapPlaysRow.holds Try.pinned (OpenSpec.ofChange heapPlaysWrong)

/-- 'gloaminglaw07.HeapSorts': WHATEVER THE INPUT: true; the input reads as it did. -/
def heapSortsSpec : ChangeSpec := { name := "heapSorts", fn := fun _ => fun
  | [d1, d2] => { results := [.lit (.bool true)], args := [d1, d2] }
  | _ => none }
def heapSortsRow : OpenClaim := { program := "ytffgjjlamdaajaa", sum := "06a8a162533c62550cbfd8190047a4b75b05619983d87f92c64c53f79f8feb5e", func := "gloaming/gloaminglaw07.HeapSorts", spec := "heapSorts", inPlace := ["maps.clone"], apart := false }
def HeapSortsSaid : Prop := heapSortsRow.holds Try.pinned (OpenSpec.ofChange heapSortsSpec)

/-- ITS FALSE NEIGHBOUR: 'it returns false'. Refute it at one input. -/
def heapSortsWrong : ChangeSpec := { name := "heapSorts", fn := fun _ => fun
  | [d1, d2] => { results := [.lit (.bool false)], args := [d1, d2] }
  | _ => none }
def HeapSortsWrongFalsely : Prop := heapSortsRow.holds Try.pinned (OpenSpec.ofChange heapSortsWrong)

/-- 'gloaminglaw07.HeapClones': WHATEVER THE INPUT: true; the input reads as it did. -/
def heapClonesSpec : ChangeSpec := { name := "heapClones", fn := fun _ => fun
  | [d1, d2] => { results := [.lit (.bool true)], args := [d1, d2] }
  | _ => none }
def heapClonesRow : OpenClaim := { program := "ytffgjjlamdaajaa", sum := "06a8a162533c62550cbfd8190047a4b75b05619983d87f92c64c53f79f8feb5e", func := "gloaming/gloaminglaw07.HeapClones", spec := "heapClones", inPlace := ["maps.clone"], apart := false }
def HeapClonesSaid : Prop := heapClonesRow.holds Try.pinned (OpenSpec.ofChange heapClonesSpec)

/-- ITS FALSE NEIGHBOUR: 'it returns false'. Refute it at one input. -/
def heapClonesWrong : ChangeSpec := { name := "heapClones", fn := fun _ => fun
  | [d1, d2] => { results := [.lit (.bool false)], args := [d1, d2] }
  | _ => none }
def HeapClonesWrongFalsely : Prop := heapClonesRow.holds Try.pinned (OpenSpec.ofChange heapClonesWrong)

/- THE SECOND FORM. 'bulk': how many values and letters a reading holds, each counted each time it is reached (what is shared counts as often as it is met; a slice's spare places count too). A statement '..UptoSaid' is the law's where the arguments, and the package variables that the reading takes, are together of bulk at most 1048576: NARROWER than '..Said'. Prove '..Said' where nothing that the law and all that it calls make is longer than what came in: it says more and counts as full. Else prove '..UptoSaid'. A law counts once. -/
mutual
def uptoBulk {H : Type} : DataW H → Nat
  | .lit (.string bytes) => bytes.length + 1
  | .lit _ => 1
  | .nil => 1
  | .ptr d => uptoBulk d + 1
  | .slice elems spare => uptoBulkAll elems + uptoBulkAll spare + 1
  | .agg parts => uptoBulkAll parts + 1
  | .iface _ d => uptoBulk d + 1
  | .map entries => uptoBulkEntries entries + 1
  | .held _ => 1
def uptoBulkAll {H : Type} : List (DataW H) → Nat
  | [] => 0
  | d :: r => uptoBulk d + uptoBulkAll r
def uptoBulkEntries {H : Type} : List (Lit × DataW H) → Nat
  | [] => 0
  | x :: r => uptoBulkEntry x + uptoBulkEntries r
def uptoBulkEntry {H : Type} : Lit × DataW H → Nat
  | (.string bytes, d) => bytes.length + uptoBulk d + 1
  | (_, d) => uptoBulk d + 1
 end
def uptoSmall : (H : Type) → List (DataW H) → Bool := fun _ ds => decide (uptoBulkAll ds ≤ 1048576)
def OpenSpec.upto (s : _root_.Go.ChangeSpec) : _root_.Go.OpenSpec := { _root_.Go.OpenSpec.ofChange s with cond := some uptoSmall }

/-- 'gloaminglaw07.HeapKeys', WHERE WHAT IT READS IS OF BULK AT MOST 1048576: true; the input reads as it did. -/
def heapKeysUptoRow : OpenClaim := { program := "ytffgjjlamdaajaa", sum := "06a8a162533c62550cbfd8190047a4b75b05619983d87f92c64c53f79f8feb5e", func := "gloaming/gloaminglaw07.HeapKeys", spec := "heapKeys", inPlace := ["maps.clone"], apart := false, narrowed := true }
def HeapKeysUptoSaid : Prop := heapKeysUptoRow.holds Try.pinned (OpenSpec.upto heapKeysSpec)

/-- 'gloaminglaw07.HeapSooner', WHERE WHAT IT READS IS OF BULK AT MOST 1048576: true; the input reads as it did. -/
def heapSoonerUptoRow : OpenClaim := { program := "ytffgjjlamdaajaa", sum := "06a8a162533c62550cbfd8190047a4b75b05619983d87f92c64c53f79f8feb5e", func := "gloaming/gloaminglaw07.HeapSooner", spec := "heapSooner", inPlace := ["maps.clone"], apart := false, narrowed := true }
def HeapSoonerUptoSaid : Prop := heapSoonerUptoRow.holds Try.pinned (OpenSpec.upto heapSoonerSpec)

/-- 'gloaminglaw07.HeapAlike', WHERE WHAT IT READS IS OF BULK AT MOST 1048576: true; the input reads as it did. -/
def heapAlikeUptoRow : OpenClaim := { program := "ytffgjjlamdaajaa", sum := "06a8a162533c62550cbfd8190047a4b75b05619983d87f92c64c53f79f8feb5e", func := "gloaming/gloaminglaw07.HeapAlike", spec := "heapAlike", inPlace := ["maps.clone"], apart := false, narrowed := true }
def HeapAlikeUptoSaid : Prop := heapAlikeUptoRow.holds Try.pinned (OpenSpec.upto heapAlikeSpec)

/-- 'gloaminglaw07.HeapPlays', WHERE WHAT IT READS IS OF BULK AT MOST 1048576: true; the input reads as it did. -/
def heapPlaysUptoRow : OpenClaim := { program := "ytffgjjlamdaajaa", sum := "06a8a162533c62550cbfd8190047a4b75b05619983d87f92c64c53f79f8feb5e", func := "gloaming/gloaminglaw07.HeapPlays", spec := "heapPlays", inPlace := ["maps.clone"], apart := false, narrowed := true }
def HeapPlaysUptoSaid : Prop := heapPlaysUptoRow.holds Try.pinned (OpenSpec.upto heapPlaysSpec)

/-- 'gloaminglaw07.HeapSorts', WHERE WHAT IT READS IS OF BULK AT MOST 1048576: true; the input reads as it did. -/
def heapSortsUptoRow : OpenClaim := { program := "ytffgjjlamdaajaa", sum := "06a8a162533c62550cbfd8190047a4b75b05619983d87f92c64c53f79f8feb5e", func := "gloaming/gloaminglaw07.HeapSorts", spec := "heapSorts", inPlace := ["maps.clone"], apart := false, narrowed := true }
def HeapSortsUptoSaid : Prop := heapSortsUptoRow.holds Try.pinned (OpenSpec.upto heapSortsSpec)

/-- 'gloaminglaw07.HeapClones', WHERE WHAT IT READS IS OF BULK AT MOST 1048576: true; the input reads as it did. -/
def heapClonesUptoRow : OpenClaim := { program := "ytffgjjlamdaajaa", sum := "06a8a162533c62550cbfd8190047a4b75b05619983d87f92c64c53f79f8feb5e", func := "gloaming/gloaminglaw07.HeapClones", spec := "heapClones", inPlace := ["maps.clone"], apart := false, narrowed := true }
def HeapClonesUptoSaid : Prop := heapClonesUptoRow.holds Try.pinned (OpenSpec.upto heapClonesSpec)

end Rows
end Go.Proofs.Ytffgjjlamdaajaa
