/-
  No cell of these rows narrows 'for every input' (looked for: loops, veiled, ifaces, maps, wideKeys, modest, calm, conditions, laid).
  DERIVED. THE GIVEN ROWS OF THIS SEAT. 6 by the template 'for every input the law returns true; each argument reads behind the call as it read before'; 0 by the template 'total and deterministic' (their statements: YtedijnokbemegaaTotals.lean).
  GIVEN WITH THE SEED: the statements are not yours to turn. If you find one false, say at which input.
  Laid BY PROGRAM, IN A SANDBOX (cutbox-rows.mjs): the forced cells as the released guide's own fill.sh prints them over the translation 340fec851f9104f2… (all of the seat's roots in one cut). By AI agents, Wed Nov 11 2026. No macro, syntax, notation, axiom, sorry.
-/
import Derived.Test.YtedijnokbemegaaChecked
import GoSem.Claim
import GoSem.ClaimJoined
import GoSem.ClaimMapViews
import Derived.JoinedTies
import Derived.KernelRfl
namespace Go.Proofs.Ytedijnokbemegaa
/- THE CELL 'sum', in the pinned program and in every row, IS THE sha256 OF THE DUMP (.gsa) THAT YtedijnokbemegaaProg.lean LOADS. Nothing in Lean hashes anything: it is a label: what it is worth is what the hold of that sum in a sandbox is worth. -/
noncomputable def Try.pinned : Pinned := { name := "ytedijnokbemegaa", sum := "340fec851f9104f22a3d7d3deacd55bbf2a02edc99433a8a4b9193c19db46644", checked := Try.checked }
namespace Rows
def none {H : Type} : Left H := { results := [], args := [] }

/-- 'gloaminglaw03.SatLeast': WHATEVER THE INPUT: true; the input reads as it did. -/
def satLeastSpec : ChangeSpec := { name := "satLeast", fn := fun _ => fun
  | [d] => { results := [.lit (.bool true)], args := [d] }
  | _ => none }
def satLeastRow : OpenClaim := { program := "ytedijnokbemegaa", sum := "340fec851f9104f22a3d7d3deacd55bbf2a02edc99433a8a4b9193c19db46644", func := "gloaming/gloaminglaw03.SatLeast", spec := "satLeast", unfollowed := true, recurses := true, apart := false }
def SatLeastSaid : Prop := satLeastRow.holds Try.pinned (OpenSpec.ofChange satLeastSpec)

/-- ITS FALSE NEIGHBOUR: 'it returns false'. Refute it at one input. -/
def satLeastWrong : ChangeSpec := { name := "satLeast", fn := fun _ => fun
  | [d] => { results := [.lit (.bool false)], args := [d] }
  | _ => none }
def SatLeastWrongFalsely : Prop := satLeastRow.holds Try.pinned (OpenSpec.ofChange satLeastWrong)

/-- 'gloaminglaw03.SatRows': WHATEVER THE INPUT: true; the input reads as it did. -/
def satRowsSpec : ChangeSpec := { name := "satRows", fn := fun _ => fun
  | [d1, d2, d3] => { results := [.lit (.bool true)], args := [d1, d2, d3] }
  | _ => none }
def satRowsRow : OpenClaim := { program := "ytedijnokbemegaa", sum := "340fec851f9104f22a3d7d3deacd55bbf2a02edc99433a8a4b9193c19db46644", func := "gloaming/gloaminglaw03.SatRows", spec := "satRows", unfollowed := true, recurses := true, apart := false }
def SatRowsSaid : Prop := satRowsRow.holds Try.pinned (OpenSpec.ofChange satRowsSpec)

/-- ITS FALSE NEIGHBOUR: 'it returns false'. Refute it at one input. -/
def satRowsWrong : ChangeSpec := { name := "satRows", fn := fun _ => fun
  | [d1, d2, d3] => { results := [.lit (.bool false)], args := [d1, d2, d3] }
  | _ => none }
def SatRowsWrongFalsely : Prop := satRowsRow.holds Try.pinned (OpenSpec.ofChange satRowsWrong)

/-- 'gloaminglaw03.SatVias': WHATEVER THE INPUT: true; the input reads as it did. -/
def satViasSpec : ChangeSpec := { name := "satVias", fn := fun _ => fun
  | [d1, d2, d3] => { results := [.lit (.bool true)], args := [d1, d2, d3] }
  | _ => none }
def satViasRow : OpenClaim := { program := "ytedijnokbemegaa", sum := "340fec851f9104f22a3d7d3deacd55bbf2a02edc99433a8a4b9193c19db46644", func := "gloaming/gloaminglaw03.SatVias", spec := "satVias", unfollowed := true, recurses := true, apart := false }
def SatViasSaid : Prop := satViasRow.holds Try.pinned (OpenSpec.ofChange satViasSpec)

/-- ITS FALSE NEIGHBOUR: 'it returns false'. Refute it at one input. -/
def satViasWrong : ChangeSpec := { name := "satVias", fn := fun _ => fun
  | [d1, d2, d3] => { results := [.lit (.bool false)], args := [d1, d2, d3] }
  | _ => none }
def SatViasWrongFalsely : Prop := satViasRow.holds Try.pinned (OpenSpec.ofChange satViasWrong)

/-- 'gloaminglaw03.SatMins': WHATEVER THE INPUT: true; the input reads as it did. -/
def satMinsSpec : ChangeSpec := { name := "satMins", fn := fun _ => fun
  | [d] => { results := [.lit (.bool true)], args := [d] }
  | _ => none }
def satMinsRow : OpenClaim := { program := "ytedijnokbemegaa", sum := "340fec851f9104f22a3d7d3deacd55bbf2a02edc99433a8a4b9193c19db46644", func := "gloaming/gloaminglaw03.SatMins", spec := "satMins", unfollowed := true, recurses := true, apart := false }
def SatMinsSaid : Prop := satMinsRow.holds Try.pinned (OpenSpec.ofChange satMinsSpec)

/-- ITS FALSE NEIGHBOUR: 'it returns false'. Refute it at one input. -/
def satMinsWrong : ChangeSpec := { name := "satMins", fn := fun _ => fun
  | [d] => { results := [.lit (.bool false)], args := [d] }
  | _ => none }
def SatMinsWrongFalsely : Prop := satMinsRow.holds Try.pinned (OpenSpec.ofChange satMinsWrong)

/-- 'gloaminglaw03.SatAdds': WHATEVER THE INPUT: true; the input reads as it did. -/
def satAddsSpec : ChangeSpec := { name := "satAdds", fn := fun _ => fun
  | [d1, d2, d3] => { results := [.lit (.bool true)], args := [d1, d2, d3] }
  | _ => none }
def satAddsRow : OpenClaim := { program := "ytedijnokbemegaa", sum := "340fec851f9104f22a3d7d3deacd55bbf2a02edc99433a8a4b9193c19db46644", func := "gloaming/gloaminglaw03.SatAdds", spec := "satAdds", unfollowed := true, recurses := true, apart := false }
def SatAddsSaid : Prop := satAddsRow.holds Try.pinned (OpenSpec.ofChange satAddsSpec)

/-- ITS FALSE NEIGHBOUR: 'it returns false'. Refute it at one input. -/
def satAddsWrong : ChangeSpec := { name := "satAdds", fn := fun _ => fun
  | [d1, d2, d3] => { results := [.lit (.bool false)], args := [d1, d2, d3] }
  | _ => none }
def SatAddsWrongFalsely : Prop := satAddsRow.holds Try.pinned (OpenSpec.ofChange satAddsWrong)

/-- 'gloaminglaw03.SatOrders': WHATEVER THE INPUT: true; the input reads as it did. -/
def satOrdersSpec : ChangeSpec := { name := "satOrders", fn := fun _ => fun
  | [d1, d2] => { results := [.lit (.bool true)], args := [d1, d2] }
  | _ => none }
def satOrdersRow : OpenClaim := { program := "ytedijnokbemegaa", sum := "340fec851f9104f22a3d7d3deacd55bbf2a02edc99433a8a4b9193c19db46644", func := "gloaming/gloaminglaw03.SatOrders", spec := "satOrders", unfollowed := true, recurses := true, apart := false }
def SatOrdersSaid : Prop := satOrdersRow.holds Try.pinned (OpenSpec.ofChange satOrdersSpec)

/-- ITS FALSE NEIGHBOUR: 'it returns false'. Refute it at one input. -/
def satOrdersWrong : ChangeSpec := { name := "satOrders", fn := fun _ => fun
  | [d1, d2] => { results := [.lit (.bool false)], args := [d1, d2] }
  | _ => none }
def SatOrdersWrongFalsely : Prop := satOrdersRow.holds Try.pinned (OpenSpec.ofChange satOrdersWrong)

/- THE SECOND FORM. 'bulk': how many values and letters a reading holds, each counted each time it is reached (what is shared counts as often as it is met; a slice's spare places count too). A statement '..UptoSaid' is the law's where the arguments, and the package variables that the reading takes, are together of bulk at most 1048576: NARROWER than '..Said'. Prove '..Said' where nothing that the law and all that it calls make is longer than what came in: it says more and counts as full. Else prove '..UptoSaid'. A law counts once. -/
mutual
def uptoBulk {H : Type} : DataW H → Nat
  | .lit (.string bytes) => bytes.length + 1
  | .lit _ => 1
  | .nil => 1
  | .ptr d => uptoBulk d + 1
  | .slice elems spare => uptoBulkAll elems + uptoBulkAll spare + 1
  | .agg parts => uptoBulkAll parts + 1
  | .iface _ d => uptoBulk d + 1
  | .map entries => uptoBulkEntries entries + 1
  | .held _ => 1
def uptoBulkAll {H : Type} : List (DataW H) → Nat
  | [] => 0
  | d :: r => uptoBulk d + uptoBulkAll r
def uptoBulkEntries {H : Type} : List (Lit × DataW H) → Nat
  | [] => 0
  | x :: r => uptoBulkEntry x + uptoBulkEntries r
def uptoBulkEntry {H : Type} : Lit × DataW H → Nat
  | (.string bytes, d) => bytes.length + uptoBulk d + 1
  | (_, d) => uptoBulk d + 1
 end
def uptoSmall : (H : Type) → List (DataW H) → Bool := fun _ ds => decide (uptoBulkAll ds ≤ 1048576)
def OpenSpec.upto (s : _root_.Go.ChangeSpec) : _root_.Go.OpenSpec := { _root_.Go.OpenSpec.ofChange s with cond := some uptoSmall }

/-- 'gloaminglaw03.SatLeast', WHERE WHAT IT READS IS OF BULK AT MOST 1048576: true; the input reads as it did. -/
def satLeastUptoRow : OpenClaim := { program := "ytedijnokbemegaa", sum := "340fec851f9104f22a3d7d3deacd55bbf2a02edc99433a8a4b9193c19db46644", func := "gloaming/gloaminglaw03.SatLeast", spec := "satLeast", unfollowed := true, recurses := true, apart := false, narrowed := true }
def SatLeastUptoSaid : Prop := satLeastUptoRow.holds Try.pinned (OpenSpec.upto satLeastSpec)

/-- 'gloaminglaw03.SatRows', WHERE WHAT IT READS IS OF BULK AT MOST 1048576: true; the input reads as it did. -/
def satRowsUptoRow : OpenClaim := { program := "ytedijnokbemegaa", sum := "340fec851f9104f22a3d7d3deacd55bbf2a02edc99433a8a4b9193c19db46644", func := "gloaming/gloaminglaw03.SatRows", spec := "satRows", unfollowed := true, recurses := true, apart := false, narrowed := true }
def SatRowsUptoSaid : Prop := satRowsUptoRow.holds Try.pinned (OpenSpec.upto satRowsSpec)

/-- 'gloaminglaw03.SatVias', WHERE WHAT IT READS IS OF BULK AT MOST 1048576: true; the input reads as it did. -/
def satViasUptoRow : OpenClaim := { program := "ytedijnokbemegaa", sum := "340fec851f9104f22a3d7d3deacd55bbf2a02edc99433a8a4b9193c19db46644", func := "gloaming/gloaminglaw03.SatVias", spec := "satVias", unfollowed := true, recurses := true, apart := false, narrowed := true }
def SatViasUptoSaid : Prop := satViasUptoRow.holds Try.pinned (OpenSpec.upto satViasSpec)

/-- 'gloaminglaw03.SatMins', WHERE WHAT IT READS IS OF BULK AT MOST 1048576: true; the input reads as it did. -/
def satMinsUptoRow : OpenClaim := { program := "ytedijnokbemegaa", sum := "340fec851f9104f22a3d7d3deacd55bbf2a02edc99433a8a4b9193c19db46644", func := "gloaming/gloaminglaw03.SatMins", spec := "satMins", unfollowed := true, recurses := true, apart := false, narrowed := true }
def SatMinsUptoSaid : Prop := satMinsUptoRow.holds Try.pinned (OpenSpec.upto satMinsSpec)

/-- 'gloaminglaw03.SatAdds', WHERE WHAT IT READS IS OF BULK AT MOST 1048576: true; the input reads as it did. -/
def satAddsUptoRow : OpenClaim := { program := "ytedijnokbemegaa", sum := "340fec851f9104f22a3d7d3deacd55bbf2a02edc99433a8a4b9193c19db46644", func := "gloaming/gloaminglaw03.SatAdds", spec := "satAdds", unfollowed := true, recurses := true, apart := false, narrowed := true }
def SatAddsUptoSaid : Prop := satAddsUptoRow.holds Try.pinned (OpenSpec.upto satAddsSpec)

/-- 'gloaminglaw03.SatOrders', WHERE WHAT IT READS IS OF BULK AT MOST 1048576: true; the input reads as it did. -/
def satOrdersUptoRow : OpenClaim := { program := "ytedijnokbemegaa", sum := "340fec851f9104f22a3d7d3deacd55bbf2a02edc99433a8a4b9193c19db46644", func := "gloaming/gloaminglaw03.SatOrders", spec := "satOrders", unfollowed := true, recurses := true, apart := false, narrowed := true }
def SatOrdersUptoSaid : Prop := satOrdersUptoRow.holds Try.pinned (OpenSpec.upto satOrdersSpec)

end Rows
end Go.Proofs.Ytedijnokbemegaa
