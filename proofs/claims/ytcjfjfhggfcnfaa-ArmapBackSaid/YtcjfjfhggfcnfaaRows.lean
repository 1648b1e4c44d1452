/-
  No cell of these rows narrows 'for every input' (looked for: loops, veiled, ifaces, maps, wideKeys, modest, calm, conditions, laid).
  DERIVED. THE GIVEN ROWS OF THIS SEAT. 2 by the template 'for every input the law returns true; each argument reads behind the call as it read before'; 0 by the template 'total and deterministic' (their statements: YtcjfjfhggfcnfaaTotals.lean).
  GIVEN WITH THE SEED: the statements are not yours to turn. If you find one false, say at which input.
  Laid BY PROGRAM, IN A SANDBOX (cutbox-rows.mjs): the forced cells as the released guide's own fill.sh prints them over the translation 0a0aade10a2ece22… (all of the seat's roots in one cut). By AI agents, Wed Nov 11 2026. No macro, syntax, notation, axiom, sorry.
-/
import Derived.Test.YtcjfjfhggfcnfaaChecked
import GoSem.Claim
import GoSem.ClaimJoined
import GoSem.ClaimMapViews
import Derived.JoinedTies
import Derived.KernelRfl
namespace Go.Proofs.Ytcjfjfhggfcnfaa
/- THE CELL 'sum', in the pinned program and in every row, IS THE sha256 OF THE DUMP (.gsa) THAT YtcjfjfhggfcnfaaProg.lean LOADS. Nothing in Lean hashes anything: it is a label: what it is worth is what the hold of that sum in a sandbox is worth. -/
noncomputable def Try.pinned : Pinned := { name := "ytcjfjfhggfcnfaa", sum := "0a0aade10a2ece22f191f07b1d8f21aa40e6ffe6ecfc9d11440152ab4859f1cf", checked := Try.checked }
namespace Rows
def none {H : Type} : Left H := { results := [], args := [] }

/-- 'dovetaillaw18.ArmapDefines': WHATEVER THE INPUT: true; the input reads as it did. -/
def armapDefinesSpec : ChangeSpec := { name := "armapDefines", fn := fun _ => fun
  | [d] => { results := [.lit (.bool true)], args := [d] }
  | _ => none }
def armapDefinesRow : OpenClaim := { program := "ytcjfjfhggfcnfaa", sum := "0a0aade10a2ece22f191f07b1d8f21aa40e6ffe6ecfc9d11440152ab4859f1cf", func := "dovetail/dovetaillaw18.ArmapDefines", spec := "armapDefines", inPlace := ["internal/bytealg.IndexByte", "internal/bytealg.Compare"], unfollowed := true, recurses := true, apart := false }
def ArmapDefinesSaid : Prop := armapDefinesRow.holds Try.pinned (OpenSpec.ofChange armapDefinesSpec)

/-- ITS FALSE NEIGHBOUR: 'it returns false'. Refute it at one input. -/
def armapDefinesWrong : ChangeSpec := { name := "armapDefines", fn := fun _ => fun
  | [d] => { results := [.lit (.bool false)], args := [d] }
  | _ => none }
def ArmapDefinesWrongFalsely : Prop := armapDefinesRow.holds Try.pinned (OpenSpec.ofChange armapDefinesWrong)

/-- 'dovetaillaw18.ArmapBack': WHATEVER THE INPUT: true; the input reads as it did. -/
def armapBackSpec : ChangeSpec := { name := "armapBack", fn := fun _ => fun
  | [d1, d2] => { results := [.lit (.bool true)], args := [d1, d2] }
  | _ => none }
def armapBackRow : OpenClaim := { program := "ytcjfjfhggfcnfaa", sum := "0a0aade10a2ece22f191f07b1d8f21aa40e6ffe6ecfc9d11440152ab4859f1cf", func := "dovetail/dovetaillaw18.ArmapBack", spec := "armapBack", inPlace := ["internal/bytealg.IndexByte", "internal/bytealg.Compare"], unfollowed := true, recurses := true, apart := false }
def ArmapBackSaid : Prop := armapBackRow.holds Try.pinned (OpenSpec.ofChange armapBackSpec)

/-- ITS FALSE NEIGHBOUR: 'it returns false'. Refute it at one input. -/
def armapBackWrong : ChangeSpec := { name := "armapBack", fn := fun _ => fun
  | [d1, d2] => { results := [.lit (.bool false)], args := [d1, d2] }
  | _ => none }
def ArmapBackWrongFalsely : Prop := armapBackRow.holds Try.pinned (OpenSpec.ofChange armapBackWrong)

/- THE SECOND FORM. 'bulk': how many values and letters a reading holds, each counted each time it is reached (what is shared counts as often as it is met; a slice's spare places count too). A statement '..UptoSaid' is the law's where the arguments, and the package variables that the reading takes, are together of bulk at most 1048576: NARROWER than '..Said'. Prove '..Said' where nothing that the law and all that it calls make is longer than what came in: it says more and counts as full. Else prove '..UptoSaid'. A law counts once. -/
mutual
def uptoBulk {H : Type} : DataW H → Nat
  | .lit (.string bytes) => bytes.length + 1
  | .lit _ => 1
  | .nil => 1
  | .ptr d => uptoBulk d + 1
  | .slice elems spare => uptoBulkAll elems + uptoBulkAll spare + 1
  | .agg parts => uptoBulkAll parts + 1
  | .iface _ d => uptoBulk d + 1
  | .map entries => uptoBulkEntries entries + 1
  | .held _ => 1
def uptoBulkAll {H : Type} : List (DataW H) → Nat
  | [] => 0
  | d :: r => uptoBulk d + uptoBulkAll r
def uptoBulkEntries {H : Type} : List (Lit × DataW H) → Nat
  | [] => 0
  | x :: r => uptoBulkEntry x + uptoBulkEntries r
def uptoBulkEntry {H : Type} : Lit × DataW H → Nat
  | (.string bytes, d) => bytes.length + uptoBulk d + 1
  | (_, d) => uptoBulk d + 1
 end
def uptoSmall : (H : Type) → List (DataW H) → Bool := fun _ ds => decide (uptoBulkAll ds ≤ 1048576)
def OpenSpec.upto (s : _root_.Go.ChangeSpec) : _root_.Go.OpenSpec := { _root_.Go.OpenSpec.ofChange s with cond := some uptoSmall }

/-- 'dovetaillaw18.ArmapDefines', WHERE WHAT IT READS IS OF BULK AT MOST 1048576: true; the input reads as it did. -/
def armapDefinesUptoRow : OpenClaim := { program := "ytcjfjfhggfcnfaa", sum := "0a0aade10a2ece22f191f07b1d8f21aa40e6ffe6ecfc9d11440152ab4859f1cf", func := "dovetail/dovetaillaw18.ArmapDefines", spec := "armapDefines", inPlace := ["internal/bytealg.IndexByte", "internal/bytealg.Compare"], unfollowed := true, recurses := true, apart := false, narrowed := true }
def ArmapDefinesUptoSaid : Prop := armapDefinesUptoRow.holds Try.pinned (OpenSpec.upto armapDefinesSpec)

/-- 'dovetaillaw18.ArmapBack', WHERE WHAT IT READS IS OF BULK AT MOST 1048576: true; the input reads as it did. -/
def armapBackUptoRow : OpenClaim := { program := "ytcjfjfhggfcnfaa", sum := "0a0aade10a2ece22f191f07b1d8f21aa40e6ffe6ecfc9d11440152ab4859f1cf", func := "dovetail/dovetaillaw18.ArmapBack", spec := "armapBack", inPlace := ["internal/bytealg.IndexByte", "internal/bytealg.Compare"], unfollowed := true, recurses := true, apart := false, narrowed := true }
def ArmapBackUptoSaid : Prop := armapBackUptoRow.holds Try.pinned (OpenSpec.upto armapBackSpec)

end Rows
end Go.Proofs.Ytcjfjfhggfcnfaa
