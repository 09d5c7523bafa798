/-
  No cell of these rows narrows 'for every input' (looked for: loops, veiled, ifaces, maps, wideKeys, modest, calm, conditions, laid).
  DERIVED. THE GIVEN ROWS OF THIS SEAT. 6 by the template 'for every input the law returns true; each argument reads behind the call as it read before'; 0 by the template 'total and deterministic' (their statements: YteigpmfhhmlgoaaTotals.lean).
  GIVEN WITH THE SEED: the statements are not yours to turn. If you find one false, say at which input.
  Laid BY PROGRAM, IN A SANDBOX (cutbox-rows.mjs): the forced cells as the released guide's own fill.sh prints them over the translation a982ffcf790f610c… (all of the seat's roots in one cut). By AI agents, Wed Nov 11 2026. No macro, syntax, notation, axiom, sorry.
-/
import Derived.Test.YteigpmfhhmlgoaaChecked
import GoSem.Claim
import GoSem.ClaimJoined
import GoSem.ClaimMapViews
import Derived.JoinedTies
import Derived.KernelRfl
namespace Go.Proofs.Yteigpmfhhmlgoaa
/- THE CELL 'sum', in the pinned program and in every row, IS THE sha256 OF THE DUMP (.gsa) THAT YteigpmfhhmlgoaaProg.lean LOADS. Nothing in Lean hashes anything: it is a label: what it is worth is what the hold of that sum in a sandbox is worth. -/
noncomputable def Try.pinned : Pinned := { name := "yteigpmfhhmlgoaa", sum := "a982ffcf790f610c4d0d4b1e81a7b1a2ee1d778b74f1d7f9a49aeec4dd79ba14", checked := Try.checked }
namespace Rows
def none {H : Type} : Left H := { results := [], args := [] }

/-- 'reedbedlaw01.CodeOrder': WHATEVER THE INPUT: true; the input reads as it did. -/
def codeOrderSpec : ChangeSpec := { name := "codeOrder", fn := fun _ => fun
  | [d1, d2] => { results := [.lit (.bool true)], args := [d1, d2] }
  | _ => none }
def codeOrderRow : OpenClaim := { program := "yteigpmfhhmlgoaa", sum := "a982ffcf790f610c4d0d4b1e81a7b1a2ee1d778b74f1d7f9a49aeec4dd79ba14", func := "reedbed/reedbedlaw01.CodeOrder", spec := "codeOrder", apart := false }
def CodeOrderSaid : Prop := codeOrderRow.holds Try.pinned (OpenSpec.ofChange codeOrderSpec)

/-- ITS FALSE NEIGHBOUR: 'it returns false'. Refute it at one input. -/
def codeOrderWrong : ChangeSpec := { name := "codeOrder", fn := fun _ => fun
  | [d1, d2] => { results := [.lit (.bool false)], args := [d1, d2] }
  | _ => none }
def CodeOrderWrongFalsely : Prop := codeOrderRow.holds Try.pinned (OpenSpec.ofChange codeOrderWrong)

/-- 'reedbedlaw01.CodeUnits': WHATEVER THE INPUT: true; the input reads as it did. -/
def codeUnitsSpec : ChangeSpec := { name := "codeUnits", fn := fun _ => fun
  | [d1, d2] => { results := [.lit (.bool true)], args := [d1, d2] }
  | _ => none }
def codeUnitsRow : OpenClaim := { program := "yteigpmfhhmlgoaa", sum := "a982ffcf790f610c4d0d4b1e81a7b1a2ee1d778b74f1d7f9a49aeec4dd79ba14", func := "reedbed/reedbedlaw01.CodeUnits", spec := "codeUnits", apart := false }
def CodeUnitsSaid : Prop := codeUnitsRow.holds Try.pinned (OpenSpec.ofChange codeUnitsSpec)

/-- ITS FALSE NEIGHBOUR: 'it returns false'. Refute it at one input. -/
def codeUnitsWrong : ChangeSpec := { name := "codeUnits", fn := fun _ => fun
  | [d1, d2] => { results := [.lit (.bool false)], args := [d1, d2] }
  | _ => none }
def CodeUnitsWrongFalsely : Prop := codeUnitsRow.holds Try.pinned (OpenSpec.ofChange codeUnitsWrong)

/-- 'reedbedlaw01.CodePuts': WHATEVER THE INPUT: true; the input reads as it did. -/
def codePutsSpec : ChangeSpec := { name := "codePuts", fn := fun _ => fun
  | [d1, d2] => { results := [.lit (.bool true)], args := [d1, d2] }
  | _ => none }
def codePutsRow : OpenClaim := { program := "yteigpmfhhmlgoaa", sum := "a982ffcf790f610c4d0d4b1e81a7b1a2ee1d778b74f1d7f9a49aeec4dd79ba14", func := "reedbed/reedbedlaw01.CodePuts", spec := "codePuts", apart := false }
def CodePutsSaid : Prop := codePutsRow.holds Try.pinned (OpenSpec.ofChange codePutsSpec)

/-- ITS FALSE NEIGHBOUR: 'it returns false'. Refute it at one input. -/
def codePutsWrong : ChangeSpec := { name := "codePuts", fn := fun _ => fun
  | [d1, d2] => { results := [.lit (.bool false)], args := [d1, d2] }
  | _ => none }
def CodePutsWrongFalsely : Prop := codePutsRow.holds Try.pinned (OpenSpec.ofChange codePutsWrong)

/-- 'reedbedlaw01.CodeThrough': WHATEVER THE INPUT: true; the input reads as it did. -/
def codeThroughSpec : ChangeSpec := { name := "codeThrough", fn := fun _ => fun
  | [d] => { results := [.lit (.bool true)], args := [d] }
  | _ => none }
def codeThroughRow : OpenClaim := { program := "yteigpmfhhmlgoaa", sum := "a982ffcf790f610c4d0d4b1e81a7b1a2ee1d778b74f1d7f9a49aeec4dd79ba14", func := "reedbed/reedbedlaw01.CodeThrough", spec := "codeThrough", apart := false }
def CodeThroughSaid : Prop := codeThroughRow.holds Try.pinned (OpenSpec.ofChange codeThroughSpec)

/-- ITS FALSE NEIGHBOUR: 'it returns false'. Refute it at one input. -/
def codeThroughWrong : ChangeSpec := { name := "codeThrough", fn := fun _ => fun
  | [d] => { results := [.lit (.bool false)], args := [d] }
  | _ => none }
def CodeThroughWrongFalsely : Prop := codeThroughRow.holds Try.pinned (OpenSpec.ofChange codeThroughWrong)

/-- 'reedbedlaw01.CodeGets': WHATEVER THE INPUT: true; the input reads as it did. -/
def codeGetsSpec : ChangeSpec := { name := "codeGets", fn := fun _ => fun
  | [d] => { results := [.lit (.bool true)], args := [d] }
  | _ => none }
def codeGetsRow : OpenClaim := { program := "yteigpmfhhmlgoaa", sum := "a982ffcf790f610c4d0d4b1e81a7b1a2ee1d778b74f1d7f9a49aeec4dd79ba14", func := "reedbed/reedbedlaw01.CodeGets", spec := "codeGets", apart := false }
def CodeGetsSaid : Prop := codeGetsRow.holds Try.pinned (OpenSpec.ofChange codeGetsSpec)

/-- ITS FALSE NEIGHBOUR: 'it returns false'. Refute it at one input. -/
def codeGetsWrong : ChangeSpec := { name := "codeGets", fn := fun _ => fun
  | [d] => { results := [.lit (.bool false)], args := [d] }
  | _ => none }
def CodeGetsWrongFalsely : Prop := codeGetsRow.holds Try.pinned (OpenSpec.ofChange codeGetsWrong)

/-- 'reedbedlaw01.CodeOpens': WHATEVER THE INPUT: true; the input reads as it did. -/
def codeOpensSpec : ChangeSpec := { name := "codeOpens", fn := fun _ => fun
  | [d1, d2, d3] => { results := [.lit (.bool true)], args := [d1, d2, d3] }
  | _ => none }
def codeOpensRow : OpenClaim := { program := "yteigpmfhhmlgoaa", sum := "a982ffcf790f610c4d0d4b1e81a7b1a2ee1d778b74f1d7f9a49aeec4dd79ba14", func := "reedbed/reedbedlaw01.CodeOpens", spec := "codeOpens", apart := false }
def CodeOpensSaid : Prop := codeOpensRow.holds Try.pinned (OpenSpec.ofChange codeOpensSpec)

/-- ITS FALSE NEIGHBOUR: 'it returns false'. Refute it at one input. -/
def codeOpensWrong : ChangeSpec := { name := "codeOpens", fn := fun _ => fun
  | [d1, d2, d3] => { results := [.lit (.bool false)], args := [d1, d2, d3] }
  | _ => none }
def CodeOpensWrongFalsely : Prop := codeOpensRow.holds Try.pinned (OpenSpec.ofChange codeOpensWrong)

/- THE SECOND FORM. 'bulk': how many values and letters a reading holds, each counted each time it is reached (what is shared counts as often as it is met; a slice's spare places count too). A statement '..UptoSaid' is the law's where the arguments, and the package variables that the reading takes, are together of bulk at most 1048576: NARROWER than '..Said'. Prove '..Said' where nothing that the law and all that it calls make is longer than what came in: it says more and counts as full. Else prove '..UptoSaid'. A law counts once. -/
mutual
def uptoBulk {H : Type} : DataW H → Nat
  | .lit (.string bytes) => bytes.length + 1
  | .lit _ => 1
  | .nil => 1
  | .ptr d => uptoBulk d + 1
  | .slice elems spare => uptoBulkAll elems + uptoBulkAll spare + 1
  | .agg parts => uptoBulkAll parts + 1
  | .iface _ d => uptoBulk d + 1
  | .map entries => uptoBulkEntries entries + 1
  | .held _ => 1
def uptoBulkAll {H : Type} : List (DataW H) → Nat
  | [] => 0
  | d :: r => uptoBulk d + uptoBulkAll r
def uptoBulkEntries {H : Type} : List (Lit × DataW H) → Nat
  | [] => 0
  | x :: r => uptoBulkEntry x + uptoBulkEntries r
def uptoBulkEntry {H : Type} : Lit × DataW H → Nat
  | (.string bytes, d) => bytes.length + uptoBulk d + 1
  | (_, d) => uptoBulk d + 1
 end
def uptoSmall : (H : Type) → List (DataW H) → Bool := fun _ ds => decide (uptoBulkAll ds ≤ 1048576)
def OpenSpec.upto (s : _root_.Go.ChangeSpec) : _root_.Go.OpenSpec := { _root_.Go.OpenSpec.ofChange s with cond := some uptoSmall }

/-- 'reedbedlaw01.CodeOrder', WHERE WHAT IT READS IS OF BULK AT MOST 1048576: true; the input reads as it did. -/
def codeOrderUptoRow : OpenClaim := { program := "yteigpmfhhmlgoaa", sum := "a982ffcf790f610c4d0d4b1e81a7b1a2ee1d778b74f1d7f9a49aeec4dd79ba14", func := "reedbed/reedbedlaw01.CodeOrder", spec := "codeOrder", apart := false, narrowed := true }
def CodeOrderUptoSaid : Prop := codeOrderUptoRow.holds Try.pinned (OpenSpec.upto codeOrderSpec)

/-- 'reedbedlaw01.CodeUnits', WHERE WHAT IT READS IS OF BULK AT MOST 1048576: true; the input reads as it did. -/
def codeUnitsUptoRow : OpenClaim := { program := "yteigpmfhhmlgoaa", sum := "a982ffcf790f610c4d0d4b1e81a7b1a2ee1d778b74f1d7f9a49aeec4dd79ba14", func := "reedbed/reedbedlaw01.CodeUnits", spec := "codeUnits", apart := false, narrowed := true }
def CodeUnitsUptoSaid : Prop := codeUnitsUptoRow.holds Try.pinned (OpenSpec.upto codeUnitsSpec)

/-- 'reedbedlaw01.CodePuts', WHERE WHAT IT READS IS OF BULK AT MOST 1048576: true; the input reads as it did. -/
def codePutsUptoRow : OpenClaim := { program := "yteigpmfhhmlgoaa", sum := "a982ffcf790f610c4d0d4b1e81a7b1a2ee1d778b74f1d7f9a49aeec4dd79ba14", func := "reedbed/reedbedlaw01.CodePuts", spec := "codePuts", apart := false, narrowed := true }
def CodePutsUptoSaid : Prop := codePutsUptoRow.holds Try.pinned (OpenSpec.upto codePutsSpec)

/-- 'reedbedlaw01.CodeThrough', WHERE WHAT IT READS IS OF BULK AT MOST 1048576: true; the input reads as it did. -/
def codeThroughUptoRow : OpenClaim := { program := "yteigpmfhhmlgoaa", sum := "a982ffcf790f610c4d0d4b1e81a7b1a2ee1d778b74f1d7f9a49aeec4dd79ba14", func := "reedbed/reedbedlaw01.CodeThrough", spec := "codeThrough", apart := false, narrowed := true }
def CodeThroughUptoSaid : Prop := codeThroughUptoRow.holds Try.pinned (OpenSpec.upto codeThroughSpec)

/-- 'reedbedlaw01.CodeGets', WHERE WHAT IT READS IS OF BULK AT MOST 1048576: true; the input reads as it did. -/
def codeGetsUptoRow : OpenClaim := { program := "yteigpmfhhmlgoaa", sum := "a982ffcf790f610c4d0d4b1e81a7b1a2ee1d778b74f1d7f9a49aeec4dd79ba14", func := "reedbed/reedbedlaw01.CodeGets", spec := "codeGets", apart := false, narrowed := true }
def CodeGetsUptoSaid : Prop := codeGetsUptoRow.holds Try.pinned (OpenSpec.upto codeGetsSpec)

/-- 'reedbedlaw01.CodeOpens', WHERE WHAT IT READS IS OF BULK AT MOST 1048576: true; the input reads as it did. -/
def codeOpensUptoRow : OpenClaim := { program := "yteigpmfhhmlgoaa", sum := "a982ffcf790f610c4d0d4b1e81a7b1a2ee1d778b74f1d7f9a49aeec4dd79ba14", func := "reedbed/reedbedlaw01.CodeOpens", spec := "codeOpens", apart := false, narrowed := true }
def CodeOpensUptoSaid : Prop := codeOpensUptoRow.holds Try.pinned (OpenSpec.upto codeOpensSpec)

end Rows
end Go.Proofs.Yteigpmfhhmlgoaa
