/-
  No cell of these rows narrows 'for every input' (looked for: loops, veiled, ifaces, maps, wideKeys, modest, calm, conditions, laid).
  DERIVED. THE GIVEN ROWS OF THIS SEAT. 4 by the template 'for every input the law returns true; each argument reads behind the call as it read before'; 0 by the template 'total and deterministic' (their statements: YthgjfdjjnkgicaaTotals.lean).
  GIVEN WITH THE SEED: the statements are not yours to turn. If you find one false, say at which input.
  Laid BY PROGRAM, IN A SANDBOX (cutbox-rows.mjs): the forced cells as the released guide's own fill.sh prints them over the translation 86c0ee30d14390ad… (all of the seat's roots in one cut). By AI agents, Wed Nov 11 2026. No macro, syntax, notation, axiom, sorry.
-/
import Derived.Test.YthgjfdjjnkgicaaChecked
import GoSem.Claim
import GoSem.ClaimJoined
import GoSem.ClaimMapViews
import Derived.JoinedTies
import Derived.KernelRfl
namespace Go.Proofs.Ythgjfdjjnkgicaa
/- THE CELL 'sum', in the pinned program and in every row, IS THE sha256 OF THE DUMP (.gsa) THAT YthgjfdjjnkgicaaProg.lean LOADS. Nothing in Lean hashes anything: it is a label: what it is worth is what the hold of that sum in a sandbox is worth. -/
noncomputable def Try.pinned : Pinned := { name := "ythgjfdjjnkgicaa", sum := "86c0ee30d14390addc85b6adcf1c0775f4d047d1ce5805fe8eec742a0eabcf94", checked := Try.checked }
namespace Rows
def none {H : Type} : Left H := { results := [], args := [] }

/-- 'reedbedlaw07.SplitAll': WHATEVER THE INPUT: true; the input reads as it did. -/
def splitAllSpec : ChangeSpec := { name := "splitAll", fn := fun _ => fun
  | [d1, d2] => { results := [.lit (.bool true)], args := [d1, d2] }
  | _ => none }
def splitAllRow : OpenClaim := { program := "ythgjfdjjnkgicaa", sum := "86c0ee30d14390addc85b6adcf1c0775f4d047d1ce5805fe8eec742a0eabcf94", func := "reedbed/reedbedlaw07.SplitAll", spec := "splitAll", inPlace := ["internal/bytealg.IndexByteString", "internal/bytealg.IndexString"], named := ["internal/bytealg.MaxLen"], apart := false }
def SplitAllSaid : Prop := splitAllRow.holds Try.pinned (OpenSpec.ofChange splitAllSpec)

/-- ITS FALSE NEIGHBOUR: 'it returns false'. Refute it at one input. -/
def splitAllWrong : ChangeSpec := { name := "splitAll", fn := fun _ => fun
  | [d1, d2] => { results := [.lit (.bool false)], args := [d1, d2] }
  | _ => none }
def SplitAllWrongFalsely : Prop := splitAllRow.holds Try.pinned (OpenSpec.ofChange splitAllWrong)

/-- 'reedbedlaw07.SplitJoins': WHATEVER THE INPUT: true; the input reads as it did. -/
def splitJoinsSpec : ChangeSpec := { name := "splitJoins", fn := fun _ => fun
  | [d] => { results := [.lit (.bool true)], args := [d] }
  | _ => none }
def splitJoinsRow : OpenClaim := { program := "ythgjfdjjnkgicaa", sum := "86c0ee30d14390addc85b6adcf1c0775f4d047d1ce5805fe8eec742a0eabcf94", func := "reedbed/reedbedlaw07.SplitJoins", spec := "splitJoins", inPlace := ["internal/bytealg.IndexByteString", "internal/bytealg.IndexString"], named := ["internal/bytealg.MaxLen"], apart := false }
def SplitJoinsSaid : Prop := splitJoinsRow.holds Try.pinned (OpenSpec.ofChange splitJoinsSpec)

/-- ITS FALSE NEIGHBOUR: 'it returns false'. Refute it at one input. -/
def splitJoinsWrong : ChangeSpec := { name := "splitJoins", fn := fun _ => fun
  | [d] => { results := [.lit (.bool false)], args := [d] }
  | _ => none }
def SplitJoinsWrongFalsely : Prop := splitJoinsRow.holds Try.pinned (OpenSpec.ofChange splitJoinsWrong)

/-- 'reedbedlaw07.SplitLong': WHATEVER THE INPUT: true; the input reads as it did. -/
def splitLongSpec : ChangeSpec := { name := "splitLong", fn := fun _ => fun
  | [d1, d2] => { results := [.lit (.bool true)], args := [d1, d2] }
  | _ => none }
def splitLongRow : OpenClaim := { program := "ythgjfdjjnkgicaa", sum := "86c0ee30d14390addc85b6adcf1c0775f4d047d1ce5805fe8eec742a0eabcf94", func := "reedbed/reedbedlaw07.SplitLong", spec := "splitLong", inPlace := ["internal/bytealg.IndexByteString", "internal/bytealg.IndexString"], named := ["internal/bytealg.MaxLen"], apart := false }
def SplitLongSaid : Prop := splitLongRow.holds Try.pinned (OpenSpec.ofChange splitLongSpec)

/-- ITS FALSE NEIGHBOUR: 'it returns false'. Refute it at one input. -/
def splitLongWrong : ChangeSpec := { name := "splitLong", fn := fun _ => fun
  | [d1, d2] => { results := [.lit (.bool false)], args := [d1, d2] }
  | _ => none }
def SplitLongWrongFalsely : Prop := splitLongRow.holds Try.pinned (OpenSpec.ofChange splitLongWrong)

/-- 'reedbedlaw07.SplitCuts': WHATEVER THE INPUT: true; the input reads as it did. -/
def splitCutsSpec : ChangeSpec := { name := "splitCuts", fn := fun _ => fun
  | [d1, d2] => { results := [.lit (.bool true)], args := [d1, d2] }
  | _ => none }
def splitCutsRow : OpenClaim := { program := "ythgjfdjjnkgicaa", sum := "86c0ee30d14390addc85b6adcf1c0775f4d047d1ce5805fe8eec742a0eabcf94", func := "reedbed/reedbedlaw07.SplitCuts", spec := "splitCuts", inPlace := ["internal/bytealg.IndexByteString", "internal/bytealg.IndexString"], named := ["internal/bytealg.MaxLen"], apart := false }
def SplitCutsSaid : Prop := splitCutsRow.holds Try.pinned (OpenSpec.ofChange splitCutsSpec)

/-- ITS FALSE NEIGHBOUR: 'it returns false'. Refute it at one input. -/
def splitCutsWrong : ChangeSpec := { name := "splitCuts", fn := fun _ => fun
  | [d1, d2] => { results := [.lit (.bool false)], args := [d1, d2] }
  | _ => none }
def SplitCutsWrongFalsely : Prop := splitCutsRow.holds Try.pinned (OpenSpec.ofChange splitCutsWrong)

/- THE SECOND FORM. 'bulk': how many values and letters a reading holds, each counted each time it is reached (what is shared counts as often as it is met; a slice's spare places count too). A statement '..UptoSaid' is the law's where the arguments, and the package variables that the reading takes, are together of bulk at most 1048576: NARROWER than '..Said'. Prove '..Said' where nothing that the law and all that it calls make is longer than what came in: it says more and counts as full. Else prove '..UptoSaid'. A law counts once. -/
mutual
def uptoBulk {H : Type} : DataW H → Nat
  | .lit (.string bytes) => bytes.length + 1
  | .lit _ => 1
  | .nil => 1
  | .ptr d => uptoBulk d + 1
  | .slice elems spare => uptoBulkAll elems + uptoBulkAll spare + 1
  | .agg parts => uptoBulkAll parts + 1
  | .iface _ d => uptoBulk d + 1
  | .map entries => uptoBulkEntries entries + 1
  | .held _ => 1
def uptoBulkAll {H : Type} : List (DataW H) → Nat
  | [] => 0
  | d :: r => uptoBulk d + uptoBulkAll r
def uptoBulkEntries {H : Type} : List (Lit × DataW H) → Nat
  | [] => 0
  | x :: r => uptoBulkEntry x + uptoBulkEntries r
def uptoBulkEntry {H : Type} : Lit × DataW H → Nat
  | (.string bytes, d) => bytes.length + uptoBulk d + 1
  | (_, d) => uptoBulk d + 1
 end
def uptoSmall : (H : Type) → List (DataW H) → Bool := fun _ ds => decide (uptoBulkAll ds ≤ 1048576)
def OpenSpec.upto (s : _root_.Go.ChangeSpec) : _root_.Go.OpenSpec := { _root_.Go.OpenSpec.ofChange s with cond := some uptoSmall }

/-- 'reedbedlaw07.SplitAll', WHERE WHAT IT READS IS OF BULK AT MOST 1048576: true; the input reads as it did. -/
def splitAllUptoRow : OpenClaim := { program := "ythgjfdjjnkgicaa", sum := "86c0ee30d14390addc85b6adcf1c0775f4d047d1ce5805fe8eec742a0eabcf94", func := "reedbed/reedbedlaw07.SplitAll", spec := "splitAll", inPlace := ["internal/bytealg.IndexByteString", "internal/bytealg.IndexString"], named := ["internal/bytealg.MaxLen"], apart := false, narrowed := true }
def SplitAllUptoSaid : Prop := splitAllUptoRow.holds Try.pinned (OpenSpec.upto splitAllSpec)

/-- 'reedbedlaw07.SplitJoins', WHERE WHAT IT READS IS OF BULK AT MOST 1048576: true; the input reads as it did. -/
def splitJoinsUptoRow : OpenClaim := { program := "ythgjfdjjnkgicaa", sum := "86c0ee30d14390addc85b6adcf1c0775f4d047d1ce5805fe8eec742a0eabcf94", func := "reedbed/reedbedlaw07.SplitJoins", spec := "splitJoins", inPlace := ["internal/bytealg.IndexByteString", "internal/bytealg.IndexString"], named := ["internal/bytealg.MaxLen"], apart := false, narrowed := true }
def SplitJoinsUptoSaid : Prop := splitJoinsUptoRow.holds Try.pinned (OpenSpec.upto splitJoinsSpec)

/-- 'reedbedlaw07.SplitLong', WHERE WHAT IT READS IS OF BULK AT MOST 1048576: true; the input reads as it did. -/
def splitLongUptoRow : OpenClaim := { program := "ythgjfdjjnkgicaa", sum := "86c0ee30d14390addc85b6adcf1c0775f4d047d1ce5805fe8eec742a0eabcf94", func := "reedbed/reedbedlaw07.SplitLong", spec := "splitLong", inPlace := ["internal/bytealg.IndexByteString", "internal/bytealg.IndexString"], named := ["internal/bytealg.MaxLen"], apart := false, narrowed := true }
def SplitLongUptoSaid : Prop := splitLongUptoRow.holds Try.pinned (OpenSpec.upto splitLongSpec)

/-- 'reedbedlaw07.SplitCuts', WHERE WHAT IT READS IS OF BULK AT MOST 1048576: true; the input reads as it did. -/
def splitCutsUptoRow : OpenClaim := { program := "ythgjfdjjnkgicaa", sum := "86c0ee30d14390addc85b6adcf1c0775f4d047d1ce5805fe8eec742a0eabcf94", func := "reedbed/reedbedlaw07.SplitCuts", spec := "splitCuts", inPlace := ["internal/bytealg.IndexByteString", "internal/bytealg.IndexString"], named := ["internal/bytealg.MaxLen"], apart := false, narrowed := true }
def SplitCutsUptoSaid : Prop := splitCutsUptoRow.holds Try.pinned (OpenSpec.upto splitCutsSpec)

end Rows
end Go.Proofs.Ythgjfdjjnkgicaa
