/-
  No cell of these rows narrows 'for every input' (looked for: loops, veiled, ifaces, maps, wideKeys, modest, calm, conditions, laid).
  DERIVED. THE GIVEN ROWS OF THIS SEAT. 4 by the template 'for every input the law returns true; each argument reads behind the call as it read before'; 0 by the template 'total and deterministic' (their statements: YtnigmfjghapfgaaTotals.lean).
  GIVEN WITH THE SEED: the statements are not yours to turn. If you find one false, say at which input.
  Laid BY PROGRAM, IN A SANDBOX (cutbox-rows.mjs): the forced cells as the released guide's own fill.sh prints them over the translation fcba2246b4aa5b2e… (all of the seat's roots in one cut). By AI agents, Wed Nov 11 2026. No macro, syntax, notation, axiom, sorry.
-/
import Derived.Test.YtnigmfjghapfgaaChecked
import GoSem.Claim
import GoSem.ClaimJoined
import GoSem.ClaimMapViews
import Derived.JoinedTies
import Derived.KernelRfl
namespace Go.Proofs.Ytnigmfjghapfgaa
/- THE CELL 'sum', in the pinned program and in every row, IS THE sha256 OF THE DUMP (.gsa) THAT YtnigmfjghapfgaaProg.lean LOADS. Nothing in Lean hashes anything: it is a label: what it is worth is what the hold of that sum in a sandbox is worth. -/
noncomputable def Try.pinned : Pinned := { name := "ytnigmfjghapfgaa", sum := "fcba2246b4aa5b2ef6d1893cf1b93a32b14706c15f09fc31ef4f7e52e25c2e7c", checked := Try.checked }
namespace Rows
def none {H : Type} : Left H := { results := [], args := [] }

/-- 'reedbedlaw05.SourceAll': WHATEVER THE INPUT: true; the input reads as it did. -/
def sourceAllSpec : ChangeSpec := { name := "sourceAll", fn := fun _ => fun
  | [d1, d2, d3] => { results := [.lit (.bool true)], args := [d1, d2, d3] }
  | _ => none }
def sourceAllRow : OpenClaim := { program := "ytnigmfjghapfgaa", sum := "fcba2246b4aa5b2ef6d1893cf1b93a32b14706c15f09fc31ef4f7e52e25c2e7c", func := "reedbed/reedbedlaw05.SourceAll", spec := "sourceAll", apart := false }
def SourceAllSaid : Prop := sourceAllRow.holds Try.pinned (OpenSpec.ofChange sourceAllSpec)

/-- ITS FALSE NEIGHBOUR: 'it returns false'. Refute it at one input. -/
def sourceAllWrong : ChangeSpec := { name := "sourceAll", fn := fun _ => fun
  | [d1, d2, d3] => { results := [.lit (.bool false)], args := [d1, d2, d3] }
  | _ => none }
def SourceAllWrongFalsely : Prop := sourceAllRow.holds Try.pinned (OpenSpec.ofChange sourceAllWrong)

/-- 'reedbedlaw05.SourceGives': WHATEVER THE INPUT: true; the input reads as it did. -/
def sourceGivesSpec : ChangeSpec := { name := "sourceGives", fn := fun _ => fun
  | [d1, d2, d3] => { results := [.lit (.bool true)], args := [d1, d2, d3] }
  | _ => none }
def sourceGivesRow : OpenClaim := { program := "ytnigmfjghapfgaa", sum := "fcba2246b4aa5b2ef6d1893cf1b93a32b14706c15f09fc31ef4f7e52e25c2e7c", func := "reedbed/reedbedlaw05.SourceGives", spec := "sourceGives", apart := false }
def SourceGivesSaid : Prop := sourceGivesRow.holds Try.pinned (OpenSpec.ofChange sourceGivesSpec)

/-- ITS FALSE NEIGHBOUR: 'it returns false'. Refute it at one input. -/
def sourceGivesWrong : ChangeSpec := { name := "sourceGives", fn := fun _ => fun
  | [d1, d2, d3] => { results := [.lit (.bool false)], args := [d1, d2, d3] }
  | _ => none }
def SourceGivesWrongFalsely : Prop := sourceGivesRow.holds Try.pinned (OpenSpec.ofChange sourceGivesWrong)

/-- 'reedbedlaw05.SourceSinks': WHATEVER THE INPUT: true; the input reads as it did. -/
def sourceSinksSpec : ChangeSpec := { name := "sourceSinks", fn := fun _ => fun
  | [d1, d2] => { results := [.lit (.bool true)], args := [d1, d2] }
  | _ => none }
def sourceSinksRow : OpenClaim := { program := "ytnigmfjghapfgaa", sum := "fcba2246b4aa5b2ef6d1893cf1b93a32b14706c15f09fc31ef4f7e52e25c2e7c", func := "reedbed/reedbedlaw05.SourceSinks", spec := "sourceSinks", apart := false }
def SourceSinksSaid : Prop := sourceSinksRow.holds Try.pinned (OpenSpec.ofChange sourceSinksSpec)

/-- ITS FALSE NEIGHBOUR: 'it returns false'. Refute it at one input. -/
def sourceSinksWrong : ChangeSpec := { name := "sourceSinks", fn := fun _ => fun
  | [d1, d2] => { results := [.lit (.bool false)], args := [d1, d2] }
  | _ => none }
def SourceSinksWrongFalsely : Prop := sourceSinksRow.holds Try.pinned (OpenSpec.ofChange sourceSinksWrong)

/-- 'reedbedlaw05.SourceCuts': WHATEVER THE INPUT: true; the input reads as it did. -/
def sourceCutsSpec : ChangeSpec := { name := "sourceCuts", fn := fun _ => fun
  | [d1, d2, d3] => { results := [.lit (.bool true)], args := [d1, d2, d3] }
  | _ => none }
def sourceCutsRow : OpenClaim := { program := "ytnigmfjghapfgaa", sum := "fcba2246b4aa5b2ef6d1893cf1b93a32b14706c15f09fc31ef4f7e52e25c2e7c", func := "reedbed/reedbedlaw05.SourceCuts", spec := "sourceCuts", apart := false }
def SourceCutsSaid : Prop := sourceCutsRow.holds Try.pinned (OpenSpec.ofChange sourceCutsSpec)

/-- ITS FALSE NEIGHBOUR: 'it returns false'. Refute it at one input. -/
def sourceCutsWrong : ChangeSpec := { name := "sourceCuts", fn := fun _ => fun
  | [d1, d2, d3] => { results := [.lit (.bool false)], args := [d1, d2, d3] }
  | _ => none }
def SourceCutsWrongFalsely : Prop := sourceCutsRow.holds Try.pinned (OpenSpec.ofChange sourceCutsWrong)

/- THE SECOND FORM. 'bulk': how many values and letters a reading holds, each counted each time it is reached (what is shared counts as often as it is met; a slice's spare places count too). A statement '..UptoSaid' is the law's where the arguments, and the package variables that the reading takes, are together of bulk at most 1048576: NARROWER than '..Said'. Prove '..Said' where nothing that the law and all that it calls make is longer than what came in: it says more and counts as full. Else prove '..UptoSaid'. A law counts once. -/
mutual
def uptoBulk {H : Type} : DataW H → Nat
  | .lit (.string bytes) => bytes.length + 1
  | .lit _ => 1
  | .nil => 1
  | .ptr d => uptoBulk d + 1
  | .slice elems spare => uptoBulkAll elems + uptoBulkAll spare + 1
  | .agg parts => uptoBulkAll parts + 1
  | .iface _ d => uptoBulk d + 1
  | .map entries => uptoBulkEntries entries + 1
  | .held _ => 1
def uptoBulkAll {H : Type} : List (DataW H) → Nat
  | [] => 0
  | d :: r => uptoBulk d + uptoBulkAll r
def uptoBulkEntries {H : Type} : List (Lit × DataW H) → Nat
  | [] => 0
  | x :: r => uptoBulkEntry x + uptoBulkEntries r
def uptoBulkEntry {H : Type} : Lit × DataW H → Nat
  | (.string bytes, d) => bytes.length + uptoBulk d + 1
  | (_, d) => uptoBulk d + 1
 end
def uptoSmall : (H : Type) → List (DataW H) → Bool := fun _ ds => decide (uptoBulkAll ds ≤ 1048576)
def OpenSpec.upto (s : _root_.Go.ChangeSpec) : _root_.Go.OpenSpec := { _root_.Go.OpenSpec.ofChange s with cond := some uptoSmall }

/-- 'reedbedlaw05.SourceAll', WHERE WHAT IT READS IS OF BULK AT MOST 1048576: true; the input reads as it did. -/
def sourceAllUptoRow : OpenClaim := { program := "ytnigmfjghapfgaa", sum := "fcba2246b4aa5b2ef6d1893cf1b93a32b14706c15f09fc31ef4f7e52e25c2e7c", func := "reedbed/reedbedlaw05.SourceAll", spec := "sourceAll", apart := false, narrowed := true }
def SourceAllUptoSaid : Prop := sourceAllUptoRow.holds Try.pinned (OpenSpec.upto sourceAllSpec)

/-- 'reedbedlaw05.SourceGives', WHERE WHAT IT READS IS OF BULK AT MOST 1048576: true; the input reads as it did. -/
def sourceGivesUptoRow : OpenClaim := { program := "ytnigmfjghapfgaa", sum := "fcba2246b4aa5b2ef6d1893cf1b93a32b14706c15f09fc31ef4f7e52e25c2e7c", func := "reedbed/reedbedlaw05.SourceGives", spec := "sourceGives", apart := false, narrowed := true }
def SourceGivesUptoSaid : Prop := sourceGivesUptoRow.holds Try.pinned (OpenSpec.upto sourceGivesSpec)

/-- 'reedbedlaw05.SourceSinks', WHERE WHAT IT READS IS OF BULK AT MOST 1048576: true; the input reads as it did. -/
def sourceSinksUptoRow : OpenClaim := { program := "ytnigmfjghapfgaa", sum := "fcba2246b4aa5b2ef6d1893cf1b93a32b14706c15f09fc31ef4f7e52e25c2e7c", func := "reedbed/reedbedlaw05.SourceSinks", spec := "sourceSinks", apart := false, narrowed := true }
def SourceSinksUptoSaid : Prop := sourceSinksUptoRow.holds Try.pinned (OpenSpec.upto sourceSinksSpec)

/-- 'reedbedlaw05.SourceCuts', WHERE WHAT IT READS IS OF BULK AT MOST 1048576: true; the input reads as it did. -/
def sourceCutsUptoRow : OpenClaim := { program := "ytnigmfjghapfgaa", sum := "fcba2246b4aa5b2ef6d1893cf1b93a32b14706c15f09fc31ef4f7e52e25c2e7c", func := "reedbed/reedbedlaw05.SourceCuts", spec := "sourceCuts", apart := false, narrowed := true }
def SourceCutsUptoSaid : Prop := sourceCutsUptoRow.holds Try.pinned (OpenSpec.upto sourceCutsSpec)

end Rows
end Go.Proofs.Ytnigmfjghapfgaa
