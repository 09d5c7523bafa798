/-
  No cell of these rows narrows 'for every input' (looked for: loops, veiled, ifaces, maps, wideKeys, modest, calm, conditions, laid).
  DERIVED. THE GIVEN ROWS OF THIS SEAT. 4 by the template 'for every input the law returns true; each argument reads behind the call as it read before'; 0 by the template 'total and deterministic' (their statements: YtkppgofiojddoaaTotals.lean).
  GIVEN WITH THE SEED: the statements are not yours to turn. If you find one false, say at which input.
  Laid BY PROGRAM, IN A SANDBOX (cutbox-rows.mjs): the forced cells as the released guide's own fill.sh prints them over the translation bd0f197b57011d65… (all of the seat's roots in one cut). By AI agents, Wed Nov 11 2026. No macro, syntax, notation, axiom, sorry.
-/
import Derived.Test.YtkppgofiojddoaaChecked
import GoSem.Claim
import GoSem.ClaimJoined
import GoSem.ClaimMapViews
import Derived.JoinedTies
import Derived.KernelRfl
namespace Go.Proofs.Ytkppgofiojddoaa
/- THE CELL 'sum', in the pinned program and in every row, IS THE sha256 OF THE DUMP (.gsa) THAT YtkppgofiojddoaaProg.lean LOADS. Nothing in Lean hashes anything: it is a label: what it is worth is what the hold of that sum in a sandbox is worth. -/
noncomputable def Try.pinned : Pinned := { name := "ytkppgofiojddoaa", sum := "bd0f197b57011d657a2da0f3c5370a645510be4e210905efdfb6a96a07e958da", checked := Try.checked }
namespace Rows
def none {H : Type} : Left H := { results := [], args := [] }

/-- 'reedbedlaw04.CutsSpread': WHATEVER THE INPUT: true; the input reads as it did. -/
def cutsSpreadSpec : ChangeSpec := { name := "cutsSpread", fn := fun _ => fun
  | [d1, d2] => { results := [.lit (.bool true)], args := [d1, d2] }
  | _ => none }
def cutsSpreadRow : OpenClaim := { program := "ytkppgofiojddoaa", sum := "bd0f197b57011d657a2da0f3c5370a645510be4e210905efdfb6a96a07e958da", func := "reedbed/reedbedlaw04.CutsSpread", spec := "cutsSpread", apart := false }
def CutsSpreadSaid : Prop := cutsSpreadRow.holds Try.pinned (OpenSpec.ofChange cutsSpreadSpec)

/-- ITS FALSE NEIGHBOUR: 'it returns false'. Refute it at one input. -/
def cutsSpreadWrong : ChangeSpec := { name := "cutsSpread", fn := fun _ => fun
  | [d1, d2] => { results := [.lit (.bool false)], args := [d1, d2] }
  | _ => none }
def CutsSpreadWrongFalsely : Prop := cutsSpreadRow.holds Try.pinned (OpenSpec.ofChange cutsSpreadWrong)

/-- 'reedbedlaw04.CutsPieces': WHATEVER THE INPUT: true; the input reads as it did. -/
def cutsPiecesSpec : ChangeSpec := { name := "cutsPieces", fn := fun _ => fun
  | [d1, d2] => { results := [.lit (.bool true)], args := [d1, d2] }
  | _ => none }
def cutsPiecesRow : OpenClaim := { program := "ytkppgofiojddoaa", sum := "bd0f197b57011d657a2da0f3c5370a645510be4e210905efdfb6a96a07e958da", func := "reedbed/reedbedlaw04.CutsPieces", spec := "cutsPieces", apart := false }
def CutsPiecesSaid : Prop := cutsPiecesRow.holds Try.pinned (OpenSpec.ofChange cutsPiecesSpec)

/-- ITS FALSE NEIGHBOUR: 'it returns false'. Refute it at one input. -/
def cutsPiecesWrong : ChangeSpec := { name := "cutsPieces", fn := fun _ => fun
  | [d1, d2] => { results := [.lit (.bool false)], args := [d1, d2] }
  | _ => none }
def CutsPiecesWrongFalsely : Prop := cutsPiecesRow.holds Try.pinned (OpenSpec.ofChange cutsPiecesWrong)

/-- 'reedbedlaw04.CutsAgain': WHATEVER THE INPUT: true; the input reads as it did. -/
def cutsAgainSpec : ChangeSpec := { name := "cutsAgain", fn := fun _ => fun
  | [d1, d2, d3] => { results := [.lit (.bool true)], args := [d1, d2, d3] }
  | _ => none }
def cutsAgainRow : OpenClaim := { program := "ytkppgofiojddoaa", sum := "bd0f197b57011d657a2da0f3c5370a645510be4e210905efdfb6a96a07e958da", func := "reedbed/reedbedlaw04.CutsAgain", spec := "cutsAgain", apart := false }
def CutsAgainSaid : Prop := cutsAgainRow.holds Try.pinned (OpenSpec.ofChange cutsAgainSpec)

/-- ITS FALSE NEIGHBOUR: 'it returns false'. Refute it at one input. -/
def cutsAgainWrong : ChangeSpec := { name := "cutsAgain", fn := fun _ => fun
  | [d1, d2, d3] => { results := [.lit (.bool false)], args := [d1, d2, d3] }
  | _ => none }
def CutsAgainWrongFalsely : Prop := cutsAgainRow.holds Try.pinned (OpenSpec.ofChange cutsAgainWrong)

/-- 'reedbedlaw04.CutsEnds': WHATEVER THE INPUT: true; the input reads as it did. -/
def cutsEndsSpec : ChangeSpec := { name := "cutsEnds", fn := fun _ => fun
  | [d] => { results := [.lit (.bool true)], args := [d] }
  | _ => none }
def cutsEndsRow : OpenClaim := { program := "ytkppgofiojddoaa", sum := "bd0f197b57011d657a2da0f3c5370a645510be4e210905efdfb6a96a07e958da", func := "reedbed/reedbedlaw04.CutsEnds", spec := "cutsEnds", apart := false }
def CutsEndsSaid : Prop := cutsEndsRow.holds Try.pinned (OpenSpec.ofChange cutsEndsSpec)

/-- ITS FALSE NEIGHBOUR: 'it returns false'. Refute it at one input. -/
def cutsEndsWrong : ChangeSpec := { name := "cutsEnds", fn := fun _ => fun
  | [d] => { results := [.lit (.bool false)], args := [d] }
  | _ => none }
def CutsEndsWrongFalsely : Prop := cutsEndsRow.holds Try.pinned (OpenSpec.ofChange cutsEndsWrong)

/- THE SECOND FORM. 'bulk': how many values and letters a reading holds, each counted each time it is reached (what is shared counts as often as it is met; a slice's spare places count too). A statement '..UptoSaid' is the law's where the arguments, and the package variables that the reading takes, are together of bulk at most 1048576: NARROWER than '..Said'. Prove '..Said' where nothing that the law and all that it calls make is longer than what came in: it says more and counts as full. Else prove '..UptoSaid'. A law counts once. -/
mutual
def uptoBulk {H : Type} : DataW H → Nat
  | .lit (.string bytes) => bytes.length + 1
  | .lit _ => 1
  | .nil => 1
  | .ptr d => uptoBulk d + 1
  | .slice elems spare => uptoBulkAll elems + uptoBulkAll spare + 1
  | .agg parts => uptoBulkAll parts + 1
  | .iface _ d => uptoBulk d + 1
  | .map entries => uptoBulkEntries entries + 1
  | .held _ => 1
def uptoBulkAll {H : Type} : List (DataW H) → Nat
  | [] => 0
  | d :: r => uptoBulk d + uptoBulkAll r
def uptoBulkEntries {H : Type} : List (Lit × DataW H) → Nat
  | [] => 0
  | x :: r => uptoBulkEntry x + uptoBulkEntries r
def uptoBulkEntry {H : Type} : Lit × DataW H → Nat
  | (.string bytes, d) => bytes.length + uptoBulk d + 1
  | (_, d) => uptoBulk d + 1
 end
def uptoSmall : (H : Type) → List (DataW H) → Bool := fun _ ds => decide (uptoBulkAll ds ≤ 1048576)
def OpenSpec.upto (s : _root_.Go.ChangeSpec) : _root_.Go.OpenSpec := { _root_.Go.OpenSpec.ofChange s with cond := some uptoSmall }

/-- 'reedbedlaw04.CutsSpread', WHERE WHAT IT READS IS OF BULK AT MOST 1048576: true; the input reads as it did. -/
def cutsSpreadUptoRow : OpenClaim := { program := "ytkppgofiojddoaa", sum := "bd0f197b57011d657a2da0f3c5370a645510be4e210905efdfb6a96a07e958da", func := "reedbed/reedbedlaw04.CutsSpread", spec := "cutsSpread", apart := false, narrowed := true }
def CutsSpreadUptoSaid : Prop := cutsSpreadUptoRow.holds Try.pinned (OpenSpec.upto cutsSpreadSpec)

/-- 'reedbedlaw04.CutsPieces', WHERE WHAT IT READS IS OF BULK AT MOST 1048576: true; the input reads as it did. -/
def cutsPiecesUptoRow : OpenClaim := { program := "ytkppgofiojddoaa", sum := "bd0f197b57011d657a2da0f3c5370a645510be4e210905efdfb6a96a07e958da", func := "reedbed/reedbedlaw04.CutsPieces", spec := "cutsPieces", apart := false, narrowed := true }
def CutsPiecesUptoSaid : Prop := cutsPiecesUptoRow.holds Try.pinned (OpenSpec.upto cutsPiecesSpec)

/-- 'reedbedlaw04.CutsAgain', WHERE WHAT IT READS IS OF BULK AT MOST 1048576: true; the input reads as it did. -/
def cutsAgainUptoRow : OpenClaim := { program := "ytkppgofiojddoaa", sum := "bd0f197b57011d657a2da0f3c5370a645510be4e210905efdfb6a96a07e958da", func := "reedbed/reedbedlaw04.CutsAgain", spec := "cutsAgain", apart := false, narrowed := true }
def CutsAgainUptoSaid : Prop := cutsAgainUptoRow.holds Try.pinned (OpenSpec.upto cutsAgainSpec)

/-- 'reedbedlaw04.CutsEnds', WHERE WHAT IT READS IS OF BULK AT MOST 1048576: true; the input reads as it did. -/
def cutsEndsUptoRow : OpenClaim := { program := "ytkppgofiojddoaa", sum := "bd0f197b57011d657a2da0f3c5370a645510be4e210905efdfb6a96a07e958da", func := "reedbed/reedbedlaw04.CutsEnds", spec := "cutsEnds", apart := false, narrowed := true }
def CutsEndsUptoSaid : Prop := cutsEndsUptoRow.holds Try.pinned (OpenSpec.upto cutsEndsSpec)

end Rows
end Go.Proofs.Ytkppgofiojddoaa
