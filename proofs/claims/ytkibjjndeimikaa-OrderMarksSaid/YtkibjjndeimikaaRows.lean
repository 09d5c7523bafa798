/-
  No cell of these rows narrows 'for every input' (looked for: loops, veiled, ifaces, maps, wideKeys, modest, calm, conditions, laid).
  DERIVED. THE GIVEN ROWS OF THIS SEAT. 4 by the template 'for every input the law returns true; each argument reads behind the call as it read before'; 0 by the template 'total and deterministic' (their statements: YtkibjjndeimikaaTotals.lean).
  GIVEN WITH THE SEED: the statements are not yours to turn. If you find one false, say at which input.
  Laid BY PROGRAM, IN A SANDBOX (cutbox-rows.mjs): the forced cells as the released guide's own fill.sh prints them over the translation e7525ef56987fa6e… (all of the seat's roots in one cut). By AI agents, Wed Nov 11 2026. No macro, syntax, notation, axiom, sorry.
-/
import Derived.Test.YtkibjjndeimikaaChecked
import GoSem.Claim
import GoSem.ClaimJoined
import GoSem.ClaimMapViews
import Derived.JoinedTies
import Derived.KernelRfl
namespace Go.Proofs.Ytkibjjndeimikaa
/- THE CELL 'sum', in the pinned program and in every row, IS THE sha256 OF THE DUMP (.gsa) THAT YtkibjjndeimikaaProg.lean LOADS. Nothing in Lean hashes anything: it is a label: what it is worth is what the hold of that sum in a sandbox is worth. -/
noncomputable def Try.pinned : Pinned := { name := "ytkibjjndeimikaa", sum := "e7525ef56987fa6e5648357caa5ef5fabe3b76c145465650c5717d2cc40061b7", checked := Try.checked }
namespace Rows
def none {H : Type} : Left H := { results := [], args := [] }

/-- 'reedbedlaw02.OrderEncodes': WHATEVER THE INPUT: true; the input reads as it did. -/
def orderEncodesSpec : ChangeSpec := { name := "orderEncodes", fn := fun _ => fun
  | [d1, d2] => { results := [.lit (.bool true)], args := [d1, d2] }
  | _ => none }
def orderEncodesRow : OpenClaim := { program := "ytkibjjndeimikaa", sum := "e7525ef56987fa6e5648357caa5ef5fabe3b76c145465650c5717d2cc40061b7", func := "reedbed/reedbedlaw02.OrderEncodes", spec := "orderEncodes", apart := false }
def OrderEncodesSaid : Prop := orderEncodesRow.holds Try.pinned (OpenSpec.ofChange orderEncodesSpec)

/-- ITS FALSE NEIGHBOUR: 'it returns false'. Refute it at one input. -/
def orderEncodesWrong : ChangeSpec := { name := "orderEncodes", fn := fun _ => fun
  | [d1, d2] => { results := [.lit (.bool false)], args := [d1, d2] }
  | _ => none }
def OrderEncodesWrongFalsely : Prop := orderEncodesRow.holds Try.pinned (OpenSpec.ofChange orderEncodesWrong)

/-- 'reedbedlaw02.OrderUnits': WHATEVER THE INPUT: true; the input reads as it did. -/
def orderUnitsSpec : ChangeSpec := { name := "orderUnits", fn := fun _ => fun
  | [d1, d2, d3] => { results := [.lit (.bool true)], args := [d1, d2, d3] }
  | _ => none }
def orderUnitsRow : OpenClaim := { program := "ytkibjjndeimikaa", sum := "e7525ef56987fa6e5648357caa5ef5fabe3b76c145465650c5717d2cc40061b7", func := "reedbed/reedbedlaw02.OrderUnits", spec := "orderUnits", apart := false }
def OrderUnitsSaid : Prop := orderUnitsRow.holds Try.pinned (OpenSpec.ofChange orderUnitsSpec)

/-- ITS FALSE NEIGHBOUR: 'it returns false'. Refute it at one input. -/
def orderUnitsWrong : ChangeSpec := { name := "orderUnits", fn := fun _ => fun
  | [d1, d2, d3] => { results := [.lit (.bool false)], args := [d1, d2, d3] }
  | _ => none }
def OrderUnitsWrongFalsely : Prop := orderUnitsRow.holds Try.pinned (OpenSpec.ofChange orderUnitsWrong)

/-- 'reedbedlaw02.OrderTurned': WHATEVER THE INPUT: true; the input reads as it did. -/
def orderTurnedSpec : ChangeSpec := { name := "orderTurned", fn := fun _ => fun
  | [d] => { results := [.lit (.bool true)], args := [d] }
  | _ => none }
def orderTurnedRow : OpenClaim := { program := "ytkibjjndeimikaa", sum := "e7525ef56987fa6e5648357caa5ef5fabe3b76c145465650c5717d2cc40061b7", func := "reedbed/reedbedlaw02.OrderTurned", spec := "orderTurned", apart := false }
def OrderTurnedSaid : Prop := orderTurnedRow.holds Try.pinned (OpenSpec.ofChange orderTurnedSpec)

/-- ITS FALSE NEIGHBOUR: 'it returns false'. Refute it at one input. -/
def orderTurnedWrong : ChangeSpec := { name := "orderTurned", fn := fun _ => fun
  | [d] => { results := [.lit (.bool false)], args := [d] }
  | _ => none }
def OrderTurnedWrongFalsely : Prop := orderTurnedRow.holds Try.pinned (OpenSpec.ofChange orderTurnedWrong)

/-- 'reedbedlaw02.OrderMarks': WHATEVER THE INPUT: true; the input reads as it did. -/
def orderMarksSpec : ChangeSpec := { name := "orderMarks", fn := fun _ => fun
  | [d1, d2] => { results := [.lit (.bool true)], args := [d1, d2] }
  | _ => none }
def orderMarksRow : OpenClaim := { program := "ytkibjjndeimikaa", sum := "e7525ef56987fa6e5648357caa5ef5fabe3b76c145465650c5717d2cc40061b7", func := "reedbed/reedbedlaw02.OrderMarks", spec := "orderMarks", unfollowed := true, recurses := true, apart := false }
def OrderMarksSaid : Prop := orderMarksRow.holds Try.pinned (OpenSpec.ofChange orderMarksSpec)

/-- ITS FALSE NEIGHBOUR: 'it returns false'. Refute it at one input. -/
def orderMarksWrong : ChangeSpec := { name := "orderMarks", fn := fun _ => fun
  | [d1, d2] => { results := [.lit (.bool false)], args := [d1, d2] }
  | _ => none }
def OrderMarksWrongFalsely : Prop := orderMarksRow.holds Try.pinned (OpenSpec.ofChange orderMarksWrong)

/- THE SECOND FORM. 'bulk': how many values and letters a reading holds, each counted each time it is reached (what is shared counts as often as it is met; a slice's spare places count too). A statement '..UptoSaid' is the law's where the arguments, and the package variables that the reading takes, are together of bulk at most 1048576: NARROWER than '..Said'. Prove '..Said' where nothing that the law and all that it calls make is longer than what came in: it says more and counts as full. Else prove '..UptoSaid'. A law counts once. -/
mutual
def uptoBulk {H : Type} : DataW H → Nat
  | .lit (.string bytes) => bytes.length + 1
  | .lit _ => 1
  | .nil => 1
  | .ptr d => uptoBulk d + 1
  | .slice elems spare => uptoBulkAll elems + uptoBulkAll spare + 1
  | .agg parts => uptoBulkAll parts + 1
  | .iface _ d => uptoBulk d + 1
  | .map entries => uptoBulkEntries entries + 1
  | .held _ => 1
def uptoBulkAll {H : Type} : List (DataW H) → Nat
  | [] => 0
  | d :: r => uptoBulk d + uptoBulkAll r
def uptoBulkEntries {H : Type} : List (Lit × DataW H) → Nat
  | [] => 0
  | x :: r => uptoBulkEntry x + uptoBulkEntries r
def uptoBulkEntry {H : Type} : Lit × DataW H → Nat
  | (.string bytes, d) => bytes.length + uptoBulk d + 1
  | (_, d) => uptoBulk d + 1
 end
def uptoSmall : (H : Type) → List (DataW H) → Bool := fun _ ds => decide (uptoBulkAll ds ≤ 1048576)
def OpenSpec.upto (s : _root_.Go.ChangeSpec) : _root_.Go.OpenSpec := { _root_.Go.OpenSpec.ofChange s with cond := some uptoSmall }

/-- 'reedbedlaw02.OrderEncodes', WHERE WHAT IT READS IS OF BULK AT MOST 1048576: true; the input reads as it did. -/
def orderEncodesUptoRow : OpenClaim := { program := "ytkibjjndeimikaa", sum := "e7525ef56987fa6e5648357caa5ef5fabe3b76c145465650c5717d2cc40061b7", func := "reedbed/reedbedlaw02.OrderEncodes", spec := "orderEncodes", apart := false, narrowed := true }
def OrderEncodesUptoSaid : Prop := orderEncodesUptoRow.holds Try.pinned (OpenSpec.upto orderEncodesSpec)

/-- 'reedbedlaw02.OrderUnits', WHERE WHAT IT READS IS OF BULK AT MOST 1048576: true; the input reads as it did. -/
def orderUnitsUptoRow : OpenClaim := { program := "ytkibjjndeimikaa", sum := "e7525ef56987fa6e5648357caa5ef5fabe3b76c145465650c5717d2cc40061b7", func := "reedbed/reedbedlaw02.OrderUnits", spec := "orderUnits", apart := false, narrowed := true }
def OrderUnitsUptoSaid : Prop := orderUnitsUptoRow.holds Try.pinned (OpenSpec.upto orderUnitsSpec)

/-- 'reedbedlaw02.OrderTurned', WHERE WHAT IT READS IS OF BULK AT MOST 1048576: true; the input reads as it did. -/
def orderTurnedUptoRow : OpenClaim := { program := "ytkibjjndeimikaa", sum := "e7525ef56987fa6e5648357caa5ef5fabe3b76c145465650c5717d2cc40061b7", func := "reedbed/reedbedlaw02.OrderTurned", spec := "orderTurned", apart := false, narrowed := true }
def OrderTurnedUptoSaid : Prop := orderTurnedUptoRow.holds Try.pinned (OpenSpec.upto orderTurnedSpec)

/-- 'reedbedlaw02.OrderMarks', WHERE WHAT IT READS IS OF BULK AT MOST 1048576: true; the input reads as it did. -/
def orderMarksUptoRow : OpenClaim := { program := "ytkibjjndeimikaa", sum := "e7525ef56987fa6e5648357caa5ef5fabe3b76c145465650c5717d2cc40061b7", func := "reedbed/reedbedlaw02.OrderMarks", spec := "orderMarks", unfollowed := true, recurses := true, apart := false, narrowed := true }
def OrderMarksUptoSaid : Prop := orderMarksUptoRow.holds Try.pinned (OpenSpec.upto orderMarksSpec)

end Rows
end Go.Proofs.Ytkibjjndeimikaa
