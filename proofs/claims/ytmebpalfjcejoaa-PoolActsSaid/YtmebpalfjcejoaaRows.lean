/-
  No cell of these rows narrows 'for every input' (looked for: loops, veiled, ifaces, maps, wideKeys, modest, calm, conditions, laid).
  DERIVED. THE GIVEN ROWS OF THIS SEAT. 5 by the template 'for every input the law returns true; each argument reads behind the call as it read before'; 0 by the template 'total and deterministic' (their statements: YtmebpalfjcejoaaTotals.lean).
  GIVEN WITH THE SEED: the statements are not yours to turn. If you find one false, say at which input.
  Laid BY PROGRAM, IN A SANDBOX (cutbox-rows.mjs): the forced cells as the released guide's own fill.sh prints them over the translation 7bf813604fad1641… (all of the seat's roots in one cut). By AI agents, Wed Nov 11 2026. No macro, syntax, notation, axiom, sorry.
-/
import Derived.Test.YtmebpalfjcejoaaChecked
import GoSem.Claim
import GoSem.ClaimJoined
import GoSem.ClaimMapViews
import Derived.JoinedTies
import Derived.KernelRfl
namespace Go.Proofs.Ytmebpalfjcejoaa
/- THE CELL 'sum', in the pinned program and in every row, IS THE sha256 OF THE DUMP (.gsa) THAT YtmebpalfjcejoaaProg.lean LOADS. Nothing in Lean hashes anything: it is a label: what it is worth is what the hold of that sum in a sandbox is worth. -/
noncomputable def Try.pinned : Pinned := { name := "ytmebpalfjcejoaa", sum := "7bf813604fad16415a4379edf17ef012d7a50e4758decea537a645ecbd7a9551", checked := Try.checked }
namespace Rows
def none {H : Type} : Left H := { results := [], args := [] }

/-- 'reedbedlaw06.PoolLine': WHATEVER THE INPUT: true; the input reads as it did. -/
def poolLineSpec : ChangeSpec := { name := "poolLine", fn := fun _ => fun
  | [d1, d2] => { results := [.lit (.bool true)], args := [d1, d2] }
  | _ => none }
def poolLineRow : OpenClaim := { program := "ytmebpalfjcejoaa", sum := "7bf813604fad16415a4379edf17ef012d7a50e4758decea537a645ecbd7a9551", func := "reedbed/reedbedlaw06.PoolLine", spec := "poolLine", apart := false }
def PoolLineSaid : Prop := poolLineRow.holds Try.pinned (OpenSpec.ofChange poolLineSpec)

/-- ITS FALSE NEIGHBOUR: 'it returns false'. Refute it at one input. -/
def poolLineWrong : ChangeSpec := { name := "poolLine", fn := fun _ => fun
  | [d1, d2] => { results := [.lit (.bool false)], args := [d1, d2] }
  | _ => none }
def PoolLineWrongFalsely : Prop := poolLineRow.holds Try.pinned (OpenSpec.ofChange poolLineWrong)

/-- 'reedbedlaw06.PoolRound': WHATEVER THE INPUT: true; the input reads as it did. -/
def poolRoundSpec : ChangeSpec := { name := "poolRound", fn := fun _ => fun
  | [d1, d2] => { results := [.lit (.bool true)], args := [d1, d2] }
  | _ => none }
def poolRoundRow : OpenClaim := { program := "ytmebpalfjcejoaa", sum := "7bf813604fad16415a4379edf17ef012d7a50e4758decea537a645ecbd7a9551", func := "reedbed/reedbedlaw06.PoolRound", spec := "poolRound", apart := false }
def PoolRoundSaid : Prop := poolRoundRow.holds Try.pinned (OpenSpec.ofChange poolRoundSpec)

/-- ITS FALSE NEIGHBOUR: 'it returns false'. Refute it at one input. -/
def poolRoundWrong : ChangeSpec := { name := "poolRound", fn := fun _ => fun
  | [d1, d2] => { results := [.lit (.bool false)], args := [d1, d2] }
  | _ => none }
def PoolRoundWrongFalsely : Prop := poolRoundRow.holds Try.pinned (OpenSpec.ofChange poolRoundWrong)

/-- 'reedbedlaw06.PoolParts': WHATEVER THE INPUT: true; the input reads as it did. -/
def poolPartsSpec : ChangeSpec := { name := "poolParts", fn := fun _ => fun
  | [d1, d2] => { results := [.lit (.bool true)], args := [d1, d2] }
  | _ => none }
def poolPartsRow : OpenClaim := { program := "ytmebpalfjcejoaa", sum := "7bf813604fad16415a4379edf17ef012d7a50e4758decea537a645ecbd7a9551", func := "reedbed/reedbedlaw06.PoolParts", spec := "poolParts", apart := false }
def PoolPartsSaid : Prop := poolPartsRow.holds Try.pinned (OpenSpec.ofChange poolPartsSpec)

/-- ITS FALSE NEIGHBOUR: 'it returns false'. Refute it at one input. -/
def poolPartsWrong : ChangeSpec := { name := "poolParts", fn := fun _ => fun
  | [d1, d2] => { results := [.lit (.bool false)], args := [d1, d2] }
  | _ => none }
def PoolPartsWrongFalsely : Prop := poolPartsRow.holds Try.pinned (OpenSpec.ofChange poolPartsWrong)

/-- 'reedbedlaw06.PoolViews': WHATEVER THE INPUT: true; the input reads as it did. -/
def poolViewsSpec : ChangeSpec := { name := "poolViews", fn := fun _ => fun
  | [d1, d2, d3] => { results := [.lit (.bool true)], args := [d1, d2, d3] }
  | _ => none }
def poolViewsRow : OpenClaim := { program := "ytmebpalfjcejoaa", sum := "7bf813604fad16415a4379edf17ef012d7a50e4758decea537a645ecbd7a9551", func := "reedbed/reedbedlaw06.PoolViews", spec := "poolViews", apart := false }
def PoolViewsSaid : Prop := poolViewsRow.holds Try.pinned (OpenSpec.ofChange poolViewsSpec)

/-- ITS FALSE NEIGHBOUR: 'it returns false'. Refute it at one input. -/
def poolViewsWrong : ChangeSpec := { name := "poolViews", fn := fun _ => fun
  | [d1, d2, d3] => { results := [.lit (.bool false)], args := [d1, d2, d3] }
  | _ => none }
def PoolViewsWrongFalsely : Prop := poolViewsRow.holds Try.pinned (OpenSpec.ofChange poolViewsWrong)

/-- 'reedbedlaw06.PoolActs': WHATEVER THE INPUT: true; the input reads as it did. -/
def poolActsSpec : ChangeSpec := { name := "poolActs", fn := fun _ => fun
  | [d1, d2] => { results := [.lit (.bool true)], args := [d1, d2] }
  | _ => none }
def poolActsRow : OpenClaim := { program := "ytmebpalfjcejoaa", sum := "7bf813604fad16415a4379edf17ef012d7a50e4758decea537a645ecbd7a9551", func := "reedbed/reedbedlaw06.PoolActs", spec := "poolActs", apart := false }
def PoolActsSaid : Prop := poolActsRow.holds Try.pinned (OpenSpec.ofChange poolActsSpec)

/-- ITS FALSE NEIGHBOUR: 'it returns false'. Refute it at one input. -/
def poolActsWrong : ChangeSpec := { name := "poolActs", fn := fun _ => fun
  | [d1, d2] => { results := [.lit (.bool false)], args := [d1, d2] }
  | _ => none }
def PoolActsWrongFalsely : Prop := poolActsRow.holds Try.pinned (OpenSpec.ofChange poolActsWrong)

/- THE SECOND FORM. 'bulk': how many values and letters a reading holds, each counted each time it is reached (what is shared counts as often as it is met; a slice's spare places count too). A statement '..UptoSaid' is the law's where the arguments, and the package variables that the reading takes, are together of bulk at most 1048576: NARROWER than '..Said'. Prove '..Said' where nothing that the law and all that it calls make is longer than what came in: it says more and counts as full. Else prove '..UptoSaid'. A law counts once. -/
mutual
def uptoBulk {H : Type} : DataW H → Nat
  | .lit (.string bytes) => bytes.length + 1
  | .lit _ => 1
  | .nil => 1
  | .ptr d => uptoBulk d + 1
  | .slice elems spare => uptoBulkAll elems + uptoBulkAll spare + 1
  | .agg parts => uptoBulkAll parts + 1
  | .iface _ d => uptoBulk d + 1
  | .map entries => uptoBulkEntries entries + 1
  | .held _ => 1
def uptoBulkAll {H : Type} : List (DataW H) → Nat
  | [] => 0
  | d :: r => uptoBulk d + uptoBulkAll r
def uptoBulkEntries {H : Type} : List (Lit × DataW H) → Nat
  | [] => 0
  | x :: r => uptoBulkEntry x + uptoBulkEntries r
def uptoBulkEntry {H : Type} : Lit × DataW H → Nat
  | (.string bytes, d) => bytes.length + uptoBulk d + 1
  | (_, d) => uptoBulk d + 1
 end
def uptoSmall : (H : Type) → List (DataW H) → Bool := fun _ ds => decide (uptoBulkAll ds ≤ 1048576)
def OpenSpec.upto (s : _root_.Go.ChangeSpec) : _root_.Go.OpenSpec := { _root_.Go.OpenSpec.ofChange s with cond := some uptoSmall }

/-- 'reedbedlaw06.PoolLine', WHERE WHAT IT READS IS OF BULK AT MOST 1048576: true; the input reads as it did. -/
def poolLineUptoRow : OpenClaim := { program := "ytmebpalfjcejoaa", sum := "7bf813604fad16415a4379edf17ef012d7a50e4758decea537a645ecbd7a9551", func := "reedbed/reedbedlaw06.PoolLine", spec := "poolLine", apart := false, narrowed := true }
def PoolLineUptoSaid : Prop := poolLineUptoRow.holds Try.pinned (OpenSpec.upto poolLineSpec)

/-- 'reedbedlaw06.PoolRound', WHERE WHAT IT READS IS OF BULK AT MOST 1048576: true; the input reads as it did. -/
def poolRoundUptoRow : OpenClaim := { program := "ytmebpalfjcejoaa", sum := "7bf813604fad16415a4379edf17ef012d7a50e4758decea537a645ecbd7a9551", func := "reedbed/reedbedlaw06.PoolRound", spec := "poolRound", apart := false, narrowed := true }
def PoolRoundUptoSaid : Prop := poolRoundUptoRow.holds Try.pinned (OpenSpec.upto poolRoundSpec)

/-- 'reedbedlaw06.PoolParts', WHERE WHAT IT READS IS OF BULK AT MOST 1048576: true; the input reads as it did. -/
def poolPartsUptoRow : OpenClaim := { program := "ytmebpalfjcejoaa", sum := "7bf813604fad16415a4379edf17ef012d7a50e4758decea537a645ecbd7a9551", func := "reedbed/reedbedlaw06.PoolParts", spec := "poolParts", apart := false, narrowed := true }
def PoolPartsUptoSaid : Prop := poolPartsUptoRow.holds Try.pinned (OpenSpec.upto poolPartsSpec)

/-- 'reedbedlaw06.PoolViews', WHERE WHAT IT READS IS OF BULK AT MOST 1048576: true; the input reads as it did. -/
def poolViewsUptoRow : OpenClaim := { program := "ytmebpalfjcejoaa", sum := "7bf813604fad16415a4379edf17ef012d7a50e4758decea537a645ecbd7a9551", func := "reedbed/reedbedlaw06.PoolViews", spec := "poolViews", apart := false, narrowed := true }
def PoolViewsUptoSaid : Prop := poolViewsUptoRow.holds Try.pinned (OpenSpec.upto poolViewsSpec)

/-- 'reedbedlaw06.PoolActs', WHERE WHAT IT READS IS OF BULK AT MOST 1048576: true; the input reads as it did. -/
def poolActsUptoRow : OpenClaim := { program := "ytmebpalfjcejoaa", sum := "7bf813604fad16415a4379edf17ef012d7a50e4758decea537a645ecbd7a9551", func := "reedbed/reedbedlaw06.PoolActs", spec := "poolActs", apart := false, narrowed := true }
def PoolActsUptoSaid : Prop := poolActsUptoRow.holds Try.pinned (OpenSpec.upto poolActsSpec)

end Rows
end Go.Proofs.Ytmebpalfjcejoaa
