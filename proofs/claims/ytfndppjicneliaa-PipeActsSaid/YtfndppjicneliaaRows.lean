/-
  No cell of these rows narrows 'for every input' (looked for: loops, veiled, ifaces, maps, wideKeys, modest, calm, conditions, laid).
  DERIVED. THE GIVEN ROWS OF THIS SEAT. 4 by the template 'for every input the law returns true; each argument reads behind the call as it read before'; 0 by the template 'total and deterministic' (their statements: YtfndppjicneliaaTotals.lean).
  GIVEN WITH THE SEED: the statements are not yours to turn. If you find one false, say at which input.
  Laid BY PROGRAM, IN A SANDBOX (cutbox-rows.mjs): the forced cells as the released guide's own fill.sh prints them over the translation 871919f4060b837e… (all of the seat's roots in one cut). By AI agents, Wed Nov 11 2026. No macro, syntax, notation, axiom, sorry.
-/
import Derived.Test.YtfndppjicneliaaChecked
import GoSem.Claim
import GoSem.ClaimJoined
import GoSem.ClaimMapViews
import Derived.JoinedTies
import Derived.KernelRfl
namespace Go.Proofs.Ytfndppjicneliaa
/- THE CELL 'sum', in the pinned program and in every row, IS THE sha256 OF THE DUMP (.gsa) THAT YtfndppjicneliaaProg.lean LOADS. Nothing in Lean hashes anything: it is a label: what it is worth is what the hold of that sum in a sandbox is worth. -/
noncomputable def Try.pinned : Pinned := { name := "ytfndppjicneliaa", sum := "871919f4060b837ee80db249ba655554694f7ad6d52eb408f124051da2dca57a", checked := Try.checked }
namespace Rows
def none {H : Type} : Left H := { results := [], args := [] }

/-- 'reedbedlaw14.PipeOrder': WHATEVER THE INPUT: true; the input reads as it did. -/
def pipeOrderSpec : ChangeSpec := { name := "pipeOrder", fn := fun _ => fun
  | [d1, d2] => { results := [.lit (.bool true)], args := [d1, d2] }
  | _ => none }
def pipeOrderRow : OpenClaim := { program := "ytfndppjicneliaa", sum := "871919f4060b837ee80db249ba655554694f7ad6d52eb408f124051da2dca57a", func := "reedbed/reedbedlaw14.PipeOrder", spec := "pipeOrder", unfollowed := true, recurses := true, apart := false }
def PipeOrderSaid : Prop := pipeOrderRow.holds Try.pinned (OpenSpec.ofChange pipeOrderSpec)

/-- ITS FALSE NEIGHBOUR: 'it returns false'. Refute it at one input. -/
def pipeOrderWrong : ChangeSpec := { name := "pipeOrder", fn := fun _ => fun
  | [d1, d2] => { results := [.lit (.bool false)], args := [d1, d2] }
  | _ => none }
def PipeOrderWrongFalsely : Prop := pipeOrderRow.holds Try.pinned (OpenSpec.ofChange pipeOrderWrong)

/-- 'reedbedlaw14.PipeBack': WHATEVER THE INPUT: true; the input reads as it did. -/
def pipeBackSpec : ChangeSpec := { name := "pipeBack", fn := fun _ => fun
  | [d1, d2, d3] => { results := [.lit (.bool true)], args := [d1, d2, d3] }
  | _ => none }
def pipeBackRow : OpenClaim := { program := "ytfndppjicneliaa", sum := "871919f4060b837ee80db249ba655554694f7ad6d52eb408f124051da2dca57a", func := "reedbed/reedbedlaw14.PipeBack", spec := "pipeBack", unfollowed := true, recurses := true, apart := false }
def PipeBackSaid : Prop := pipeBackRow.holds Try.pinned (OpenSpec.ofChange pipeBackSpec)

/-- ITS FALSE NEIGHBOUR: 'it returns false'. Refute it at one input. -/
def pipeBackWrong : ChangeSpec := { name := "pipeBack", fn := fun _ => fun
  | [d1, d2, d3] => { results := [.lit (.bool false)], args := [d1, d2, d3] }
  | _ => none }
def PipeBackWrongFalsely : Prop := pipeBackRow.holds Try.pinned (OpenSpec.ofChange pipeBackWrong)

/-- 'reedbedlaw14.PipeWaits': WHATEVER THE INPUT: true; the input reads as it did. -/
def pipeWaitsSpec : ChangeSpec := { name := "pipeWaits", fn := fun _ => fun
  | [d1, d2] => { results := [.lit (.bool true)], args := [d1, d2] }
  | _ => none }
def pipeWaitsRow : OpenClaim := { program := "ytfndppjicneliaa", sum := "871919f4060b837ee80db249ba655554694f7ad6d52eb408f124051da2dca57a", func := "reedbed/reedbedlaw14.PipeWaits", spec := "pipeWaits", unfollowed := true, recurses := true, apart := false }
def PipeWaitsSaid : Prop := pipeWaitsRow.holds Try.pinned (OpenSpec.ofChange pipeWaitsSpec)

/-- ITS FALSE NEIGHBOUR: 'it returns false'. Refute it at one input. -/
def pipeWaitsWrong : ChangeSpec := { name := "pipeWaits", fn := fun _ => fun
  | [d1, d2] => { results := [.lit (.bool false)], args := [d1, d2] }
  | _ => none }
def PipeWaitsWrongFalsely : Prop := pipeWaitsRow.holds Try.pinned (OpenSpec.ofChange pipeWaitsWrong)

/-- 'reedbedlaw14.PipeActs': WHATEVER THE INPUT: true; the input reads as it did. -/
def pipeActsSpec : ChangeSpec := { name := "pipeActs", fn := fun _ => fun
  | [d1, d2] => { results := [.lit (.bool true)], args := [d1, d2] }
  | _ => none }
def pipeActsRow : OpenClaim := { program := "ytfndppjicneliaa", sum := "871919f4060b837ee80db249ba655554694f7ad6d52eb408f124051da2dca57a", func := "reedbed/reedbedlaw14.PipeActs", spec := "pipeActs", unfollowed := true, recurses := true, apart := false }
def PipeActsSaid : Prop := pipeActsRow.holds Try.pinned (OpenSpec.ofChange pipeActsSpec)

/-- ITS FALSE NEIGHBOUR: 'it returns false'. Refute it at one input. -/
def pipeActsWrong : ChangeSpec := { name := "pipeActs", fn := fun _ => fun
  | [d1, d2] => { results := [.lit (.bool false)], args := [d1, d2] }
  | _ => none }
def PipeActsWrongFalsely : Prop := pipeActsRow.holds Try.pinned (OpenSpec.ofChange pipeActsWrong)

/- THE SECOND FORM. 'bulk': how many values and letters a reading holds, each counted each time it is reached (what is shared counts as often as it is met; a slice's spare places count too). A statement '..UptoSaid' is the law's where the arguments, and the package variables that the reading takes, are together of bulk at most 1048576: NARROWER than '..Said'. Prove '..Said' where nothing that the law and all that it calls make is longer than what came in: it says more and counts as full. Else prove '..UptoSaid'. A law counts once. -/
mutual
def uptoBulk {H : Type} : DataW H → Nat
  | .lit (.string bytes) => bytes.length + 1
  | .lit _ => 1
  | .nil => 1
  | .ptr d => uptoBulk d + 1
  | .slice elems spare => uptoBulkAll elems + uptoBulkAll spare + 1
  | .agg parts => uptoBulkAll parts + 1
  | .iface _ d => uptoBulk d + 1
  | .map entries => uptoBulkEntries entries + 1
  | .held _ => 1
def uptoBulkAll {H : Type} : List (DataW H) → Nat
  | [] => 0
  | d :: r => uptoBulk d + uptoBulkAll r
def uptoBulkEntries {H : Type} : List (Lit × DataW H) → Nat
  | [] => 0
  | x :: r => uptoBulkEntry x + uptoBulkEntries r
def uptoBulkEntry {H : Type} : Lit × DataW H → Nat
  | (.string bytes, d) => bytes.length + uptoBulk d + 1
  | (_, d) => uptoBulk d + 1
 end
def uptoSmall : (H : Type) → List (DataW H) → Bool := fun _ ds => decide (uptoBulkAll ds ≤ 1048576)
def OpenSpec.upto (s : _root_.Go.ChangeSpec) : _root_.Go.OpenSpec := { _root_.Go.OpenSpec.ofChange s with cond := some uptoSmall }

/-- 'reedbedlaw14.PipeOrder', WHERE WHAT IT READS IS OF BULK AT MOST 1048576: true; the input reads as it did. -/
def pipeOrderUptoRow : OpenClaim := { program := "ytfndppjicneliaa", sum := "871919f4060b837ee80db249ba655554694f7ad6d52eb408f124051da2dca57a", func := "reedbed/reedbedlaw14.PipeOrder", spec := "pipeOrder", unfollowed := true, recurses := true, apart := false, narrowed := true }
def PipeOrderUptoSaid : Prop := pipeOrderUptoRow.holds Try.pinned (OpenSpec.upto pipeOrderSpec)

/-- 'reedbedlaw14.PipeBack', WHERE WHAT IT READS IS OF BULK AT MOST 1048576: true; the input reads as it did. -/
def pipeBackUptoRow : OpenClaim := { program := "ytfndppjicneliaa", sum := "871919f4060b837ee80db249ba655554694f7ad6d52eb408f124051da2dca57a", func := "reedbed/reedbedlaw14.PipeBack", spec := "pipeBack", unfollowed := true, recurses := true, apart := false, narrowed := true }
def PipeBackUptoSaid : Prop := pipeBackUptoRow.holds Try.pinned (OpenSpec.upto pipeBackSpec)

/-- 'reedbedlaw14.PipeWaits', WHERE WHAT IT READS IS OF BULK AT MOST 1048576: true; the input reads as it did. -/
def pipeWaitsUptoRow : OpenClaim := { program := "ytfndppjicneliaa", sum := "871919f4060b837ee80db249ba655554694f7ad6d52eb408f124051da2dca57a", func := "reedbed/reedbedlaw14.PipeWaits", spec := "pipeWaits", unfollowed := true, recurses := true, apart := false, narrowed := true }
def PipeWaitsUptoSaid : Prop := pipeWaitsUptoRow.holds Try.pinned (OpenSpec.upto pipeWaitsSpec)

/-- 'reedbedlaw14.PipeActs', WHERE WHAT IT READS IS OF BULK AT MOST 1048576: true; the input reads as it did. -/
def pipeActsUptoRow : OpenClaim := { program := "ytfndppjicneliaa", sum := "871919f4060b837ee80db249ba655554694f7ad6d52eb408f124051da2dca57a", func := "reedbed/reedbedlaw14.PipeActs", spec := "pipeActs", unfollowed := true, recurses := true, apart := false, narrowed := true }
def PipeActsUptoSaid : Prop := pipeActsUptoRow.holds Try.pinned (OpenSpec.upto pipeActsSpec)

end Rows
end Go.Proofs.Ytfndppjicneliaa
