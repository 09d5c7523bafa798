/-
  No cell of these rows narrows 'for every input' (looked for: loops, veiled, ifaces, maps, wideKeys, modest, calm, conditions, laid).
  DERIVED. THE GIVEN ROWS OF THIS SEAT. 4 by the template 'for every input the law returns true; each argument reads behind the call as it read before'; 0 by the template 'total and deterministic' (their statements: YtamgngmbbbegpaaTotals.lean).
  GIVEN WITH THE SEED: the statements are not yours to turn. If you find one false, say at which input.
  Laid BY PROGRAM, IN A SANDBOX (cutbox-rows.mjs): the forced cells as the released guide's own fill.sh prints them over the translation 4bcaa184ded070fe… (all of the seat's roots in one cut). By AI agents, Wed Nov 11 2026. No macro, syntax, notation, axiom, sorry.
-/
import Derived.Test.YtamgngmbbbegpaaChecked
import GoSem.Claim
import GoSem.ClaimJoined
import GoSem.ClaimMapViews
import Derived.JoinedTies
import Derived.KernelRfl
namespace Go.Proofs.Ytamgngmbbbegpaa
/- THE CELL 'sum', in the pinned program and in every row, IS THE sha256 OF THE DUMP (.gsa) THAT YtamgngmbbbegpaaProg.lean LOADS. Nothing in Lean hashes anything: it is a label: what it is worth is what the hold of that sum in a sandbox is worth. -/
noncomputable def Try.pinned : Pinned := { name := "ytamgngmbbbegpaa", sum := "4bcaa184ded070fe9c6bfcbd377499359f00963117c40165603dcc08e2e91f1a", checked := Try.checked }
namespace Rows
def none {H : Type} : Left H := { results := [], args := [] }

/-- 'reedbedlaw20.LoomPicks': WHATEVER THE INPUT: true; the input reads as it did. -/
def loomPicksSpec : ChangeSpec := { name := "loomPicks", fn := fun _ => fun
  | [d1, d2, d3] => { results := [.lit (.bool true)], args := [d1, d2, d3] }
  | _ => none }
def loomPicksRow : OpenClaim := { program := "ytamgngmbbbegpaa", sum := "4bcaa184ded070fe9c6bfcbd377499359f00963117c40165603dcc08e2e91f1a", func := "reedbed/reedbedlaw20.LoomPicks", spec := "loomPicks", unfollowed := true, recurses := true, apart := false }
def LoomPicksSaid : Prop := loomPicksRow.holds Try.pinned (OpenSpec.ofChange loomPicksSpec)

/-- ITS FALSE NEIGHBOUR: 'it returns false'. Refute it at one input. -/
def loomPicksWrong : ChangeSpec := { name := "loomPicks", fn := fun _ => fun
  | [d1, d2, d3] => { results := [.lit (.bool false)], args := [d1, d2, d3] }
  | _ => none }
def LoomPicksWrongFalsely : Prop := loomPicksRow.holds Try.pinned (OpenSpec.ofChange loomPicksWrong)

/-- 'reedbedlaw20.LoomRuns': WHATEVER THE INPUT: true; the input reads as it did. -/
def loomRunsSpec : ChangeSpec := { name := "loomRuns", fn := fun _ => fun
  | [d1, d2] => { results := [.lit (.bool true)], args := [d1, d2] }
  | _ => none }
def loomRunsRow : OpenClaim := { program := "ytamgngmbbbegpaa", sum := "4bcaa184ded070fe9c6bfcbd377499359f00963117c40165603dcc08e2e91f1a", func := "reedbed/reedbedlaw20.LoomRuns", spec := "loomRuns", unfollowed := true, recurses := true, apart := false }
def LoomRunsSaid : Prop := loomRunsRow.holds Try.pinned (OpenSpec.ofChange loomRunsSpec)

/-- ITS FALSE NEIGHBOUR: 'it returns false'. Refute it at one input. -/
def loomRunsWrong : ChangeSpec := { name := "loomRuns", fn := fun _ => fun
  | [d1, d2] => { results := [.lit (.bool false)], args := [d1, d2] }
  | _ => none }
def LoomRunsWrongFalsely : Prop := loomRunsRow.holds Try.pinned (OpenSpec.ofChange loomRunsWrong)

/-- 'reedbedlaw20.LoomSteps': WHATEVER THE INPUT: true; the input reads as it did. -/
def loomStepsSpec : ChangeSpec := { name := "loomSteps", fn := fun _ => fun
  | [d1, d2] => { results := [.lit (.bool true)], args := [d1, d2] }
  | _ => none }
def loomStepsRow : OpenClaim := { program := "ytamgngmbbbegpaa", sum := "4bcaa184ded070fe9c6bfcbd377499359f00963117c40165603dcc08e2e91f1a", func := "reedbed/reedbedlaw20.LoomSteps", spec := "loomSteps", unfollowed := true, recurses := true, apart := false }
def LoomStepsSaid : Prop := loomStepsRow.holds Try.pinned (OpenSpec.ofChange loomStepsSpec)

/-- ITS FALSE NEIGHBOUR: 'it returns false'. Refute it at one input. -/
def loomStepsWrong : ChangeSpec := { name := "loomSteps", fn := fun _ => fun
  | [d1, d2] => { results := [.lit (.bool false)], args := [d1, d2] }
  | _ => none }
def LoomStepsWrongFalsely : Prop := loomStepsRow.holds Try.pinned (OpenSpec.ofChange loomStepsWrong)

/-- 'reedbedlaw20.LoomFree': WHATEVER THE INPUT: true; the input reads as it did. -/
def loomFreeSpec : ChangeSpec := { name := "loomFree", fn := fun _ => fun
  | [d1, d2] => { results := [.lit (.bool true)], args := [d1, d2] }
  | _ => none }
def loomFreeRow : OpenClaim := { program := "ytamgngmbbbegpaa", sum := "4bcaa184ded070fe9c6bfcbd377499359f00963117c40165603dcc08e2e91f1a", func := "reedbed/reedbedlaw20.LoomFree", spec := "loomFree", unfollowed := true, recurses := true, apart := false }
def LoomFreeSaid : Prop := loomFreeRow.holds Try.pinned (OpenSpec.ofChange loomFreeSpec)

/-- ITS FALSE NEIGHBOUR: 'it returns false'. Refute it at one input. -/
def loomFreeWrong : ChangeSpec := { name := "loomFree", fn := fun _ => fun
  | [d1, d2] => { results := [.lit (.bool false)], args := [d1, d2] }
  | _ => none }
def LoomFreeWrongFalsely : Prop := loomFreeRow.holds Try.pinned (OpenSpec.ofChange loomFreeWrong)

/- THE SECOND FORM. 'bulk': how many values and letters a reading holds, each counted each time it is reached (what is shared counts as often as it is met; a slice's spare places count too). A statement '..UptoSaid' is the law's where the arguments, and the package variables that the reading takes, are together of bulk at most 1048576: NARROWER than '..Said'. Prove '..Said' where nothing that the law and all that it calls make is longer than what came in: it says more and counts as full. Else prove '..UptoSaid'. A law counts once. -/
mutual
def uptoBulk {H : Type} : DataW H → Nat
  | .lit (.string bytes) => bytes.length + 1
  | .lit _ => 1
  | .nil => 1
  | .ptr d => uptoBulk d + 1
  | .slice elems spare => uptoBulkAll elems + uptoBulkAll spare + 1
  | .agg parts => uptoBulkAll parts + 1
  | .iface _ d => uptoBulk d + 1
  | .map entries => uptoBulkEntries entries + 1
  | .held _ => 1
def uptoBulkAll {H : Type} : List (DataW H) → Nat
  | [] => 0
  | d :: r => uptoBulk d + uptoBulkAll r
def uptoBulkEntries {H : Type} : List (Lit × DataW H) → Nat
  | [] => 0
  | x :: r => uptoBulkEntry x + uptoBulkEntries r
def uptoBulkEntry {H : Type} : Lit × DataW H → Nat
  | (.string bytes, d) => bytes.length + uptoBulk d + 1
  | (_, d) => uptoBulk d + 1
 end
def uptoSmall : (H : Type) → List (DataW H) → Bool := fun _ ds => decide (uptoBulkAll ds ≤ 1048576)
def OpenSpec.upto (s : _root_.Go.ChangeSpec) : _root_.Go.OpenSpec := { _root_.Go.OpenSpec.ofChange s with cond := some uptoSmall }

/-- 'reedbedlaw20.LoomPicks', WHERE WHAT IT READS IS OF BULK AT MOST 1048576: true; the input reads as it did. -/
def loomPicksUptoRow : OpenClaim := { program := "ytamgngmbbbegpaa", sum := "4bcaa184ded070fe9c6bfcbd377499359f00963117c40165603dcc08e2e91f1a", func := "reedbed/reedbedlaw20.LoomPicks", spec := "loomPicks", unfollowed := true, recurses := true, apart := false, narrowed := true }
def LoomPicksUptoSaid : Prop := loomPicksUptoRow.holds Try.pinned (OpenSpec.upto loomPicksSpec)

/-- 'reedbedlaw20.LoomRuns', WHERE WHAT IT READS IS OF BULK AT MOST 1048576: true; the input reads as it did. -/
def loomRunsUptoRow : OpenClaim := { program := "ytamgngmbbbegpaa", sum := "4bcaa184ded070fe9c6bfcbd377499359f00963117c40165603dcc08e2e91f1a", func := "reedbed/reedbedlaw20.LoomRuns", spec := "loomRuns", unfollowed := true, recurses := true, apart := false, narrowed := true }
def LoomRunsUptoSaid : Prop := loomRunsUptoRow.holds Try.pinned (OpenSpec.upto loomRunsSpec)

/-- 'reedbedlaw20.LoomSteps', WHERE WHAT IT READS IS OF BULK AT MOST 1048576: true; the input reads as it did. -/
def loomStepsUptoRow : OpenClaim := { program := "ytamgngmbbbegpaa", sum := "4bcaa184ded070fe9c6bfcbd377499359f00963117c40165603dcc08e2e91f1a", func := "reedbed/reedbedlaw20.LoomSteps", spec := "loomSteps", unfollowed := true, recurses := true, apart := false, narrowed := true }
def LoomStepsUptoSaid : Prop := loomStepsUptoRow.holds Try.pinned (OpenSpec.upto loomStepsSpec)

/-- 'reedbedlaw20.LoomFree', WHERE WHAT IT READS IS OF BULK AT MOST 1048576: true; the input reads as it did. -/
def loomFreeUptoRow : OpenClaim := { program := "ytamgngmbbbegpaa", sum := "4bcaa184ded070fe9c6bfcbd377499359f00963117c40165603dcc08e2e91f1a", func := "reedbed/reedbedlaw20.LoomFree", spec := "loomFree", unfollowed := true, recurses := true, apart := false, narrowed := true }
def LoomFreeUptoSaid : Prop := loomFreeUptoRow.holds Try.pinned (OpenSpec.upto loomFreeSpec)

end Rows
end Go.Proofs.Ytamgngmbbbegpaa
