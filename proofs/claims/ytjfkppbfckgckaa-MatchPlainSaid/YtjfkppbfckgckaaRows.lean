/-
  No cell of these rows narrows 'for every input' (looked for: loops, veiled, ifaces, maps, wideKeys, modest, calm, conditions, laid).
  DERIVED. THE GIVEN ROWS OF THIS SEAT. 5 by the template 'for every input the law returns true; each argument reads behind the call as it read before'; 0 by the template 'total and deterministic' (their statements: YtjfkppbfckgckaaTotals.lean).
  GIVEN WITH THE SEED: the statements are not yours to turn. If you find one false, say at which input.
  Laid BY PROGRAM, IN A SANDBOX (cutbox-rows.mjs): the forced cells as the released guide's own fill.sh prints them over the translation 08ea17267da9458e… (all of the seat's roots in one cut). By AI agents, Wed Nov 11 2026. No macro, syntax, notation, axiom, sorry.
-/
import Derived.Test.YtjfkppbfckgckaaChecked
import GoSem.Claim
import GoSem.ClaimJoined
import GoSem.ClaimMapViews
import Derived.JoinedTies
import Derived.KernelRfl
namespace Go.Proofs.Ytjfkppbfckgckaa
/- THE CELL 'sum', in the pinned program and in every row, IS THE sha256 OF THE DUMP (.gsa) THAT YtjfkppbfckgckaaProg.lean LOADS. Nothing in Lean hashes anything: it is a label: what it is worth is what the hold of that sum in a sandbox is worth. -/
noncomputable def Try.pinned : Pinned := { name := "ytjfkppbfckgckaa", sum := "08ea17267da9458efb141f5b46384866020361927f747141d0bef7b1061839eb", checked := Try.checked }
namespace Rows
def none {H : Type} : Left H := { results := [], args := [] }

/-- 'reedbedlaw11.MatchAll': WHATEVER THE INPUT: true; the input reads as it did. -/
def matchAllSpec : ChangeSpec := { name := "matchAll", fn := fun _ => fun
  | [d1, d2] => { results := [.lit (.bool true)], args := [d1, d2] }
  | _ => none }
def matchAllRow : OpenClaim := { program := "ytjfkppbfckgckaa", sum := "08ea17267da9458efb141f5b46384866020361927f747141d0bef7b1061839eb", func := "reedbed/reedbedlaw11.MatchAll", spec := "matchAll", unfollowed := true, recurses := true, apart := false }
def MatchAllSaid : Prop := matchAllRow.holds Try.pinned (OpenSpec.ofChange matchAllSpec)

/-- ITS FALSE NEIGHBOUR: 'it returns false'. Refute it at one input. -/
def matchAllWrong : ChangeSpec := { name := "matchAll", fn := fun _ => fun
  | [d1, d2] => { results := [.lit (.bool false)], args := [d1, d2] }
  | _ => none }
def MatchAllWrongFalsely : Prop := matchAllRow.holds Try.pinned (OpenSpec.ofChange matchAllWrong)

/-- 'reedbedlaw11.MatchPlain': WHATEVER THE INPUT: true; the input reads as it did. -/
def matchPlainSpec : ChangeSpec := { name := "matchPlain", fn := fun _ => fun
  | [d1, d2] => { results := [.lit (.bool true)], args := [d1, d2] }
  | _ => none }
def matchPlainRow : OpenClaim := { program := "ytjfkppbfckgckaa", sum := "08ea17267da9458efb141f5b46384866020361927f747141d0bef7b1061839eb", func := "reedbed/reedbedlaw11.MatchPlain", spec := "matchPlain", unfollowed := true, recurses := true, apart := false }
def MatchPlainSaid : Prop := matchPlainRow.holds Try.pinned (OpenSpec.ofChange matchPlainSpec)

/-- ITS FALSE NEIGHBOUR: 'it returns false'. Refute it at one input. -/
def matchPlainWrong : ChangeSpec := { name := "matchPlain", fn := fun _ => fun
  | [d1, d2] => { results := [.lit (.bool false)], args := [d1, d2] }
  | _ => none }
def MatchPlainWrongFalsely : Prop := matchPlainRow.holds Try.pinned (OpenSpec.ofChange matchPlainWrong)

/-- 'reedbedlaw11.MatchRises': WHATEVER THE INPUT: true; the input reads as it did. -/
def matchRisesSpec : ChangeSpec := { name := "matchRises", fn := fun _ => fun
  | [d1, d2] => { results := [.lit (.bool true)], args := [d1, d2] }
  | _ => none }
def matchRisesRow : OpenClaim := { program := "ytjfkppbfckgckaa", sum := "08ea17267da9458efb141f5b46384866020361927f747141d0bef7b1061839eb", func := "reedbed/reedbedlaw11.MatchRises", spec := "matchRises", unfollowed := true, recurses := true, apart := false }
def MatchRisesSaid : Prop := matchRisesRow.holds Try.pinned (OpenSpec.ofChange matchRisesSpec)

/-- ITS FALSE NEIGHBOUR: 'it returns false'. Refute it at one input. -/
def matchRisesWrong : ChangeSpec := { name := "matchRises", fn := fun _ => fun
  | [d1, d2] => { results := [.lit (.bool false)], args := [d1, d2] }
  | _ => none }
def MatchRisesWrongFalsely : Prop := matchRisesRow.holds Try.pinned (OpenSpec.ofChange matchRisesWrong)

/-- 'reedbedlaw11.MatchFinds': WHATEVER THE INPUT: true; the input reads as it did. -/
def matchFindsSpec : ChangeSpec := { name := "matchFinds", fn := fun _ => fun
  | [d1, d2, d3] => { results := [.lit (.bool true)], args := [d1, d2, d3] }
  | _ => none }
def matchFindsRow : OpenClaim := { program := "ytjfkppbfckgckaa", sum := "08ea17267da9458efb141f5b46384866020361927f747141d0bef7b1061839eb", func := "reedbed/reedbedlaw11.MatchFinds", spec := "matchFinds", unfollowed := true, recurses := true, apart := false }
def MatchFindsSaid : Prop := matchFindsRow.holds Try.pinned (OpenSpec.ofChange matchFindsSpec)

/-- ITS FALSE NEIGHBOUR: 'it returns false'. Refute it at one input. -/
def matchFindsWrong : ChangeSpec := { name := "matchFinds", fn := fun _ => fun
  | [d1, d2, d3] => { results := [.lit (.bool false)], args := [d1, d2, d3] }
  | _ => none }
def MatchFindsWrongFalsely : Prop := matchFindsRow.holds Try.pinned (OpenSpec.ofChange matchFindsWrong)

/-- 'reedbedlaw11.MatchAny': WHATEVER THE INPUT: true; the input reads as it did. -/
def matchAnySpec : ChangeSpec := { name := "matchAny", fn := fun _ => fun
  | [d1, d2, d3] => { results := [.lit (.bool true)], args := [d1, d2, d3] }
  | _ => none }
def matchAnyRow : OpenClaim := { program := "ytjfkppbfckgckaa", sum := "08ea17267da9458efb141f5b46384866020361927f747141d0bef7b1061839eb", func := "reedbed/reedbedlaw11.MatchAny", spec := "matchAny", unfollowed := true, recurses := true, apart := false }
def MatchAnySaid : Prop := matchAnyRow.holds Try.pinned (OpenSpec.ofChange matchAnySpec)

/-- ITS FALSE NEIGHBOUR: 'it returns false'. Refute it at one input. -/
def matchAnyWrong : ChangeSpec := { name := "matchAny", fn := fun _ => fun
  | [d1, d2, d3] => { results := [.lit (.bool false)], args := [d1, d2, d3] }
  | _ => none }
def MatchAnyWrongFalsely : Prop := matchAnyRow.holds Try.pinned (OpenSpec.ofChange matchAnyWrong)

/- THE SECOND FORM. 'bulk': how many values and letters a reading holds, each counted each time it is reached (what is shared counts as often as it is met; a slice's spare places count too). A statement '..UptoSaid' is the law's where the arguments, and the package variables that the reading takes, are together of bulk at most 1048576: NARROWER than '..Said'. Prove '..Said' where nothing that the law and all that it calls make is longer than what came in: it says more and counts as full. Else prove '..UptoSaid'. A law counts once. -/
mutual
def uptoBulk {H : Type} : DataW H → Nat
  | .lit (.string bytes) => bytes.length + 1
  | .lit _ => 1
  | .nil => 1
  | .ptr d => uptoBulk d + 1
  | .slice elems spare => uptoBulkAll elems + uptoBulkAll spare + 1
  | .agg parts => uptoBulkAll parts + 1
  | .iface _ d => uptoBulk d + 1
  | .map entries => uptoBulkEntries entries + 1
  | .held _ => 1
def uptoBulkAll {H : Type} : List (DataW H) → Nat
  | [] => 0
  | d :: r => uptoBulk d + uptoBulkAll r
def uptoBulkEntries {H : Type} : List (Lit × DataW H) → Nat
  | [] => 0
  | x :: r => uptoBulkEntry x + uptoBulkEntries r
def uptoBulkEntry {H : Type} : Lit × DataW H → Nat
  | (.string bytes, d) => bytes.length + uptoBulk d + 1
  | (_, d) => uptoBulk d + 1
 end
def uptoSmall : (H : Type) → List (DataW H) → Bool := fun _ ds => decide (uptoBulkAll ds ≤ 1048576)
def OpenSpec.upto (s : _root_.Go.ChangeSpec) : _root_.Go.OpenSpec := { _root_.Go.OpenSpec.ofChange s with cond := some uptoSmall }

/-- 'reedbedlaw11.MatchAll', WHERE WHAT IT READS IS OF BULK AT MOST 1048576: true; the input reads as it did. -/
def matchAllUptoRow : OpenClaim := { program := "ytjfkppbfckgckaa", sum := "08ea17267da9458efb141f5b46384866020361927f747141d0bef7b1061839eb", func := "reedbed/reedbedlaw11.MatchAll", spec := "matchAll", unfollowed := true, recurses := true, apart := false, narrowed := true }
def MatchAllUptoSaid : Prop := matchAllUptoRow.holds Try.pinned (OpenSpec.upto matchAllSpec)

/-- 'reedbedlaw11.MatchPlain', WHERE WHAT IT READS IS OF BULK AT MOST 1048576: true; the input reads as it did. -/
def matchPlainUptoRow : OpenClaim := { program := "ytjfkppbfckgckaa", sum := "08ea17267da9458efb141f5b46384866020361927f747141d0bef7b1061839eb", func := "reedbed/reedbedlaw11.MatchPlain", spec := "matchPlain", unfollowed := true, recurses := true, apart := false, narrowed := true }
def MatchPlainUptoSaid : Prop := matchPlainUptoRow.holds Try.pinned (OpenSpec.upto matchPlainSpec)

/-- 'reedbedlaw11.MatchRises', WHERE WHAT IT READS IS OF BULK AT MOST 1048576: true; the input reads as it did. -/
def matchRisesUptoRow : OpenClaim := { program := "ytjfkppbfckgckaa", sum := "08ea17267da9458efb141f5b46384866020361927f747141d0bef7b1061839eb", func := "reedbed/reedbedlaw11.MatchRises", spec := "matchRises", unfollowed := true, recurses := true, apart := false, narrowed := true }
def MatchRisesUptoSaid : Prop := matchRisesUptoRow.holds Try.pinned (OpenSpec.upto matchRisesSpec)

/-- 'reedbedlaw11.MatchFinds', WHERE WHAT IT READS IS OF BULK AT MOST 1048576: true; the input reads as it did. -/
def matchFindsUptoRow : OpenClaim := { program := "ytjfkppbfckgckaa", sum := "08ea17267da9458efb141f5b46384866020361927f747141d0bef7b1061839eb", func := "reedbed/reedbedlaw11.MatchFinds", spec := "matchFinds", unfollowed := true, recurses := true, apart := false, narrowed := true }
def MatchFindsUptoSaid : Prop := matchFindsUptoRow.holds Try.pinned (OpenSpec.upto matchFindsSpec)

/-- 'reedbedlaw11.MatchAny', WHERE WHAT IT READS IS OF BULK AT MOST 1048576: true; the input reads as it did. -/
def matchAnyUptoRow : OpenClaim := { program := "ytjfkppbfckgckaa", sum := "08ea17267da9458efb141f5b46384866020361927f747141d0bef7b1061839eb", func := "reedbed/reedbedlaw11.MatchAny", spec := "matchAny", unfollowed := true, recurses := true, apart := false, narrowed := true }
def MatchAnyUptoSaid : Prop := matchAnyUptoRow.holds Try.pinned (OpenSpec.upto matchAnySpec)

end Rows
end Go.Proofs.Ytjfkppbfckgckaa
