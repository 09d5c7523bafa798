/-
  No cell of these rows narrows 'for every input' (looked for: loops, veiled, ifaces, maps, wideKeys, modest, calm, conditions, laid).
  DERIVED. THE GIVEN ROWS OF THIS SEAT. 4 by the template 'for every input the law returns true; each argument reads behind the call as it read before'; 0 by the template 'total and deterministic' (their statements: YtoagjhhdijebmaaTotals.lean).
  GIVEN WITH THE SEED: the statements are not yours to turn. If you find one false, say at which input.
  Laid BY PROGRAM, IN A SANDBOX (cutbox-rows.mjs): the forced cells as the released guide's own fill.sh prints them over the translation 89f915fe49864118… (all of the seat's roots in one cut). By AI agents, Wed Nov 11 2026. No macro, syntax, notation, axiom, sorry.
-/
import Derived.Test.YtoagjhhdijebmaaChecked
import GoSem.Claim
import GoSem.ClaimJoined
import GoSem.ClaimMapViews
import Derived.JoinedTies
import Derived.KernelRfl
namespace Go.Proofs.Ytoagjhhdijebmaa
/- THE CELL 'sum', in the pinned program and in every row, IS THE sha256 OF THE DUMP (.gsa) THAT YtoagjhhdijebmaaProg.lean LOADS. Nothing in Lean hashes anything: it is a label: what it is worth is what the hold of that sum in a sandbox is worth. -/
noncomputable def Try.pinned : Pinned := { name := "ytoagjhhdijebmaa", sum := "89f915fe498641184439911c62dcae0b62edaa66574ec73845c065f6d0f6f419", checked := Try.checked }
namespace Rows
def none {H : Type} : Left H := { results := [], args := [] }

/-- 'reedbedlaw03.DecodeKinds': WHATEVER THE INPUT: true; the input reads as it did. -/
def decodeKindsSpec : ChangeSpec := { name := "decodeKinds", fn := fun _ => fun
  | [d1, d2, d3] => { results := [.lit (.bool true)], args := [d1, d2, d3] }
  | _ => none }
def decodeKindsRow : OpenClaim := { program := "ytoagjhhdijebmaa", sum := "89f915fe498641184439911c62dcae0b62edaa66574ec73845c065f6d0f6f419", func := "reedbed/reedbedlaw03.DecodeKinds", spec := "decodeKinds", inPlace := ["internal/abi.NoEscape"], unfollowed := true, recurses := true, apart := false }
def DecodeKindsSaid : Prop := decodeKindsRow.holds Try.pinned (OpenSpec.ofChange decodeKindsSpec)

/-- ITS FALSE NEIGHBOUR: 'it returns false'. Refute it at one input. -/
def decodeKindsWrong : ChangeSpec := { name := "decodeKinds", fn := fun _ => fun
  | [d1, d2, d3] => { results := [.lit (.bool false)], args := [d1, d2, d3] }
  | _ => none }
def DecodeKindsWrongFalsely : Prop := decodeKindsRow.holds Try.pinned (OpenSpec.ofChange decodeKindsWrong)

/-- 'reedbedlaw03.DecodeTexts': WHATEVER THE INPUT: true; the input reads as it did. -/
def decodeTextsSpec : ChangeSpec := { name := "decodeTexts", fn := fun _ => fun
  | [d1, d2] => { results := [.lit (.bool true)], args := [d1, d2] }
  | _ => none }
def decodeTextsRow : OpenClaim := { program := "ytoagjhhdijebmaa", sum := "89f915fe498641184439911c62dcae0b62edaa66574ec73845c065f6d0f6f419", func := "reedbed/reedbedlaw03.DecodeTexts", spec := "decodeTexts", inPlace := ["internal/abi.NoEscape"], unfollowed := true, recurses := true, apart := false }
def DecodeTextsSaid : Prop := decodeTextsRow.holds Try.pinned (OpenSpec.ofChange decodeTextsSpec)

/-- ITS FALSE NEIGHBOUR: 'it returns false'. Refute it at one input. -/
def decodeTextsWrong : ChangeSpec := { name := "decodeTexts", fn := fun _ => fun
  | [d1, d2] => { results := [.lit (.bool false)], args := [d1, d2] }
  | _ => none }
def DecodeTextsWrongFalsely : Prop := decodeTextsRow.holds Try.pinned (OpenSpec.ofChange decodeTextsWrong)

/-- 'reedbedlaw03.DecodeBack': WHATEVER THE INPUT: true; the input reads as it did. -/
def decodeBackSpec : ChangeSpec := { name := "decodeBack", fn := fun _ => fun
  | [d1, d2, d3] => { results := [.lit (.bool true)], args := [d1, d2, d3] }
  | _ => none }
def decodeBackRow : OpenClaim := { program := "ytoagjhhdijebmaa", sum := "89f915fe498641184439911c62dcae0b62edaa66574ec73845c065f6d0f6f419", func := "reedbed/reedbedlaw03.DecodeBack", spec := "decodeBack", inPlace := ["internal/abi.NoEscape"], unfollowed := true, recurses := true, apart := false }
def DecodeBackSaid : Prop := decodeBackRow.holds Try.pinned (OpenSpec.ofChange decodeBackSpec)

/-- ITS FALSE NEIGHBOUR: 'it returns false'. Refute it at one input. -/
def decodeBackWrong : ChangeSpec := { name := "decodeBack", fn := fun _ => fun
  | [d1, d2, d3] => { results := [.lit (.bool false)], args := [d1, d2, d3] }
  | _ => none }
def DecodeBackWrongFalsely : Prop := decodeBackRow.holds Try.pinned (OpenSpec.ofChange decodeBackWrong)

/-- 'reedbedlaw03.DecodeBegins': WHATEVER THE INPUT: true; the input reads as it did. -/
def decodeBeginsSpec : ChangeSpec := { name := "decodeBegins", fn := fun _ => fun
  | [d1, d2, d3] => { results := [.lit (.bool true)], args := [d1, d2, d3] }
  | _ => none }
def decodeBeginsRow : OpenClaim := { program := "ytoagjhhdijebmaa", sum := "89f915fe498641184439911c62dcae0b62edaa66574ec73845c065f6d0f6f419", func := "reedbed/reedbedlaw03.DecodeBegins", spec := "decodeBegins", inPlace := ["internal/abi.NoEscape"], unfollowed := true, recurses := true, apart := false }
def DecodeBeginsSaid : Prop := decodeBeginsRow.holds Try.pinned (OpenSpec.ofChange decodeBeginsSpec)

/-- ITS FALSE NEIGHBOUR: 'it returns false'. Refute it at one input. -/
def decodeBeginsWrong : ChangeSpec := { name := "decodeBegins", fn := fun _ => fun
  | [d1, d2, d3] => { results := [.lit (.bool false)], args := [d1, d2, d3] }
  | _ => none }
def DecodeBeginsWrongFalsely : Prop := decodeBeginsRow.holds Try.pinned (OpenSpec.ofChange decodeBeginsWrong)

/- THE SECOND FORM. 'bulk': how many values and letters a reading holds, each counted each time it is reached (what is shared counts as often as it is met; a slice's spare places count too). A statement '..UptoSaid' is the law's where the arguments, and the package variables that the reading takes, are together of bulk at most 1048576: NARROWER than '..Said'. Prove '..Said' where nothing that the law and all that it calls make is longer than what came in: it says more and counts as full. Else prove '..UptoSaid'. A law counts once. -/
mutual
def uptoBulk {H : Type} : DataW H → Nat
  | .lit (.string bytes) => bytes.length + 1
  | .lit _ => 1
  | .nil => 1
  | .ptr d => uptoBulk d + 1
  | .slice elems spare => uptoBulkAll elems + uptoBulkAll spare + 1
  | .agg parts => uptoBulkAll parts + 1
  | .iface _ d => uptoBulk d + 1
  | .map entries => uptoBulkEntries entries + 1
  | .held _ => 1
def uptoBulkAll {H : Type} : List (DataW H) → Nat
  | [] => 0
  | d :: r => uptoBulk d + uptoBulkAll r
def uptoBulkEntries {H : Type} : List (Lit × DataW H) → Nat
  | [] => 0
  | x :: r => uptoBulkEntry x + uptoBulkEntries r
def uptoBulkEntry {H : Type} : Lit × DataW H → Nat
  | (.string bytes, d) => bytes.length + uptoBulk d + 1
  | (_, d) => uptoBulk d + 1
 end
def uptoSmall : (H : Type) → List (DataW H) → Bool := fun _ ds => decide (uptoBulkAll ds ≤ 1048576)
def OpenSpec.upto (s : _root_.Go.ChangeSpec) : _root_.Go.OpenSpec := { _root_.Go.OpenSpec.ofChange s with cond := some uptoSmall }

/-- 'reedbedlaw03.DecodeKinds', WHERE WHAT IT READS IS OF BULK AT MOST 1048576: true; the input reads as it did. -/
def decodeKindsUptoRow : OpenClaim := { program := "ytoagjhhdijebmaa", sum := "89f915fe498641184439911c62dcae0b62edaa66574ec73845c065f6d0f6f419", func := "reedbed/reedbedlaw03.DecodeKinds", spec := "decodeKinds", inPlace := ["internal/abi.NoEscape"], unfollowed := true, recurses := true, apart := false, narrowed := true }
def DecodeKindsUptoSaid : Prop := decodeKindsUptoRow.holds Try.pinned (OpenSpec.upto decodeKindsSpec)

/-- 'reedbedlaw03.DecodeTexts', WHERE WHAT IT READS IS OF BULK AT MOST 1048576: true; the input reads as it did. -/
def decodeTextsUptoRow : OpenClaim := { program := "ytoagjhhdijebmaa", sum := "89f915fe498641184439911c62dcae0b62edaa66574ec73845c065f6d0f6f419", func := "reedbed/reedbedlaw03.DecodeTexts", spec := "decodeTexts", inPlace := ["internal/abi.NoEscape"], unfollowed := true, recurses := true, apart := false, narrowed := true }
def DecodeTextsUptoSaid : Prop := decodeTextsUptoRow.holds Try.pinned (OpenSpec.upto decodeTextsSpec)

/-- 'reedbedlaw03.DecodeBack', WHERE WHAT IT READS IS OF BULK AT MOST 1048576: true; the input reads as it did. -/
def decodeBackUptoRow : OpenClaim := { program := "ytoagjhhdijebmaa", sum := "89f915fe498641184439911c62dcae0b62edaa66574ec73845c065f6d0f6f419", func := "reedbed/reedbedlaw03.DecodeBack", spec := "decodeBack", inPlace := ["internal/abi.NoEscape"], unfollowed := true, recurses := true, apart := false, narrowed := true }
def DecodeBackUptoSaid : Prop := decodeBackUptoRow.holds Try.pinned (OpenSpec.upto decodeBackSpec)

/-- 'reedbedlaw03.DecodeBegins', WHERE WHAT IT READS IS OF BULK AT MOST 1048576: true; the input reads as it did. -/
def decodeBeginsUptoRow : OpenClaim := { program := "ytoagjhhdijebmaa", sum := "89f915fe498641184439911c62dcae0b62edaa66574ec73845c065f6d0f6f419", func := "reedbed/reedbedlaw03.DecodeBegins", spec := "decodeBegins", inPlace := ["internal/abi.NoEscape"], unfollowed := true, recurses := true, apart := false, narrowed := true }
def DecodeBeginsUptoSaid : Prop := decodeBeginsUptoRow.holds Try.pinned (OpenSpec.upto decodeBeginsSpec)

end Rows
end Go.Proofs.Ytoagjhhdijebmaa
