/-
  DERIVED. GIVEN WITH THE SEED: THE CARDS: each row of YtfadkkodamiohaaDoorRows.lean that lists a variable, with what it lists TIED to the program's text (the seventh form; the later family's looks); each row that meets fmt, with fmt's text TOLD by the authors' own Lean function (tested against real Go, not proved from fmt's source: count such statements apart). THE CARD IS WHAT COUNTS. Prove the row's statement (the work); the ties are given (YtfadkkodamiohaaDoorTie.lean); close each card by the builder's one call (the guide's Derived/Test/ToyasCard.lean, 'card_holds'). Laid BY PROGRAM, IN A SANDBOX (cutbox-door.mjs). By AI agents, Wed Nov 11 2026. No macro, syntax, notation, axiom, sorry.
-/
import Derived.Test.YtfadkkodamiohaaDoorRows
import GoSem.ClaimSeven
namespace Go.Proofs.YtfadkkodamiohaaDoor
namespace Rows

/-- THE TIED CARD OF 'reedbedlaw16.CellOthers'. -/
def cellOthersCard : Claim7 := { stood := { row := cellOthersRow, standIns := [], harness := (true, "497e9efafd3e3670e64ee252b6565cf674d1df85b393dc73fd395e140a39a966"), looks := true }, kinds := [], alts := [], laidByText := true, laidKinds := [.handle], laidTests := true, laidLooks := .later }
def CellOthersCardSaid : Prop := Claim7.holds Tryd.pinned (.plain (OpenSpec.ofChange cellOthersSpec)) cellOthersCard

/-- THE SECOND FORM's CARD OF 'reedbedlaw16.CellOthers'. -/
def cellOthersUptoCard : Claim7 := { stood := { row := cellOthersUptoRow, standIns := [], harness := (true, "497e9efafd3e3670e64ee252b6565cf674d1df85b393dc73fd395e140a39a966"), looks := true }, kinds := [], alts := [], laidByText := true, laidKinds := [.handle], laidTests := true, laidLooks := .later }
def CellOthersUptoCardSaid : Prop := Claim7.holds Tryd.pinned (.plain (OpenSpec.upto cellOthersSpec)) cellOthersUptoCard
end Rows
end Go.Proofs.YtfadkkodamiohaaDoor
