/-
  DERIVED. GIVEN WITH THE SEED: THE CARDS: each row of YtbgmdjceecbbhaaDoorRows.lean that lists a variable, with what it lists TIED to the program's text (the seventh form; the later family's looks); each row that meets fmt, with fmt's text TOLD by the authors' own Lean function (tested against real Go, not proved from fmt's source: count such statements apart). THE CARD IS WHAT COUNTS. Prove the row's statement (the work); the ties are given (YtbgmdjceecbbhaaDoorTie.lean); close each card by the builder's one call (the guide's Derived/Test/ToyasCard.lean, 'card_holds'). Laid BY PROGRAM, IN A SANDBOX (cutbox-door.mjs). By AI agents, Wed Nov 11 2026. No macro, syntax, notation, axiom, sorry.
-/
import Derived.Test.YtbgmdjceecbbhaaDoorRows
import GoSem.ClaimSeven
namespace Go.Proofs.YtbgmdjceecbbhaaDoor
namespace Rows

/-- THE TIED CARD OF 'reedbedlaw18.ModeOnce'. -/
def modeOnceCard : Claim7 := { stood := { row := modeOnceRow, standIns := [], harness := (true, "55fc2e9c241b41ec09e520aade4f0245a121e608c5f7c3b00bfeeccea9c80834"), looks := false }, kinds := [], alts := [], laidByText := true, laidKinds := [.data, .data, .data], laidTests := true, laidLooks := .later }
def ModeOnceCardSaid : Prop := Claim7.holds Tryd.pinned (.plain (OpenSpec.ofChange modeOnceSpec)) modeOnceCard

/-- THE TIED CARD OF 'reedbedlaw18.ModeCounts'. -/
def modeCountsCard : Claim7 := { stood := { row := modeCountsRow, standIns := [], harness := (true, "55fc2e9c241b41ec09e520aade4f0245a121e608c5f7c3b00bfeeccea9c80834"), looks := false }, kinds := [], alts := [], laidByText := true, laidKinds := [.data, .data, .data], laidTests := true, laidLooks := .later }
def ModeCountsCardSaid : Prop := Claim7.holds Tryd.pinned (.plain (OpenSpec.ofChange modeCountsSpec)) modeCountsCard

/-- THE TIED CARD OF 'reedbedlaw18.ModeFirst'. -/
def modeFirstCard : Claim7 := { stood := { row := modeFirstRow, standIns := [], harness := (true, "55fc2e9c241b41ec09e520aade4f0245a121e608c5f7c3b00bfeeccea9c80834"), looks := false }, kinds := [], alts := [], laidByText := true, laidKinds := [.data, .data, .data], laidTests := true, laidLooks := .later }
def ModeFirstCardSaid : Prop := Claim7.holds Tryd.pinned (.plain (OpenSpec.ofChange modeFirstSpec)) modeFirstCard

/-- THE TIED CARD OF 'reedbedlaw18.ModeLines'. -/
def modeLinesCard : Claim7 := { stood := { row := modeLinesRow, standIns := [], harness := (true, "55fc2e9c241b41ec09e520aade4f0245a121e608c5f7c3b00bfeeccea9c80834"), looks := false }, kinds := [], alts := [], laidByText := true, laidKinds := [.data, .data, .data], laidTests := true, laidLooks := .later }
def ModeLinesCardSaid : Prop := Claim7.holds Tryd.pinned (.plain (OpenSpec.ofChange modeLinesSpec)) modeLinesCard

/-- THE SECOND FORM's CARD OF 'reedbedlaw18.ModeOnce'. -/
def modeOnceUptoCard : Claim7 := { stood := { row := modeOnceUptoRow, standIns := [], harness := (true, "55fc2e9c241b41ec09e520aade4f0245a121e608c5f7c3b00bfeeccea9c80834"), looks := false }, kinds := [], alts := [], laidByText := true, laidKinds := [.data, .data, .data], laidTests := true, laidLooks := .later }
def ModeOnceUptoCardSaid : Prop := Claim7.holds Tryd.pinned (.plain (OpenSpec.upto modeOnceSpec)) modeOnceUptoCard

/-- THE SECOND FORM's CARD OF 'reedbedlaw18.ModeCounts'. -/
def modeCountsUptoCard : Claim7 := { stood := { row := modeCountsUptoRow, standIns := [], harness := (true, "55fc2e9c241b41ec09e520aade4f0245a121e608c5f7c3b00bfeeccea9c80834"), looks := false }, kinds := [], alts := [], laidByText := true, laidKinds := [.data, .data, .data], laidTests := true, laidLooks := .later }
def ModeCountsUptoCardSaid : Prop := Claim7.holds Tryd.pinned (.plain (OpenSpec.upto modeCountsSpec)) modeCountsUptoCard

/-- THE SECOND FORM's CARD OF 'reedbedlaw18.ModeFirst'. -/
def modeFirstUptoCard : Claim7 := { stood := { row := modeFirstUptoRow, standIns := [], harness := (true, "55fc2e9c241b41ec09e520aade4f0245a121e608c5f7c3b00bfeeccea9c80834"), looks := false }, kinds := [], alts := [], laidByText := true, laidKinds := [.data, .data, .data], laidTests := true, laidLooks := .later }
def ModeFirstUptoCardSaid : Prop := Claim7.holds Tryd.pinned (.plain (OpenSpec.upto modeFirstSpec)) modeFirstUptoCard

/-- THE SECOND FORM's CARD OF 'reedbedlaw18.ModeLines'. -/
def modeLinesUptoCard : Claim7 := { stood := { row := modeLinesUptoRow, standIns := [], harness := (true, "55fc2e9c241b41ec09e520aade4f0245a121e608c5f7c3b00bfeeccea9c80834"), looks := false }, kinds := [], alts := [], laidByText := true, laidKinds := [.data, .data, .data], laidTests := true, laidLooks := .later }
def ModeLinesUptoCardSaid : Prop := Claim7.holds Tryd.pinned (.plain (OpenSpec.upto modeLinesSpec)) modeLinesUptoCard
end Rows
end Go.Proofs.YtbgmdjceecbbhaaDoor
