/-
  DERIVED. GIVEN WITH THE SEED: THE CARDS: each row of YtiocdgehpiagjaaDoorRows.lean that lists a variable, with what it lists TIED to the program's text (the seventh form; the later family's looks); each row that meets fmt, with fmt's text TOLD by the authors' own Lean function (tested against real Go, not proved from fmt's source: count such statements apart). THE CARD IS WHAT COUNTS. Prove the row's statement (the work); the ties are given (YtiocdgehpiagjaaDoorTie.lean); close each card by the builder's one call (the guide's Derived/Test/ToyasCard.lean, 'card_holds'). Laid BY PROGRAM, IN A SANDBOX (cutbox-door.mjs). By AI agents, Wed Nov 11 2026. No macro, syntax, notation, axiom, sorry.
-/
import Derived.Test.YtiocdgehpiagjaaDoorRows
import GoSem.ClaimSeven
namespace Go.Proofs.YtiocdgehpiagjaaDoor
namespace Rows

/-- THE TIED CARD OF 'caliperlaw07.GrammarCuts'. -/
def grammarCutsCard : Claim7 := { stood := { row := grammarCutsRow, standIns := [], harness := (true, "567be835bcf76228881fcfa8d0cfdcd60c3689c66d2a887e2fad14f25561ef53"), looks := true }, kinds := [], alts := [], laidByText := true, laidKinds := [.data, .data, .data, .data, .sentinel, .sentinel, .pinned], laidTests := true, laidLooks := .later }
def GrammarCutsCardSaid : Prop := Claim7.holds Tryd.pinned (.plain (OpenSpec.ofChange grammarCutsSpec)) grammarCutsCard

/-- THE TIED CARD OF 'caliperlaw07.GrammarCases'. -/
def grammarCasesCard : Claim7 := { stood := { row := grammarCasesRow, standIns := [], harness := (true, "567be835bcf76228881fcfa8d0cfdcd60c3689c66d2a887e2fad14f25561ef53"), looks := true }, kinds := [], alts := [], laidByText := true, laidKinds := [.data, .data, .data, .data, .sentinel, .sentinel, .pinned], laidTests := true, laidLooks := .later }
def GrammarCasesCardSaid : Prop := Claim7.holds Tryd.pinned (.plain (OpenSpec.ofChange grammarCasesSpec)) grammarCasesCard

/-- THE TIED CARD OF 'caliperlaw07.GrammarNoughts'. -/
def grammarNoughtsCard : Claim7 := { stood := { row := grammarNoughtsRow, standIns := [], harness := (true, "567be835bcf76228881fcfa8d0cfdcd60c3689c66d2a887e2fad14f25561ef53"), looks := true }, kinds := [], alts := [], laidByText := true, laidKinds := [.data, .data, .data, .data, .sentinel, .sentinel, .pinned], laidTests := true, laidLooks := .later }
def GrammarNoughtsCardSaid : Prop := Claim7.holds Tryd.pinned (.plain (OpenSpec.ofChange grammarNoughtsSpec)) grammarNoughtsCard

/-- THE TIED CARD OF 'caliperlaw07.GrammarJoins'. -/
def grammarJoinsCard : Claim7 := { stood := { row := grammarJoinsRow, standIns := [], harness := (true, "567be835bcf76228881fcfa8d0cfdcd60c3689c66d2a887e2fad14f25561ef53"), looks := true }, kinds := [], alts := [], laidByText := true, laidKinds := [.data, .data, .data, .data, .sentinel, .sentinel, .pinned], laidTests := true, laidLooks := .later }
def GrammarJoinsCardSaid : Prop := Claim7.holds Tryd.pinned (.plain (OpenSpec.ofChange grammarJoinsSpec)) grammarJoinsCard

/-- THE TIED CARD OF 'caliperlaw07.GrammarBack'. -/
def grammarBackCard : Claim7 := { stood := { row := grammarBackRow, standIns := [], harness := (true, "567be835bcf76228881fcfa8d0cfdcd60c3689c66d2a887e2fad14f25561ef53"), looks := true }, kinds := [], alts := [], laidByText := true, laidKinds := [.data, .data, .data, .data, .sentinel, .sentinel, .pinned], laidTests := true, laidLooks := .later }
def GrammarBackCardSaid : Prop := Claim7.holds Tryd.pinned (.plain (OpenSpec.ofChange grammarBackSpec)) grammarBackCard

/-- THE SECOND FORM's CARD OF 'caliperlaw07.GrammarCuts'. -/
def grammarCutsUptoCard : Claim7 := { stood := { row := grammarCutsUptoRow, standIns := [], harness := (true, "567be835bcf76228881fcfa8d0cfdcd60c3689c66d2a887e2fad14f25561ef53"), looks := true }, kinds := [], alts := [], laidByText := true, laidKinds := [.data, .data, .data, .data, .sentinel, .sentinel, .pinned], laidTests := true, laidLooks := .later }
def GrammarCutsUptoCardSaid : Prop := Claim7.holds Tryd.pinned (.plain (OpenSpec.upto grammarCutsSpec)) grammarCutsUptoCard

/-- THE SECOND FORM's CARD OF 'caliperlaw07.GrammarCases'. -/
def grammarCasesUptoCard : Claim7 := { stood := { row := grammarCasesUptoRow, standIns := [], harness := (true, "567be835bcf76228881fcfa8d0cfdcd60c3689c66d2a887e2fad14f25561ef53"), looks := true }, kinds := [], alts := [], laidByText := true, laidKinds := [.data, .data, .data, .data, .sentinel, .sentinel, .pinned], laidTests := true, laidLooks := .later }
def GrammarCasesUptoCardSaid : Prop := Claim7.holds Tryd.pinned (.plain (OpenSpec.upto grammarCasesSpec)) grammarCasesUptoCard

/-- THE SECOND FORM's CARD OF 'caliperlaw07.GrammarNoughts'. -/
def grammarNoughtsUptoCard : Claim7 := { stood := { row := grammarNoughtsUptoRow, standIns := [], harness := (true, "567be835bcf76228881fcfa8d0cfdcd60c3689c66d2a887e2fad14f25561ef53"), looks := true }, kinds := [], alts := [], laidByText := true, laidKinds := [.data, .data, .data, .data, .sentinel, .sentinel, .pinned], laidTests := true, laidLooks := .later }
def GrammarNoughtsUptoCardSaid : Prop := Claim7.holds Tryd.pinned (.plain (OpenSpec.upto grammarNoughtsSpec)) grammarNoughtsUptoCard

/-- THE SECOND FORM's CARD OF 'caliperlaw07.GrammarJoins'. -/
def grammarJoinsUptoCard : Claim7 := { stood := { row := grammarJoinsUptoRow, standIns := [], harness := (true, "567be835bcf76228881fcfa8d0cfdcd60c3689c66d2a887e2fad14f25561ef53"), looks := true }, kinds := [], alts := [], laidByText := true, laidKinds := [.data, .data, .data, .data, .sentinel, .sentinel, .pinned], laidTests := true, laidLooks := .later }
def GrammarJoinsUptoCardSaid : Prop := Claim7.holds Tryd.pinned (.plain (OpenSpec.upto grammarJoinsSpec)) grammarJoinsUptoCard

/-- THE SECOND FORM's CARD OF 'caliperlaw07.GrammarBack'. -/
def grammarBackUptoCard : Claim7 := { stood := { row := grammarBackUptoRow, standIns := [], harness := (true, "567be835bcf76228881fcfa8d0cfdcd60c3689c66d2a887e2fad14f25561ef53"), looks := true }, kinds := [], alts := [], laidByText := true, laidKinds := [.data, .data, .data, .data, .sentinel, .sentinel, .pinned], laidTests := true, laidLooks := .later }
def GrammarBackUptoCardSaid : Prop := Claim7.holds Tryd.pinned (.plain (OpenSpec.upto grammarBackSpec)) grammarBackUptoCard
end Rows
end Go.Proofs.YtiocdgehpiagjaaDoor
