/-
  DERIVED. GIVEN WITH THE SEED: THE CARDS: each row of YtoikoeileilegaaDoorRows.lean that lists a variable, with what it lists TIED to the program's text (the seventh form; the later family's looks); each row that meets fmt, with fmt's text TOLD by the authors' own Lean function (tested against real Go, not proved from fmt's source: count such statements apart). THE CARD IS WHAT COUNTS. Prove the row's statement (the work); the ties are given (YtoikoeileilegaaDoorTie.lean); close each card by the builder's one call (the guide's Derived/Test/ToyasCard.lean, 'card_holds'). Laid BY PROGRAM, IN A SANDBOX (cutbox-door.mjs). By AI agents, Wed Nov 11 2026. No macro, syntax, notation, axiom, sorry.
-/
import Derived.Test.YtoikoeileilegaaDoorRows
import GoSem.ClaimSeven
namespace Go.Proofs.YtoikoeileilegaaDoor
namespace Rows

/-- THE TIED CARD OF 'caliperlaw02.NatMuls'. -/
def natMulsCard : Claim7 := { stood := { row := natMulsRow, standIns := [], harness := (true, "53ab1a24952d689ffb2508611e409564883b5d0d8ffcf0662ed8cb548e70737b"), looks := true }, kinds := [], alts := [], laidByText := true, laidKinds := [.data, .data, .data], laidTests := true, laidLooks := .later }
def NatMulsCardSaid : Prop := Claim7.holds Tryd.pinned (.plain (OpenSpec.ofChange natMulsSpec)) natMulsCard

/-- THE TIED CARD OF 'caliperlaw02.NatShifts'. -/
def natShiftsCard : Claim7 := { stood := { row := natShiftsRow, standIns := [], harness := (true, "53ab1a24952d689ffb2508611e409564883b5d0d8ffcf0662ed8cb548e70737b"), looks := true }, kinds := [], alts := [], laidByText := true, laidKinds := [.data, .data, .data], laidTests := true, laidLooks := .later }
def NatShiftsCardSaid : Prop := Claim7.holds Tryd.pinned (.plain (OpenSpec.ofChange natShiftsSpec)) natShiftsCard

/-- THE TIED CARD OF 'caliperlaw02.NatLaws'. -/
def natLawsCard : Claim7 := { stood := { row := natLawsRow, standIns := [], harness := (true, "53ab1a24952d689ffb2508611e409564883b5d0d8ffcf0662ed8cb548e70737b"), looks := true }, kinds := [], alts := [], laidByText := true, laidKinds := [.data, .data, .data], laidTests := true, laidLooks := .later }
def NatLawsCardSaid : Prop := Claim7.holds Tryd.pinned (.plain (OpenSpec.ofChange natLawsSpec)) natLawsCard

/-- THE TIED CARD OF 'caliperlaw02.NatPowers'. -/
def natPowersCard : Claim7 := { stood := { row := natPowersRow, standIns := [], harness := (true, "53ab1a24952d689ffb2508611e409564883b5d0d8ffcf0662ed8cb548e70737b"), looks := true }, kinds := [], alts := [], laidByText := true, laidKinds := [.data, .data, .data], laidTests := true, laidLooks := .later }
def NatPowersCardSaid : Prop := Claim7.holds Tryd.pinned (.plain (OpenSpec.ofChange natPowersSpec)) natPowersCard

/-- THE TIED CARD OF 'caliperlaw02.NatAdds'. -/
def natAddsCard : Claim7 := { stood := { row := natAddsRow, standIns := [], harness := (true, "53ab1a24952d689ffb2508611e409564883b5d0d8ffcf0662ed8cb548e70737b"), looks := true }, kinds := [], alts := [], laidByText := true, laidKinds := [.data, .data, .data], laidTests := true, laidLooks := .later }
def NatAddsCardSaid : Prop := Claim7.holds Tryd.pinned (.plain (OpenSpec.ofChange natAddsSpec)) natAddsCard

/-- THE TIED CARD OF 'caliperlaw02.NatDivs'. -/
def natDivsCard : Claim7 := { stood := { row := natDivsRow, standIns := [], harness := (true, "53ab1a24952d689ffb2508611e409564883b5d0d8ffcf0662ed8cb548e70737b"), looks := true }, kinds := [], alts := [], laidByText := true, laidKinds := [.data, .data, .data], laidTests := true, laidLooks := .later }
def NatDivsCardSaid : Prop := Claim7.holds Tryd.pinned (.plain (OpenSpec.ofChange natDivsSpec)) natDivsCard

/-- THE TIED CARD OF 'caliperlaw02.NatBack'. -/
def natBackCard : Claim7 := { stood := { row := natBackRow, standIns := [], harness := (true, "53ab1a24952d689ffb2508611e409564883b5d0d8ffcf0662ed8cb548e70737b"), looks := true }, kinds := [], alts := [], laidByText := true, laidKinds := [.data, .data, .data], laidTests := true, laidLooks := .later }
def NatBackCardSaid : Prop := Claim7.holds Tryd.pinned (.plain (OpenSpec.ofChange natBackSpec)) natBackCard

/-- THE TIED CARD OF 'caliperlaw02.NatDigits'. -/
def natDigitsCard : Claim7 := { stood := { row := natDigitsRow, standIns := [], harness := (true, "53ab1a24952d689ffb2508611e409564883b5d0d8ffcf0662ed8cb548e70737b"), looks := true }, kinds := [], alts := [], laidByText := true, laidKinds := [.data, .data, .data, .data, .sentinel, .sentinel, .pinned], laidTests := true, laidLooks := .later }
def NatDigitsCardSaid : Prop := Claim7.holds Tryd.pinned (.plain (OpenSpec.ofChange natDigitsSpec)) natDigitsCard

/-- THE SECOND FORM's CARD OF 'caliperlaw02.NatMuls'. -/
def natMulsUptoCard : Claim7 := { stood := { row := natMulsUptoRow, standIns := [], harness := (true, "53ab1a24952d689ffb2508611e409564883b5d0d8ffcf0662ed8cb548e70737b"), looks := true }, kinds := [], alts := [], laidByText := true, laidKinds := [.data, .data, .data], laidTests := true, laidLooks := .later }
def NatMulsUptoCardSaid : Prop := Claim7.holds Tryd.pinned (.plain (OpenSpec.upto natMulsSpec)) natMulsUptoCard

/-- THE SECOND FORM's CARD OF 'caliperlaw02.NatShifts'. -/
def natShiftsUptoCard : Claim7 := { stood := { row := natShiftsUptoRow, standIns := [], harness := (true, "53ab1a24952d689ffb2508611e409564883b5d0d8ffcf0662ed8cb548e70737b"), looks := true }, kinds := [], alts := [], laidByText := true, laidKinds := [.data, .data, .data], laidTests := true, laidLooks := .later }
def NatShiftsUptoCardSaid : Prop := Claim7.holds Tryd.pinned (.plain (OpenSpec.upto natShiftsSpec)) natShiftsUptoCard

/-- THE SECOND FORM's CARD OF 'caliperlaw02.NatLaws'. -/
def natLawsUptoCard : Claim7 := { stood := { row := natLawsUptoRow, standIns := [], harness := (true, "53ab1a24952d689ffb2508611e409564883b5d0d8ffcf0662ed8cb548e70737b"), looks := true }, kinds := [], alts := [], laidByText := true, laidKinds := [.data, .data, .data], laidTests := true, laidLooks := .later }
def NatLawsUptoCardSaid : Prop := Claim7.holds Tryd.pinned (.plain (OpenSpec.upto natLawsSpec)) natLawsUptoCard

/-- THE SECOND FORM's CARD OF 'caliperlaw02.NatPowers'. -/
def natPowersUptoCard : Claim7 := { stood := { row := natPowersUptoRow, standIns := [], harness := (true, "53ab1a24952d689ffb2508611e409564883b5d0d8ffcf0662ed8cb548e70737b"), looks := true }, kinds := [], alts := [], laidByText := true, laidKinds := [.data, .data, .data], laidTests := true, laidLooks := .later }
def NatPowersUptoCardSaid : Prop := Claim7.holds Tryd.pinned (.plain (OpenSpec.upto natPowersSpec)) natPowersUptoCard

/-- THE SECOND FORM's CARD OF 'caliperlaw02.NatAdds'. -/
def natAddsUptoCard : Claim7 := { stood := { row := natAddsUptoRow, standIns := [], harness := (true, "53ab1a24952d689ffb2508611e409564883b5d0d8ffcf0662ed8cb548e70737b"), looks := true }, kinds := [], alts := [], laidByText := true, laidKinds := [.data, .data, .data], laidTests := true, laidLooks := .later }
def NatAddsUptoCardSaid : Prop := Claim7.holds Tryd.pinned (.plain (OpenSpec.upto natAddsSpec)) natAddsUptoCard

/-- THE SECOND FORM's CARD OF 'caliperlaw02.NatDivs'. -/
def natDivsUptoCard : Claim7 := { stood := { row := natDivsUptoRow, standIns := [], harness := (true, "53ab1a24952d689ffb2508611e409564883b5d0d8ffcf0662ed8cb548e70737b"), looks := true }, kinds := [], alts := [], laidByText := true, laidKinds := [.data, .data, .data], laidTests := true, laidLooks := .later }
def NatDivsUptoCardSaid : Prop := Claim7.holds Tryd.pinned (.plain (OpenSpec.upto natDivsSpec)) natDivsUptoCard

/-- THE SECOND FORM's CARD OF 'caliperlaw02.NatBack'. -/
def natBackUptoCard : Claim7 := { stood := { row := natBackUptoRow, standIns := [], harness := (true, "53ab1a24952d689ffb2508611e409564883b5d0d8ffcf0662ed8cb548e70737b"), looks := true }, kinds := [], alts := [], laidByText := true, laidKinds := [.data, .data, .data], laidTests := true, laidLooks := .later }
def NatBackUptoCardSaid : Prop := Claim7.holds Tryd.pinned (.plain (OpenSpec.upto natBackSpec)) natBackUptoCard

/-- THE SECOND FORM's CARD OF 'caliperlaw02.NatDigits'. -/
def natDigitsUptoCard : Claim7 := { stood := { row := natDigitsUptoRow, standIns := [], harness := (true, "53ab1a24952d689ffb2508611e409564883b5d0d8ffcf0662ed8cb548e70737b"), looks := true }, kinds := [], alts := [], laidByText := true, laidKinds := [.data, .data, .data, .data, .sentinel, .sentinel, .pinned], laidTests := true, laidLooks := .later }
def NatDigitsUptoCardSaid : Prop := Claim7.holds Tryd.pinned (.plain (OpenSpec.upto natDigitsSpec)) natDigitsUptoCard
end Rows
end Go.Proofs.YtoikoeileilegaaDoor
