/-
  DERIVED. GIVEN WITH THE SEED: THE CARDS: each row of YtpodpdopgdkdkaaGreatDoorRows.lean that lists a variable, with what it lists TIED to the program's text (the seventh form; the later family's looks); each row that meets fmt, with fmt's text TOLD by the authors' own Lean function (tested against real Go, not proved from fmt's source: count such statements apart). THE CARD IS WHAT COUNTS. Prove the row's statement (the work); the ties are given (YtpodpdopgdkdkaaGreatDoorTie.lean); close each card by the builder's one call (the guide's Derived/Test/ToyasCard.lean, 'card_holds'). Laid BY PROGRAM, IN A SANDBOX (cutbox-door.mjs). By AI agents, Wed Nov 11 2026. No macro, syntax, notation, axiom, sorry.
-/
import Derived.Test.YtpodpdopgdkdkaaGreatDoorRows
import GoSem.ClaimSeven
namespace Go.Proofs.YtpodpdopgdkdkaaGreatDoor
namespace Rows

/-- THE TIED CARD OF 'caliperlaw10.FixedWrites'. -/
def fixedWritesCard : Claim7 := { stood := { row := fixedWritesRow, standIns := [], harness := (true, "8981f295169296fa94e19a575af4a2f579059cfe351348259647f474cff89af0"), looks := false }, kinds := [], alts := [], laidByText := true, laidKinds := [.data, .data, .data], laidTests := true, laidLooks := .later }
def FixedWritesCardSaid : Prop := Claim7.holds Tryz.pinned (.plain (OpenSpec.ofChange fixedWritesSpec)) fixedWritesCard

/-- THE TIED CARD OF 'caliperlaw10.FixedNear'. -/
def fixedNearCard : Claim7 := { stood := { row := fixedNearRow, standIns := [], harness := (true, "8981f295169296fa94e19a575af4a2f579059cfe351348259647f474cff89af0"), looks := false }, kinds := [], alts := [], laidByText := true, laidKinds := [.data, .data, .data], laidTests := true, laidLooks := .later }
def FixedNearCardSaid : Prop := Claim7.holds Tryz.pinned (.plain (OpenSpec.ofChange fixedNearSpec)) fixedNearCard

/-- THE TIED CARD OF 'caliperlaw10.FixedSides'. -/
def fixedSidesCard : Claim7 := { stood := { row := fixedSidesRow, standIns := [], harness := (true, "8981f295169296fa94e19a575af4a2f579059cfe351348259647f474cff89af0"), looks := false }, kinds := [], alts := [], laidByText := true, laidKinds := [.data, .data, .data], laidTests := true, laidLooks := .later }
def FixedSidesCardSaid : Prop := Claim7.holds Tryz.pinned (.plain (OpenSpec.ofChange fixedSidesSpec)) fixedSidesCard

/-- THE TIED CARD OF 'caliperlaw10.FixedExact'. -/
def fixedExactCard : Claim7 := { stood := { row := fixedExactRow, standIns := [], harness := (true, "8981f295169296fa94e19a575af4a2f579059cfe351348259647f474cff89af0"), looks := false }, kinds := [], alts := [], laidByText := true, laidKinds := [.data, .data, .data, .data, .pinned], laidTests := true, laidLooks := .later }
def FixedExactCardSaid : Prop := Claim7.holds Tryz.pinned (.plain (OpenSpec.ofChange fixedExactSpec)) fixedExactCard

/-- THE TIED CARD OF 'caliperlaw10.FixedAll'. -/
def fixedAllCard : Claim7 := { stood := { row := fixedAllRow, standIns := [], harness := (true, "8981f295169296fa94e19a575af4a2f579059cfe351348259647f474cff89af0"), looks := false }, kinds := [], alts := [], laidByText := true, laidKinds := [.data, .data, .data, .data, .pinned], laidTests := true, laidLooks := .later }
def FixedAllCardSaid : Prop := Claim7.holds Tryz.pinned (.plain (OpenSpec.ofChange fixedAllSpec)) fixedAllCard

/-- THE SECOND FORM's CARD OF 'caliperlaw10.FixedWrites'. -/
def fixedWritesUptoCard : Claim7 := { stood := { row := fixedWritesUptoRow, standIns := [], harness := (true, "8981f295169296fa94e19a575af4a2f579059cfe351348259647f474cff89af0"), looks := false }, kinds := [], alts := [], laidByText := true, laidKinds := [.data, .data, .data], laidTests := true, laidLooks := .later }
def FixedWritesUptoCardSaid : Prop := Claim7.holds Tryz.pinned (.plain (OpenSpec.upto fixedWritesSpec)) fixedWritesUptoCard

/-- THE SECOND FORM's CARD OF 'caliperlaw10.FixedNear'. -/
def fixedNearUptoCard : Claim7 := { stood := { row := fixedNearUptoRow, standIns := [], harness := (true, "8981f295169296fa94e19a575af4a2f579059cfe351348259647f474cff89af0"), looks := false }, kinds := [], alts := [], laidByText := true, laidKinds := [.data, .data, .data], laidTests := true, laidLooks := .later }
def FixedNearUptoCardSaid : Prop := Claim7.holds Tryz.pinned (.plain (OpenSpec.upto fixedNearSpec)) fixedNearUptoCard

/-- THE SECOND FORM's CARD OF 'caliperlaw10.FixedSides'. -/
def fixedSidesUptoCard : Claim7 := { stood := { row := fixedSidesUptoRow, standIns := [], harness := (true, "8981f295169296fa94e19a575af4a2f579059cfe351348259647f474cff89af0"), looks := false }, kinds := [], alts := [], laidByText := true, laidKinds := [.data, .data, .data], laidTests := true, laidLooks := .later }
def FixedSidesUptoCardSaid : Prop := Claim7.holds Tryz.pinned (.plain (OpenSpec.upto fixedSidesSpec)) fixedSidesUptoCard

/-- THE SECOND FORM's CARD OF 'caliperlaw10.FixedExact'. -/
def fixedExactUptoCard : Claim7 := { stood := { row := fixedExactUptoRow, standIns := [], harness := (true, "8981f295169296fa94e19a575af4a2f579059cfe351348259647f474cff89af0"), looks := false }, kinds := [], alts := [], laidByText := true, laidKinds := [.data, .data, .data, .data, .pinned], laidTests := true, laidLooks := .later }
def FixedExactUptoCardSaid : Prop := Claim7.holds Tryz.pinned (.plain (OpenSpec.upto fixedExactSpec)) fixedExactUptoCard

/-- THE SECOND FORM's CARD OF 'caliperlaw10.FixedAll'. -/
def fixedAllUptoCard : Claim7 := { stood := { row := fixedAllUptoRow, standIns := [], harness := (true, "8981f295169296fa94e19a575af4a2f579059cfe351348259647f474cff89af0"), looks := false }, kinds := [], alts := [], laidByText := true, laidKinds := [.data, .data, .data, .data, .pinned], laidTests := true, laidLooks := .later }
def FixedAllUptoCardSaid : Prop := Claim7.holds Tryz.pinned (.plain (OpenSpec.upto fixedAllSpec)) fixedAllUptoCard
end Rows
end Go.Proofs.YtpodpdopgdkdkaaGreatDoor
