/-
  DERIVED. GIVEN WITH THE SEED: THE CARDS: each row of YtgmegfcjbnfnaaaGreatDoorRows.lean that lists a variable, with what it lists TIED to the program's text (the seventh form; the later family's looks); each row that meets fmt, with fmt's text TOLD by the authors' own Lean function (tested against real Go, not proved from fmt's source: count such statements apart). THE CARD IS WHAT COUNTS. Prove the row's statement (the work); the ties are given (YtgmegfcjbnfnaaaGreatDoorTie.lean); close each card by the builder's one call (the guide's Derived/Test/ToyasCard.lean, 'card_holds'). Laid BY PROGRAM, IN A SANDBOX (cutbox-door.mjs). By AI agents, Wed Nov 11 2026. No macro, syntax, notation, axiom, sorry.
-/
import Derived.Test.YtgmegfcjbnfnaaaGreatDoorRows
import GoSem.ClaimSeven
namespace Go.Proofs.YtgmegfcjbnfnaaaGreatDoor
namespace Rows

/-- THE TIED CARD OF 'metrolablaw57.CapabilityMeasures'. -/
def capabilityMeasuresCard : Claim7 := { stood := { row := capabilityMeasuresRow, standIns := [], harness := (true, "55ac42c2fb987e375d79621de8aa858a6e8e30bb8a7df803310ae96f31e596a9"), looks := true }, kinds := [], alts := [], laidByText := true, laidKinds := [.data, .data, .data, .data, .sentinel, .sentinel, .pinned], laidTests := true, laidLooks := .later }
def CapabilityMeasuresCardSaid : Prop := Claim7.holds Tryz.pinned (.plain (OpenSpec.ofChange capabilityMeasuresSpec)) capabilityMeasuresCard

/-- THE TIED CARD OF 'metrolablaw57.CapabilityJudges'. -/
def capabilityJudgesCard : Claim7 := { stood := { row := capabilityJudgesRow, standIns := [], harness := (true, "55ac42c2fb987e375d79621de8aa858a6e8e30bb8a7df803310ae96f31e596a9"), looks := true }, kinds := [], alts := [], laidByText := true, laidKinds := [.data, .data, .data, .data, .sentinel, .sentinel, .pinned], laidTests := true, laidLooks := .later }
def CapabilityJudgesCardSaid : Prop := Claim7.holds Tryz.pinned (.plain (OpenSpec.ofChange capabilityJudgesSpec)) capabilityJudgesCard

/-- THE TIED CARD OF 'metrolablaw57.CapabilityCounts'. -/
def capabilityCountsCard : Claim7 := { stood := { row := capabilityCountsRow, standIns := [], harness := (true, "55ac42c2fb987e375d79621de8aa858a6e8e30bb8a7df803310ae96f31e596a9"), looks := true }, kinds := [], alts := [], laidByText := true, laidKinds := [.data, .data, .data, .data, .sentinel, .sentinel, .pinned], laidTests := true, laidLooks := .later }
def CapabilityCountsCardSaid : Prop := Claim7.holds Tryz.pinned (.plain (OpenSpec.ofChange capabilityCountsSpec)) capabilityCountsCard

/-- THE TIED CARD OF 'metrolablaw57.CapabilityRuns'. -/
def capabilityRunsCard : Claim7 := { stood := { row := capabilityRunsRow, standIns := [], harness := (true, "55ac42c2fb987e375d79621de8aa858a6e8e30bb8a7df803310ae96f31e596a9"), looks := true }, kinds := [], alts := [], laidByText := true, laidKinds := [.data, .data, .data, .data, .sentinel, .sentinel, .pinned], laidTests := true, laidLooks := .later }
def CapabilityRunsCardSaid : Prop := Claim7.holds Tryz.pinned (.plain (OpenSpec.ofChange capabilityRunsSpec)) capabilityRunsCard

/-- THE TIED CARD OF 'metrolablaw57.CapabilityTotals'. -/
def capabilityTotalsCard : Claim7 := { stood := { row := capabilityTotalsRow, standIns := [], harness := (true, "55ac42c2fb987e375d79621de8aa858a6e8e30bb8a7df803310ae96f31e596a9"), looks := true }, kinds := [], alts := [], laidByText := true, laidKinds := [.data, .data, .data, .data, .sentinel, .sentinel, .pinned], laidTests := true, laidLooks := .later }
def CapabilityTotalsCardSaid : Prop := Claim7.holds Tryz.pinned (.plain (OpenSpec.ofChange capabilityTotalsSpec)) capabilityTotalsCard

/-- THE TIED CARD OF 'metrolablaw57.CapabilityGroups'. -/
def capabilityGroupsCard : Claim7 := { stood := { row := capabilityGroupsRow, standIns := [], harness := (true, "55ac42c2fb987e375d79621de8aa858a6e8e30bb8a7df803310ae96f31e596a9"), looks := true }, kinds := [], alts := [], laidByText := true, laidKinds := [.data, .data, .data, .data, .sentinel, .sentinel, .pinned], laidTests := true, laidLooks := .later }
def CapabilityGroupsCardSaid : Prop := Claim7.holds Tryz.pinned (.plain (OpenSpec.ofChange capabilityGroupsSpec)) capabilityGroupsCard

/-- THE TIED CARD OF 'metrolablaw57.CapabilityCenters'. -/
def capabilityCentersCard : Claim7 := { stood := { row := capabilityCentersRow, standIns := [], harness := (true, "55ac42c2fb987e375d79621de8aa858a6e8e30bb8a7df803310ae96f31e596a9"), looks := true }, kinds := [], alts := [], laidByText := true, laidKinds := [.data, .data, .data, .data, .sentinel, .sentinel, .pinned], laidTests := true, laidLooks := .later }
def CapabilityCentersCardSaid : Prop := Claim7.holds Tryz.pinned (.plain (OpenSpec.ofChange capabilityCentersSpec)) capabilityCentersCard

/-- THE SECOND FORM's CARD OF 'metrolablaw57.CapabilityMeasures'. -/
def capabilityMeasuresUptoCard : Claim7 := { stood := { row := capabilityMeasuresUptoRow, standIns := [], harness := (true, "55ac42c2fb987e375d79621de8aa858a6e8e30bb8a7df803310ae96f31e596a9"), looks := true }, kinds := [], alts := [], laidByText := true, laidKinds := [.data, .data, .data, .data, .sentinel, .sentinel, .pinned], laidTests := true, laidLooks := .later }
def CapabilityMeasuresUptoCardSaid : Prop := Claim7.holds Tryz.pinned (.plain (OpenSpec.upto capabilityMeasuresSpec)) capabilityMeasuresUptoCard

/-- THE SECOND FORM's CARD OF 'metrolablaw57.CapabilityJudges'. -/
def capabilityJudgesUptoCard : Claim7 := { stood := { row := capabilityJudgesUptoRow, standIns := [], harness := (true, "55ac42c2fb987e375d79621de8aa858a6e8e30bb8a7df803310ae96f31e596a9"), looks := true }, kinds := [], alts := [], laidByText := true, laidKinds := [.data, .data, .data, .data, .sentinel, .sentinel, .pinned], laidTests := true, laidLooks := .later }
def CapabilityJudgesUptoCardSaid : Prop := Claim7.holds Tryz.pinned (.plain (OpenSpec.upto capabilityJudgesSpec)) capabilityJudgesUptoCard

/-- THE SECOND FORM's CARD OF 'metrolablaw57.CapabilityCounts'. -/
def capabilityCountsUptoCard : Claim7 := { stood := { row := capabilityCountsUptoRow, standIns := [], harness := (true, "55ac42c2fb987e375d79621de8aa858a6e8e30bb8a7df803310ae96f31e596a9"), looks := true }, kinds := [], alts := [], laidByText := true, laidKinds := [.data, .data, .data, .data, .sentinel, .sentinel, .pinned], laidTests := true, laidLooks := .later }
def CapabilityCountsUptoCardSaid : Prop := Claim7.holds Tryz.pinned (.plain (OpenSpec.upto capabilityCountsSpec)) capabilityCountsUptoCard

/-- THE SECOND FORM's CARD OF 'metrolablaw57.CapabilityRuns'. -/
def capabilityRunsUptoCard : Claim7 := { stood := { row := capabilityRunsUptoRow, standIns := [], harness := (true, "55ac42c2fb987e375d79621de8aa858a6e8e30bb8a7df803310ae96f31e596a9"), looks := true }, kinds := [], alts := [], laidByText := true, laidKinds := [.data, .data, .data, .data, .sentinel, .sentinel, .pinned], laidTests := true, laidLooks := .later }
def CapabilityRunsUptoCardSaid : Prop := Claim7.holds Tryz.pinned (.plain (OpenSpec.upto capabilityRunsSpec)) capabilityRunsUptoCard

/-- THE SECOND FORM's CARD OF 'metrolablaw57.CapabilityTotals'. -/
def capabilityTotalsUptoCard : Claim7 := { stood := { row := capabilityTotalsUptoRow, standIns := [], harness := (true, "55ac42c2fb987e375d79621de8aa858a6e8e30bb8a7df803310ae96f31e596a9"), looks := true }, kinds := [], alts := [], laidByText := true, laidKinds := [.data, .data, .data, .data, .sentinel, .sentinel, .pinned], laidTests := true, laidLooks := .later }
def CapabilityTotalsUptoCardSaid : Prop := Claim7.holds Tryz.pinned (.plain (OpenSpec.upto capabilityTotalsSpec)) capabilityTotalsUptoCard

/-- THE SECOND FORM's CARD OF 'metrolablaw57.CapabilityGroups'. -/
def capabilityGroupsUptoCard : Claim7 := { stood := { row := capabilityGroupsUptoRow, standIns := [], harness := (true, "55ac42c2fb987e375d79621de8aa858a6e8e30bb8a7df803310ae96f31e596a9"), looks := true }, kinds := [], alts := [], laidByText := true, laidKinds := [.data, .data, .data, .data, .sentinel, .sentinel, .pinned], laidTests := true, laidLooks := .later }
def CapabilityGroupsUptoCardSaid : Prop := Claim7.holds Tryz.pinned (.plain (OpenSpec.upto capabilityGroupsSpec)) capabilityGroupsUptoCard

/-- THE SECOND FORM's CARD OF 'metrolablaw57.CapabilityCenters'. -/
def capabilityCentersUptoCard : Claim7 := { stood := { row := capabilityCentersUptoRow, standIns := [], harness := (true, "55ac42c2fb987e375d79621de8aa858a6e8e30bb8a7df803310ae96f31e596a9"), looks := true }, kinds := [], alts := [], laidByText := true, laidKinds := [.data, .data, .data, .data, .sentinel, .sentinel, .pinned], laidTests := true, laidLooks := .later }
def CapabilityCentersUptoCardSaid : Prop := Claim7.holds Tryz.pinned (.plain (OpenSpec.upto capabilityCentersSpec)) capabilityCentersUptoCard
end Rows
end Go.Proofs.YtgmegfcjbnfnaaaGreatDoor
