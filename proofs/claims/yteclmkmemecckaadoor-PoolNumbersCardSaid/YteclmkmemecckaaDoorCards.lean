/-
  DERIVED. GIVEN WITH THE SEED: THE CARDS: each row of YteclmkmemecckaaDoorRows.lean that lists a variable, with what it lists TIED to the program's text (the seventh form; the later family's looks); each row that meets fmt, with fmt's text TOLD by the authors' own Lean function (tested against real Go, not proved from fmt's source: count such statements apart). THE CARD IS WHAT COUNTS. Prove the row's statement (the work); the ties are given (YteclmkmemecckaaDoorTie.lean); close each card by the builder's one call (the guide's Derived/Test/ToyasCard.lean, 'card_holds'). Laid BY PROGRAM, IN A SANDBOX (cutbox-door.mjs). By AI agents, Wed Nov 11 2026. No macro, syntax, notation, axiom, sorry.
-/
import Derived.Test.YteclmkmemecckaaDoorRows
import GoSem.ClaimSeven
namespace Go.Proofs.YteclmkmemecckaaDoor
namespace Rows

/-- THE TIED CARD OF 'warpbeamlaw04.TopoKeeps'. -/
def topoKeepsCard : Claim7 := { stood := { row := topoKeepsRow, standIns := [], harness := (true, "7c9c10c5b7ed1e6dac9a4cdf8c03ed61ecbc21a4913e4533d192c4940aac939f"), looks := false }, kinds := [], alts := [], laidByText := true, laidKinds := [.data], laidTests := true, laidLooks := .later }
def TopoKeepsCardSaid : Prop := Claim7.holds Tryd.pinned (.plain (OpenSpec.ofChange topoKeepsSpec)) topoKeepsCard

/-- THE TIED CARD OF 'warpbeamlaw04.TopoRows'. -/
def topoRowsCard : Claim7 := { stood := { row := topoRowsRow, standIns := [], harness := (true, "7c9c10c5b7ed1e6dac9a4cdf8c03ed61ecbc21a4913e4533d192c4940aac939f"), looks := false }, kinds := [], alts := [], laidByText := true, laidKinds := [.data], laidTests := true, laidLooks := .later }
def TopoRowsCardSaid : Prop := Claim7.holds Tryd.pinned (.plain (OpenSpec.ofChange topoRowsSpec)) topoRowsCard

/-- THE TIED CARD OF 'warpbeamlaw04.TopoAgain'. -/
def topoAgainCard : Claim7 := { stood := { row := topoAgainRow, standIns := [], harness := (true, "7c9c10c5b7ed1e6dac9a4cdf8c03ed61ecbc21a4913e4533d192c4940aac939f"), looks := false }, kinds := [], alts := [], laidByText := true, laidKinds := [.data], laidTests := true, laidLooks := .later }
def TopoAgainCardSaid : Prop := Claim7.holds Tryd.pinned (.plain (OpenSpec.ofChange topoAgainSpec)) topoAgainCard

/-- THE TIED CARD OF 'warpbeamlaw04.TopoSorted'. -/
def topoSortedCard : Claim7 := { stood := { row := topoSortedRow, standIns := [], harness := (true, "7c9c10c5b7ed1e6dac9a4cdf8c03ed61ecbc21a4913e4533d192c4940aac939f"), looks := false }, kinds := [], alts := [], laidByText := true, laidKinds := [.data], laidTests := true, laidLooks := .later }
def TopoSortedCardSaid : Prop := Claim7.holds Tryd.pinned (.plain (OpenSpec.ofChange topoSortedSpec)) topoSortedCard

/-- THE TIED CARD OF 'warpbeamlaw04.TopoRefuses'. -/
def topoRefusesCard : Claim7 := { stood := { row := topoRefusesRow, standIns := [], harness := (true, "7c9c10c5b7ed1e6dac9a4cdf8c03ed61ecbc21a4913e4533d192c4940aac939f"), looks := false }, kinds := [], alts := [], laidByText := true, laidKinds := [.data], laidTests := true, laidLooks := .later }
def TopoRefusesCardSaid : Prop := Claim7.holds Tryd.pinned (.plain (OpenSpec.ofChange topoRefusesSpec)) topoRefusesCard

/-- THE TIED CARD OF 'warpbeamlaw05.PoolActs'. -/
def poolActsCard : Claim7 := { stood := { row := poolActsRow, standIns := [], harness := (true, "7c9c10c5b7ed1e6dac9a4cdf8c03ed61ecbc21a4913e4533d192c4940aac939f"), looks := false }, kinds := [], alts := [], laidByText := true, laidKinds := [.data], laidTests := true, laidLooks := .later }
def PoolActsCardSaid : Prop := Claim7.holds Tryd.pinned (.plain (OpenSpec.ofChange poolActsSpec)) poolActsCard

/-- THE TIED CARD OF 'warpbeamlaw05.PoolGoes'. -/
def poolGoesCard : Claim7 := { stood := { row := poolGoesRow, standIns := [], harness := (true, "7c9c10c5b7ed1e6dac9a4cdf8c03ed61ecbc21a4913e4533d192c4940aac939f"), looks := false }, kinds := [], alts := [], laidByText := true, laidKinds := [.data], laidTests := true, laidLooks := .later }
def PoolGoesCardSaid : Prop := Claim7.holds Tryd.pinned (.plain (OpenSpec.ofChange poolGoesSpec)) poolGoesCard

/-- THE TIED CARD OF 'warpbeamlaw05.PoolNumbers'. -/
def poolNumbersCard : Claim7 := { stood := { row := poolNumbersRow, standIns := [], harness := (true, "7c9c10c5b7ed1e6dac9a4cdf8c03ed61ecbc21a4913e4533d192c4940aac939f"), looks := false }, kinds := [], alts := [], laidByText := true, laidKinds := [.data], laidTests := true, laidLooks := .later }
def PoolNumbersCardSaid : Prop := Claim7.holds Tryd.pinned (.plain (OpenSpec.ofChange poolNumbersSpec)) poolNumbersCard

/-- THE TIED CARD OF 'warpbeamlaw05.PoolRoom'. -/
def poolRoomCard : Claim7 := { stood := { row := poolRoomRow, standIns := [], harness := (true, "7c9c10c5b7ed1e6dac9a4cdf8c03ed61ecbc21a4913e4533d192c4940aac939f"), looks := false }, kinds := [], alts := [], laidByText := true, laidKinds := [.data], laidTests := true, laidLooks := .later }
def PoolRoomCardSaid : Prop := Claim7.holds Tryd.pinned (.plain (OpenSpec.ofChange poolRoomSpec)) poolRoomCard

/-- THE TIED CARD OF 'warpbeamlaw05.PoolEdges'. -/
def poolEdgesCard : Claim7 := { stood := { row := poolEdgesRow, standIns := [], harness := (true, "7c9c10c5b7ed1e6dac9a4cdf8c03ed61ecbc21a4913e4533d192c4940aac939f"), looks := false }, kinds := [], alts := [], laidByText := true, laidKinds := [.data], laidTests := true, laidLooks := .later }
def PoolEdgesCardSaid : Prop := Claim7.holds Tryd.pinned (.plain (OpenSpec.ofChange poolEdgesSpec)) poolEdgesCard

/-- THE TIED CARD OF 'warpbeamlaw05.PoolTime'. -/
def poolTimeCard : Claim7 := { stood := { row := poolTimeRow, standIns := [], harness := (true, "7c9c10c5b7ed1e6dac9a4cdf8c03ed61ecbc21a4913e4533d192c4940aac939f"), looks := false }, kinds := [], alts := [], laidByText := true, laidKinds := [.data], laidTests := true, laidLooks := .later }
def PoolTimeCardSaid : Prop := Claim7.holds Tryd.pinned (.plain (OpenSpec.ofChange poolTimeSpec)) poolTimeCard

/-- THE SECOND FORM's CARD OF 'warpbeamlaw04.TopoKeeps'. -/
def topoKeepsUptoCard : Claim7 := { stood := { row := topoKeepsUptoRow, standIns := [], harness := (true, "7c9c10c5b7ed1e6dac9a4cdf8c03ed61ecbc21a4913e4533d192c4940aac939f"), looks := false }, kinds := [], alts := [], laidByText := true, laidKinds := [.data], laidTests := true, laidLooks := .later }
def TopoKeepsUptoCardSaid : Prop := Claim7.holds Tryd.pinned (.plain (OpenSpec.upto topoKeepsSpec)) topoKeepsUptoCard

/-- THE SECOND FORM's CARD OF 'warpbeamlaw04.TopoRows'. -/
def topoRowsUptoCard : Claim7 := { stood := { row := topoRowsUptoRow, standIns := [], harness := (true, "7c9c10c5b7ed1e6dac9a4cdf8c03ed61ecbc21a4913e4533d192c4940aac939f"), looks := false }, kinds := [], alts := [], laidByText := true, laidKinds := [.data], laidTests := true, laidLooks := .later }
def TopoRowsUptoCardSaid : Prop := Claim7.holds Tryd.pinned (.plain (OpenSpec.upto topoRowsSpec)) topoRowsUptoCard

/-- THE SECOND FORM's CARD OF 'warpbeamlaw04.TopoAgain'. -/
def topoAgainUptoCard : Claim7 := { stood := { row := topoAgainUptoRow, standIns := [], harness := (true, "7c9c10c5b7ed1e6dac9a4cdf8c03ed61ecbc21a4913e4533d192c4940aac939f"), looks := false }, kinds := [], alts := [], laidByText := true, laidKinds := [.data], laidTests := true, laidLooks := .later }
def TopoAgainUptoCardSaid : Prop := Claim7.holds Tryd.pinned (.plain (OpenSpec.upto topoAgainSpec)) topoAgainUptoCard

/-- THE SECOND FORM's CARD OF 'warpbeamlaw04.TopoSorted'. -/
def topoSortedUptoCard : Claim7 := { stood := { row := topoSortedUptoRow, standIns := [], harness := (true, "7c9c10c5b7ed1e6dac9a4cdf8c03ed61ecbc21a4913e4533d192c4940aac939f"), looks := false }, kinds := [], alts := [], laidByText := true, laidKinds := [.data], laidTests := true, laidLooks := .later }
def TopoSortedUptoCardSaid : Prop := Claim7.holds Tryd.pinned (.plain (OpenSpec.upto topoSortedSpec)) topoSortedUptoCard

/-- THE SECOND FORM's CARD OF 'warpbeamlaw04.TopoRefuses'. -/
def topoRefusesUptoCard : Claim7 := { stood := { row := topoRefusesUptoRow, standIns := [], harness := (true, "7c9c10c5b7ed1e6dac9a4cdf8c03ed61ecbc21a4913e4533d192c4940aac939f"), looks := false }, kinds := [], alts := [], laidByText := true, laidKinds := [.data], laidTests := true, laidLooks := .later }
def TopoRefusesUptoCardSaid : Prop := Claim7.holds Tryd.pinned (.plain (OpenSpec.upto topoRefusesSpec)) topoRefusesUptoCard

/-- THE SECOND FORM's CARD OF 'warpbeamlaw05.PoolActs'. -/
def poolActsUptoCard : Claim7 := { stood := { row := poolActsUptoRow, standIns := [], harness := (true, "7c9c10c5b7ed1e6dac9a4cdf8c03ed61ecbc21a4913e4533d192c4940aac939f"), looks := false }, kinds := [], alts := [], laidByText := true, laidKinds := [.data], laidTests := true, laidLooks := .later }
def PoolActsUptoCardSaid : Prop := Claim7.holds Tryd.pinned (.plain (OpenSpec.upto poolActsSpec)) poolActsUptoCard

/-- THE SECOND FORM's CARD OF 'warpbeamlaw05.PoolGoes'. -/
def poolGoesUptoCard : Claim7 := { stood := { row := poolGoesUptoRow, standIns := [], harness := (true, "7c9c10c5b7ed1e6dac9a4cdf8c03ed61ecbc21a4913e4533d192c4940aac939f"), looks := false }, kinds := [], alts := [], laidByText := true, laidKinds := [.data], laidTests := true, laidLooks := .later }
def PoolGoesUptoCardSaid : Prop := Claim7.holds Tryd.pinned (.plain (OpenSpec.upto poolGoesSpec)) poolGoesUptoCard

/-- THE SECOND FORM's CARD OF 'warpbeamlaw05.PoolNumbers'. -/
def poolNumbersUptoCard : Claim7 := { stood := { row := poolNumbersUptoRow, standIns := [], harness := (true, "7c9c10c5b7ed1e6dac9a4cdf8c03ed61ecbc21a4913e4533d192c4940aac939f"), looks := false }, kinds := [], alts := [], laidByText := true, laidKinds := [.data], laidTests := true, laidLooks := .later }
def PoolNumbersUptoCardSaid : Prop := Claim7.holds Tryd.pinned (.plain (OpenSpec.upto poolNumbersSpec)) poolNumbersUptoCard

/-- THE SECOND FORM's CARD OF 'warpbeamlaw05.PoolRoom'. -/
def poolRoomUptoCard : Claim7 := { stood := { row := poolRoomUptoRow, standIns := [], harness := (true, "7c9c10c5b7ed1e6dac9a4cdf8c03ed61ecbc21a4913e4533d192c4940aac939f"), looks := false }, kinds := [], alts := [], laidByText := true, laidKinds := [.data], laidTests := true, laidLooks := .later }
def PoolRoomUptoCardSaid : Prop := Claim7.holds Tryd.pinned (.plain (OpenSpec.upto poolRoomSpec)) poolRoomUptoCard

/-- THE SECOND FORM's CARD OF 'warpbeamlaw05.PoolEdges'. -/
def poolEdgesUptoCard : Claim7 := { stood := { row := poolEdgesUptoRow, standIns := [], harness := (true, "7c9c10c5b7ed1e6dac9a4cdf8c03ed61ecbc21a4913e4533d192c4940aac939f"), looks := false }, kinds := [], alts := [], laidByText := true, laidKinds := [.data], laidTests := true, laidLooks := .later }
def PoolEdgesUptoCardSaid : Prop := Claim7.holds Tryd.pinned (.plain (OpenSpec.upto poolEdgesSpec)) poolEdgesUptoCard

/-- THE SECOND FORM's CARD OF 'warpbeamlaw05.PoolTime'. -/
def poolTimeUptoCard : Claim7 := { stood := { row := poolTimeUptoRow, standIns := [], harness := (true, "7c9c10c5b7ed1e6dac9a4cdf8c03ed61ecbc21a4913e4533d192c4940aac939f"), looks := false }, kinds := [], alts := [], laidByText := true, laidKinds := [.data], laidTests := true, laidLooks := .later }
def PoolTimeUptoCardSaid : Prop := Claim7.holds Tryd.pinned (.plain (OpenSpec.upto poolTimeSpec)) poolTimeUptoCard
end Rows
end Go.Proofs.YteclmkmemecckaaDoor
