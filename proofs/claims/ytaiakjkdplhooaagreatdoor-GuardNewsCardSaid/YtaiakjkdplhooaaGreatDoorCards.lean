/-
  DERIVED. GIVEN WITH THE SEED: THE CARDS: each row of YtaiakjkdplhooaaGreatDoorRows.lean that lists a variable, with what it lists TIED to the program's text (the seventh form; the later family's looks); each row that meets fmt, with fmt's text TOLD by the authors' own Lean function (tested against real Go, not proved from fmt's source: count such statements apart). THE CARD IS WHAT COUNTS. Prove the row's statement (the work); the ties are given (YtaiakjkdplhooaaGreatDoorTie.lean); close each card by the builder's one call (the guide's Derived/Test/ToyasCard.lean, 'card_holds'). Laid BY PROGRAM, IN A SANDBOX (cutbox-door.mjs). By AI agents, Wed Nov 11 2026. No macro, syntax, notation, axiom, sorry.
-/
import Derived.Test.YtaiakjkdplhooaaGreatDoorRows
import GoSem.ClaimSeven
namespace Go.Proofs.YtaiakjkdplhooaaGreatDoor
namespace Rows

/-- THE TIED CARD OF 'pouchlaw10.FramerHolds'. -/
def framerHoldsCard : Claim7 := { stood := { row := framerHoldsRow, standIns := [], harness := (true, "4bf20149527d340b45aa660d3fc47cd4a65d6992e89445315b0b79e6dd859caa"), looks := false }, kinds := [], alts := [], laidByText := true, laidKinds := [.data, .pinned], laidTests := true, laidLooks := .later }
def FramerHoldsCardSaid : Prop := Claim7.holds Tryz.pinned (.plain (OpenSpec.ofChange framerHoldsSpec)) framerHoldsCard

/-- THE TIED CARD OF 'pouchlaw10.FramerStops'. -/
def framerStopsCard : Claim7 := { stood := { row := framerStopsRow, standIns := [], harness := (true, "4bf20149527d340b45aa660d3fc47cd4a65d6992e89445315b0b79e6dd859caa"), looks := false }, kinds := [], alts := [], laidByText := true, laidKinds := [.data, .pinned], laidTests := true, laidLooks := .later }
def FramerStopsCardSaid : Prop := Claim7.holds Tryz.pinned (.plain (OpenSpec.ofChange framerStopsSpec)) framerStopsCard

/-- THE TIED CARD OF 'pouchlaw10.FramerNews'. -/
def framerNewsCard : Claim7 := { stood := { row := framerNewsRow, standIns := [], harness := (true, "4bf20149527d340b45aa660d3fc47cd4a65d6992e89445315b0b79e6dd859caa"), looks := false }, kinds := [], alts := [], laidByText := true, laidKinds := [.data, .pinned], laidTests := true, laidLooks := .later }
def FramerNewsCardSaid : Prop := Claim7.holds Tryz.pinned (.plain (OpenSpec.ofChange framerNewsSpec)) framerNewsCard

/-- THE TIED CARD OF 'pouchlaw10.FramerMost'. -/
def framerMostCard : Claim7 := { stood := { row := framerMostRow, standIns := [], harness := (true, "4bf20149527d340b45aa660d3fc47cd4a65d6992e89445315b0b79e6dd859caa"), looks := false }, kinds := [], alts := [], laidByText := true, laidKinds := [.data, .pinned], laidTests := true, laidLooks := .later }
def FramerMostCardSaid : Prop := Claim7.holds Tryz.pinned (.plain (OpenSpec.ofChange framerMostSpec)) framerMostCard

/-- THE TIED CARD OF 'pouchlaw09.DecodeBack'. -/
def decodeBackCard : Claim7 := { stood := { row := decodeBackRow, standIns := [], harness := (true, "4bf20149527d340b45aa660d3fc47cd4a65d6992e89445315b0b79e6dd859caa"), looks := false }, kinds := [], alts := [], laidByText := true, laidKinds := [.data, .pinned], laidTests := true, laidLooks := .later }
def DecodeBackCardSaid : Prop := Claim7.holds Tryz.pinned (.plain (OpenSpec.ofChange decodeBackSpec)) decodeBackCard

/-- THE TIED CARD OF 'pouchlaw09.DecodeAgain'. -/
def decodeAgainCard : Claim7 := { stood := { row := decodeAgainRow, standIns := [], harness := (true, "4bf20149527d340b45aa660d3fc47cd4a65d6992e89445315b0b79e6dd859caa"), looks := false }, kinds := [], alts := [], laidByText := true, laidKinds := [.data, .pinned], laidTests := true, laidLooks := .later }
def DecodeAgainCardSaid : Prop := Claim7.holds Tryz.pinned (.plain (OpenSpec.ofChange decodeAgainSpec)) decodeAgainCard

/-- THE TIED CARD OF 'pouchlaw09.DecodeCuts'. -/
def decodeCutsCard : Claim7 := { stood := { row := decodeCutsRow, standIns := [], harness := (true, "4bf20149527d340b45aa660d3fc47cd4a65d6992e89445315b0b79e6dd859caa"), looks := false }, kinds := [], alts := [], laidByText := true, laidKinds := [.data, .pinned], laidTests := true, laidLooks := .later }
def DecodeCutsCardSaid : Prop := Claim7.holds Tryz.pinned (.plain (OpenSpec.ofChange decodeCutsSpec)) decodeCutsCard

/-- THE TIED CARD OF 'pouchlaw14.GuardCuts'. -/
def guardCutsCard : Claim7 := { stood := { row := guardCutsRow, standIns := [], harness := (true, "4bf20149527d340b45aa660d3fc47cd4a65d6992e89445315b0b79e6dd859caa"), looks := false }, kinds := [], alts := [], laidByText := true, laidKinds := [.data, .pinned], laidTests := true, laidLooks := .later }
def GuardCutsCardSaid : Prop := Claim7.holds Tryz.pinned (.plain (OpenSpec.ofChange guardCutsSpec)) guardCutsCard

/-- THE TIED CARD OF 'pouchlaw14.GuardTraces'. -/
def guardTracesCard : Claim7 := { stood := { row := guardTracesRow, standIns := [], harness := (true, "4bf20149527d340b45aa660d3fc47cd4a65d6992e89445315b0b79e6dd859caa"), looks := false }, kinds := [], alts := [], laidByText := true, laidKinds := [.data, .pinned], laidTests := true, laidLooks := .later }
def GuardTracesCardSaid : Prop := Claim7.holds Tryz.pinned (.plain (OpenSpec.ofChange guardTracesSpec)) guardTracesCard

/-- THE TIED CARD OF 'pouchlaw14.GuardReceives'. -/
def guardReceivesCard : Claim7 := { stood := { row := guardReceivesRow, standIns := [], harness := (true, "4bf20149527d340b45aa660d3fc47cd4a65d6992e89445315b0b79e6dd859caa"), looks := false }, kinds := [], alts := [], laidByText := true, laidKinds := [.data, .pinned], laidTests := true, laidLooks := .later }
def GuardReceivesCardSaid : Prop := Claim7.holds Tryz.pinned (.plain (OpenSpec.ofChange guardReceivesSpec)) guardReceivesCard

/-- THE TIED CARD OF 'pouchlaw14.GuardNews'. -/
def guardNewsCard : Claim7 := { stood := { row := guardNewsRow, standIns := [], harness := (true, "4bf20149527d340b45aa660d3fc47cd4a65d6992e89445315b0b79e6dd859caa"), looks := false }, kinds := [], alts := [], laidByText := true, laidKinds := [.data, .pinned], laidTests := true, laidLooks := .later }
def GuardNewsCardSaid : Prop := Claim7.holds Tryz.pinned (.plain (OpenSpec.ofChange guardNewsSpec)) guardNewsCard

/-- THE TIED CARD OF 'pouchlaw16.AuditScripts'. -/
def auditScriptsCard : Claim7 := { stood := { row := auditScriptsRow, standIns := [], harness := (true, "4bf20149527d340b45aa660d3fc47cd4a65d6992e89445315b0b79e6dd859caa"), looks := false }, kinds := [], alts := [], laidByText := true, laidKinds := [.data, .pinned], laidTests := true, laidLooks := .later }
def AuditScriptsCardSaid : Prop := Claim7.holds Tryz.pinned (.plain (OpenSpec.ofChange auditScriptsSpec)) auditScriptsCard

/-- THE SECOND FORM's CARD OF 'pouchlaw10.FramerHolds'. -/
def framerHoldsUptoCard : Claim7 := { stood := { row := framerHoldsUptoRow, standIns := [], harness := (true, "4bf20149527d340b45aa660d3fc47cd4a65d6992e89445315b0b79e6dd859caa"), looks := false }, kinds := [], alts := [], laidByText := true, laidKinds := [.data, .pinned], laidTests := true, laidLooks := .later }
def FramerHoldsUptoCardSaid : Prop := Claim7.holds Tryz.pinned (.plain (OpenSpec.upto framerHoldsSpec)) framerHoldsUptoCard

/-- THE SECOND FORM's CARD OF 'pouchlaw10.FramerStops'. -/
def framerStopsUptoCard : Claim7 := { stood := { row := framerStopsUptoRow, standIns := [], harness := (true, "4bf20149527d340b45aa660d3fc47cd4a65d6992e89445315b0b79e6dd859caa"), looks := false }, kinds := [], alts := [], laidByText := true, laidKinds := [.data, .pinned], laidTests := true, laidLooks := .later }
def FramerStopsUptoCardSaid : Prop := Claim7.holds Tryz.pinned (.plain (OpenSpec.upto framerStopsSpec)) framerStopsUptoCard

/-- THE SECOND FORM's CARD OF 'pouchlaw10.FramerNews'. -/
def framerNewsUptoCard : Claim7 := { stood := { row := framerNewsUptoRow, standIns := [], harness := (true, "4bf20149527d340b45aa660d3fc47cd4a65d6992e89445315b0b79e6dd859caa"), looks := false }, kinds := [], alts := [], laidByText := true, laidKinds := [.data, .pinned], laidTests := true, laidLooks := .later }
def FramerNewsUptoCardSaid : Prop := Claim7.holds Tryz.pinned (.plain (OpenSpec.upto framerNewsSpec)) framerNewsUptoCard

/-- THE SECOND FORM's CARD OF 'pouchlaw10.FramerMost'. -/
def framerMostUptoCard : Claim7 := { stood := { row := framerMostUptoRow, standIns := [], harness := (true, "4bf20149527d340b45aa660d3fc47cd4a65d6992e89445315b0b79e6dd859caa"), looks := false }, kinds := [], alts := [], laidByText := true, laidKinds := [.data, .pinned], laidTests := true, laidLooks := .later }
def FramerMostUptoCardSaid : Prop := Claim7.holds Tryz.pinned (.plain (OpenSpec.upto framerMostSpec)) framerMostUptoCard

/-- THE SECOND FORM's CARD OF 'pouchlaw09.DecodeBack'. -/
def decodeBackUptoCard : Claim7 := { stood := { row := decodeBackUptoRow, standIns := [], harness := (true, "4bf20149527d340b45aa660d3fc47cd4a65d6992e89445315b0b79e6dd859caa"), looks := false }, kinds := [], alts := [], laidByText := true, laidKinds := [.data, .pinned], laidTests := true, laidLooks := .later }
def DecodeBackUptoCardSaid : Prop := Claim7.holds Tryz.pinned (.plain (OpenSpec.upto decodeBackSpec)) decodeBackUptoCard

/-- THE SECOND FORM's CARD OF 'pouchlaw09.DecodeAgain'. -/
def decodeAgainUptoCard : Claim7 := { stood := { row := decodeAgainUptoRow, standIns := [], harness := (true, "4bf20149527d340b45aa660d3fc47cd4a65d6992e89445315b0b79e6dd859caa"), looks := false }, kinds := [], alts := [], laidByText := true, laidKinds := [.data, .pinned], laidTests := true, laidLooks := .later }
def DecodeAgainUptoCardSaid : Prop := Claim7.holds Tryz.pinned (.plain (OpenSpec.upto decodeAgainSpec)) decodeAgainUptoCard

/-- THE SECOND FORM's CARD OF 'pouchlaw09.DecodeCuts'. -/
def decodeCutsUptoCard : Claim7 := { stood := { row := decodeCutsUptoRow, standIns := [], harness := (true, "4bf20149527d340b45aa660d3fc47cd4a65d6992e89445315b0b79e6dd859caa"), looks := false }, kinds := [], alts := [], laidByText := true, laidKinds := [.data, .pinned], laidTests := true, laidLooks := .later }
def DecodeCutsUptoCardSaid : Prop := Claim7.holds Tryz.pinned (.plain (OpenSpec.upto decodeCutsSpec)) decodeCutsUptoCard

/-- THE SECOND FORM's CARD OF 'pouchlaw14.GuardCuts'. -/
def guardCutsUptoCard : Claim7 := { stood := { row := guardCutsUptoRow, standIns := [], harness := (true, "4bf20149527d340b45aa660d3fc47cd4a65d6992e89445315b0b79e6dd859caa"), looks := false }, kinds := [], alts := [], laidByText := true, laidKinds := [.data, .pinned], laidTests := true, laidLooks := .later }
def GuardCutsUptoCardSaid : Prop := Claim7.holds Tryz.pinned (.plain (OpenSpec.upto guardCutsSpec)) guardCutsUptoCard

/-- THE SECOND FORM's CARD OF 'pouchlaw14.GuardTraces'. -/
def guardTracesUptoCard : Claim7 := { stood := { row := guardTracesUptoRow, standIns := [], harness := (true, "4bf20149527d340b45aa660d3fc47cd4a65d6992e89445315b0b79e6dd859caa"), looks := false }, kinds := [], alts := [], laidByText := true, laidKinds := [.data, .pinned], laidTests := true, laidLooks := .later }
def GuardTracesUptoCardSaid : Prop := Claim7.holds Tryz.pinned (.plain (OpenSpec.upto guardTracesSpec)) guardTracesUptoCard

/-- THE SECOND FORM's CARD OF 'pouchlaw14.GuardReceives'. -/
def guardReceivesUptoCard : Claim7 := { stood := { row := guardReceivesUptoRow, standIns := [], harness := (true, "4bf20149527d340b45aa660d3fc47cd4a65d6992e89445315b0b79e6dd859caa"), looks := false }, kinds := [], alts := [], laidByText := true, laidKinds := [.data, .pinned], laidTests := true, laidLooks := .later }
def GuardReceivesUptoCardSaid : Prop := Claim7.holds Tryz.pinned (.plain (OpenSpec.upto guardReceivesSpec)) guardReceivesUptoCard

/-- THE SECOND FORM's CARD OF 'pouchlaw14.GuardNews'. -/
def guardNewsUptoCard : Claim7 := { stood := { row := guardNewsUptoRow, standIns := [], harness := (true, "4bf20149527d340b45aa660d3fc47cd4a65d6992e89445315b0b79e6dd859caa"), looks := false }, kinds := [], alts := [], laidByText := true, laidKinds := [.data, .pinned], laidTests := true, laidLooks := .later }
def GuardNewsUptoCardSaid : Prop := Claim7.holds Tryz.pinned (.plain (OpenSpec.upto guardNewsSpec)) guardNewsUptoCard

/-- THE SECOND FORM's CARD OF 'pouchlaw16.AuditScripts'. -/
def auditScriptsUptoCard : Claim7 := { stood := { row := auditScriptsUptoRow, standIns := [], harness := (true, "4bf20149527d340b45aa660d3fc47cd4a65d6992e89445315b0b79e6dd859caa"), looks := false }, kinds := [], alts := [], laidByText := true, laidKinds := [.data, .pinned], laidTests := true, laidLooks := .later }
def AuditScriptsUptoCardSaid : Prop := Claim7.holds Tryz.pinned (.plain (OpenSpec.upto auditScriptsSpec)) auditScriptsUptoCard
end Rows
end Go.Proofs.YtaiakjkdplhooaaGreatDoor
