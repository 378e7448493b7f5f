/-
  DERIVED. GIVEN WITH THE SEED: THE CARDS: each row of YtjcgociobhhijaaDoorRows.lean that lists a variable, with what it lists TIED to the program's text (the seventh form; the later family's looks); each row that meets fmt, with fmt's text TOLD by the authors' own Lean function (tested against real Go, not proved from fmt's source: count such statements apart). THE CARD IS WHAT COUNTS. Prove the row's statement (the work); the ties are given (YtjcgociobhhijaaDoorTie.lean); close each card by the builder's one call (the guide's Derived/Test/ToyasCard.lean, 'card_holds'). Laid BY PROGRAM, IN A SANDBOX (cutbox-door.mjs). By AI agents, Wed Nov 11 2026. No macro, syntax, notation, axiom, sorry.
-/
import Derived.Test.YtjcgociobhhijaaDoorRows
import GoSem.ClaimSeven
namespace Go.Proofs.YtjcgociobhhijaaDoor
namespace Rows

/-- THE TIED CARD OF 'affluxlaw02.ValueOrders'. -/
def valueOrdersCard : Claim7 := { stood := { row := valueOrdersRow, standIns := [], harness := (true, "44a05c6656fad0a98acfb041a4270392b8082a07142de41ef3bee6dd98f36de4"), looks := false }, kinds := [], alts := [], laidByText := true, laidKinds := [.data, .pinned], laidTests := true, laidLooks := .later }
def ValueOrdersCardSaid : Prop := Claim7.holds Tryd.pinned (.plain (OpenSpec.ofChange valueOrdersSpec)) valueOrdersCard

/-- THE TIED CARD OF 'affluxlaw02.ValueKeys'. -/
def valueKeysCard : Claim7 := { stood := { row := valueKeysRow, standIns := [], harness := (true, "44a05c6656fad0a98acfb041a4270392b8082a07142de41ef3bee6dd98f36de4"), looks := false }, kinds := [], alts := [], laidByText := true, laidKinds := [.data, .pinned], laidTests := true, laidLooks := .later }
def ValueKeysCardSaid : Prop := Claim7.holds Tryd.pinned (.plain (OpenSpec.ofChange valueKeysSpec)) valueKeysCard

/-- THE TIED CARD OF 'affluxlaw03.SchemaPicks'. -/
def schemaPicksCard : Claim7 := { stood := { row := schemaPicksRow, standIns := [], harness := (true, "44a05c6656fad0a98acfb041a4270392b8082a07142de41ef3bee6dd98f36de4"), looks := false }, kinds := [], alts := [], laidByText := true, laidKinds := [.data, .pinned], laidTests := true, laidLooks := .later }
def SchemaPicksCardSaid : Prop := Claim7.holds Tryd.pinned (.plain (OpenSpec.ofChange schemaPicksSpec)) schemaPicksCard

/-- THE TIED CARD OF 'affluxlaw03.SchemaStands'. -/
def schemaStandsCard : Claim7 := { stood := { row := schemaStandsRow, standIns := [], harness := (true, "44a05c6656fad0a98acfb041a4270392b8082a07142de41ef3bee6dd98f36de4"), looks := false }, kinds := [], alts := [], laidByText := true, laidKinds := [.data, .pinned], laidTests := true, laidLooks := .later }
def SchemaStandsCardSaid : Prop := Claim7.holds Tryd.pinned (.plain (OpenSpec.ofChange schemaStandsSpec)) schemaStandsCard

/-- THE TIED CARD OF 'affluxlaw02.ValueBack'. -/
def valueBackCard : Claim7 := { stood := { row := valueBackRow, standIns := [], harness := (true, "44a05c6656fad0a98acfb041a4270392b8082a07142de41ef3bee6dd98f36de4"), looks := false }, kinds := [], alts := [], laidByText := true, laidKinds := [.data, .pinned], laidTests := true, laidLooks := .later }
def ValueBackCardSaid : Prop := Claim7.holds Tryd.pinned (.plain (OpenSpec.ofChange valueBackSpec)) valueBackCard

/-- THE TIED CARD OF 'affluxlaw02.ValueSpreads'. -/
def valueSpreadsCard : Claim7 := { stood := { row := valueSpreadsRow, standIns := [], harness := (true, "44a05c6656fad0a98acfb041a4270392b8082a07142de41ef3bee6dd98f36de4"), looks := false }, kinds := [], alts := [], laidByText := true, laidKinds := [.data, .pinned], laidTests := true, laidLooks := .later }
def ValueSpreadsCardSaid : Prop := Claim7.holds Tryd.pinned (.plain (OpenSpec.ofChange valueSpreadsSpec)) valueSpreadsCard

/-- THE TIED CARD OF 'affluxlaw02.ValueStands'. -/
def valueStandsCard : Claim7 := { stood := { row := valueStandsRow, standIns := [], harness := (true, "44a05c6656fad0a98acfb041a4270392b8082a07142de41ef3bee6dd98f36de4"), looks := false }, kinds := [], alts := [], laidByText := true, laidKinds := [.data, .pinned], laidTests := true, laidLooks := .later }
def ValueStandsCardSaid : Prop := Claim7.holds Tryd.pinned (.plain (OpenSpec.ofChange valueStandsSpec)) valueStandsCard

/-- THE TIED CARD OF 'affluxlaw02.ValueTexts'. -/
def valueTextsCard : Claim7 := { stood := { row := valueTextsRow, standIns := [], harness := (true, "44a05c6656fad0a98acfb041a4270392b8082a07142de41ef3bee6dd98f36de4"), looks := false }, kinds := [], alts := [], laidByText := true, laidKinds := [.data, .pinned], laidTests := true, laidLooks := .later }
def ValueTextsCardSaid : Prop := Claim7.holds Tryd.pinned (.plain (OpenSpec.ofChange valueTextsSpec)) valueTextsCard

/-- THE TIED CARD OF 'affluxlaw03.SchemaRights'. -/
def schemaRightsCard : Claim7 := { stood := { row := schemaRightsRow, standIns := [], harness := (true, "44a05c6656fad0a98acfb041a4270392b8082a07142de41ef3bee6dd98f36de4"), looks := false }, kinds := [], alts := [], laidByText := true, laidKinds := [.data, .pinned], laidTests := true, laidLooks := .later }
def SchemaRightsCardSaid : Prop := Claim7.holds Tryd.pinned (.plain (OpenSpec.ofChange schemaRightsSpec)) schemaRightsCard

/-- THE TIED CARD OF 'affluxlaw03.SchemaFits'. -/
def schemaFitsCard : Claim7 := { stood := { row := schemaFitsRow, standIns := [], harness := (true, "44a05c6656fad0a98acfb041a4270392b8082a07142de41ef3bee6dd98f36de4"), looks := false }, kinds := [], alts := [], laidByText := true, laidKinds := [.data, .pinned], laidTests := true, laidLooks := .later }
def SchemaFitsCardSaid : Prop := Claim7.holds Tryd.pinned (.plain (OpenSpec.ofChange schemaFitsSpec)) schemaFitsCard

/-- THE SECOND FORM's CARD OF 'affluxlaw02.ValueOrders'. -/
def valueOrdersUptoCard : Claim7 := { stood := { row := valueOrdersUptoRow, standIns := [], harness := (true, "44a05c6656fad0a98acfb041a4270392b8082a07142de41ef3bee6dd98f36de4"), looks := false }, kinds := [], alts := [], laidByText := true, laidKinds := [.data, .pinned], laidTests := true, laidLooks := .later }
def ValueOrdersUptoCardSaid : Prop := Claim7.holds Tryd.pinned (.plain (OpenSpec.upto valueOrdersSpec)) valueOrdersUptoCard

/-- THE SECOND FORM's CARD OF 'affluxlaw02.ValueKeys'. -/
def valueKeysUptoCard : Claim7 := { stood := { row := valueKeysUptoRow, standIns := [], harness := (true, "44a05c6656fad0a98acfb041a4270392b8082a07142de41ef3bee6dd98f36de4"), looks := false }, kinds := [], alts := [], laidByText := true, laidKinds := [.data, .pinned], laidTests := true, laidLooks := .later }
def ValueKeysUptoCardSaid : Prop := Claim7.holds Tryd.pinned (.plain (OpenSpec.upto valueKeysSpec)) valueKeysUptoCard

/-- THE SECOND FORM's CARD OF 'affluxlaw03.SchemaPicks'. -/
def schemaPicksUptoCard : Claim7 := { stood := { row := schemaPicksUptoRow, standIns := [], harness := (true, "44a05c6656fad0a98acfb041a4270392b8082a07142de41ef3bee6dd98f36de4"), looks := false }, kinds := [], alts := [], laidByText := true, laidKinds := [.data, .pinned], laidTests := true, laidLooks := .later }
def SchemaPicksUptoCardSaid : Prop := Claim7.holds Tryd.pinned (.plain (OpenSpec.upto schemaPicksSpec)) schemaPicksUptoCard

/-- THE SECOND FORM's CARD OF 'affluxlaw03.SchemaStands'. -/
def schemaStandsUptoCard : Claim7 := { stood := { row := schemaStandsUptoRow, standIns := [], harness := (true, "44a05c6656fad0a98acfb041a4270392b8082a07142de41ef3bee6dd98f36de4"), looks := false }, kinds := [], alts := [], laidByText := true, laidKinds := [.data, .pinned], laidTests := true, laidLooks := .later }
def SchemaStandsUptoCardSaid : Prop := Claim7.holds Tryd.pinned (.plain (OpenSpec.upto schemaStandsSpec)) schemaStandsUptoCard

/-- THE SECOND FORM's CARD OF 'affluxlaw02.ValueBack'. -/
def valueBackUptoCard : Claim7 := { stood := { row := valueBackUptoRow, standIns := [], harness := (true, "44a05c6656fad0a98acfb041a4270392b8082a07142de41ef3bee6dd98f36de4"), looks := false }, kinds := [], alts := [], laidByText := true, laidKinds := [.data, .pinned], laidTests := true, laidLooks := .later }
def ValueBackUptoCardSaid : Prop := Claim7.holds Tryd.pinned (.plain (OpenSpec.upto valueBackSpec)) valueBackUptoCard

/-- THE SECOND FORM's CARD OF 'affluxlaw02.ValueSpreads'. -/
def valueSpreadsUptoCard : Claim7 := { stood := { row := valueSpreadsUptoRow, standIns := [], harness := (true, "44a05c6656fad0a98acfb041a4270392b8082a07142de41ef3bee6dd98f36de4"), looks := false }, kinds := [], alts := [], laidByText := true, laidKinds := [.data, .pinned], laidTests := true, laidLooks := .later }
def ValueSpreadsUptoCardSaid : Prop := Claim7.holds Tryd.pinned (.plain (OpenSpec.upto valueSpreadsSpec)) valueSpreadsUptoCard

/-- THE SECOND FORM's CARD OF 'affluxlaw02.ValueStands'. -/
def valueStandsUptoCard : Claim7 := { stood := { row := valueStandsUptoRow, standIns := [], harness := (true, "44a05c6656fad0a98acfb041a4270392b8082a07142de41ef3bee6dd98f36de4"), looks := false }, kinds := [], alts := [], laidByText := true, laidKinds := [.data, .pinned], laidTests := true, laidLooks := .later }
def ValueStandsUptoCardSaid : Prop := Claim7.holds Tryd.pinned (.plain (OpenSpec.upto valueStandsSpec)) valueStandsUptoCard

/-- THE SECOND FORM's CARD OF 'affluxlaw02.ValueTexts'. -/
def valueTextsUptoCard : Claim7 := { stood := { row := valueTextsUptoRow, standIns := [], harness := (true, "44a05c6656fad0a98acfb041a4270392b8082a07142de41ef3bee6dd98f36de4"), looks := false }, kinds := [], alts := [], laidByText := true, laidKinds := [.data, .pinned], laidTests := true, laidLooks := .later }
def ValueTextsUptoCardSaid : Prop := Claim7.holds Tryd.pinned (.plain (OpenSpec.upto valueTextsSpec)) valueTextsUptoCard

/-- THE SECOND FORM's CARD OF 'affluxlaw03.SchemaRights'. -/
def schemaRightsUptoCard : Claim7 := { stood := { row := schemaRightsUptoRow, standIns := [], harness := (true, "44a05c6656fad0a98acfb041a4270392b8082a07142de41ef3bee6dd98f36de4"), looks := false }, kinds := [], alts := [], laidByText := true, laidKinds := [.data, .pinned], laidTests := true, laidLooks := .later }
def SchemaRightsUptoCardSaid : Prop := Claim7.holds Tryd.pinned (.plain (OpenSpec.upto schemaRightsSpec)) schemaRightsUptoCard

/-- THE SECOND FORM's CARD OF 'affluxlaw03.SchemaFits'. -/
def schemaFitsUptoCard : Claim7 := { stood := { row := schemaFitsUptoRow, standIns := [], harness := (true, "44a05c6656fad0a98acfb041a4270392b8082a07142de41ef3bee6dd98f36de4"), looks := false }, kinds := [], alts := [], laidByText := true, laidKinds := [.data, .pinned], laidTests := true, laidLooks := .later }
def SchemaFitsUptoCardSaid : Prop := Claim7.holds Tryd.pinned (.plain (OpenSpec.upto schemaFitsSpec)) schemaFitsUptoCard
end Rows
end Go.Proofs.YtjcgociobhhijaaDoor
