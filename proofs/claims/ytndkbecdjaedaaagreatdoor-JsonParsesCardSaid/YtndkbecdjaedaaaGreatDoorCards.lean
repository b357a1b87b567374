/-
  DERIVED. GIVEN WITH THE SEED: THE CARDS: each row of YtndkbecdjaedaaaGreatDoorRows.lean that lists a variable, with what it lists TIED to the program's text (the seventh form; the later family's looks); each row that meets fmt, with fmt's text TOLD by the authors' own Lean function (tested against real Go, not proved from fmt's source: count such statements apart). THE CARD IS WHAT COUNTS. Prove the row's statement (the work); the ties are given (YtndkbecdjaedaaaGreatDoorTie.lean); close each card by the builder's one call (the guide's Derived/Test/ToyasCard.lean, 'card_holds'). Laid BY PROGRAM, IN A SANDBOX (cutbox-door.mjs). By AI agents, Wed Nov 11 2026. No macro, syntax, notation, axiom, sorry.
-/
import Derived.Test.YtndkbecdjaedaaaGreatDoorRows
import GoSem.ClaimSeven
namespace Go.Proofs.YtndkbecdjaedaaaGreatDoor
namespace Rows

/-- THE TIED CARD OF 'onionskinlaw25.PlanParses'. -/
def planParsesCard : Claim7 := { stood := { row := planParsesRow, standIns := [], harness := (true, "5b1bc25aac6a8639558fa4e47d6ce66ec4bbabc243ae3b49def4a930d399750b"), looks := true }, kinds := [], alts := [], laidByText := true, laidKinds := [.data, .data, .data, .data, .sentinel, .sentinel, .data, .widerDeep, .pinned], laidTests := true, laidLooks := .later }
def PlanParsesCardSaid : Prop := Claim7.holds Tryz.pinned (.plain (OpenSpec.ofChange planParsesSpec)) planParsesCard

/-- THE TIED CARD OF 'onionskinlaw25.PlanPrints'. -/
def planPrintsCard : Claim7 := { stood := { row := planPrintsRow, standIns := [], harness := (true, "5b1bc25aac6a8639558fa4e47d6ce66ec4bbabc243ae3b49def4a930d399750b"), looks := true }, kinds := [], alts := [], laidByText := true, laidKinds := [.data, .data, .data, .data, .sentinel, .sentinel, .data, .widerDeep, .pinned], laidTests := true, laidLooks := .later }
def PlanPrintsCardSaid : Prop := Claim7.holds Tryz.pinned (.plain (OpenSpec.ofChange planPrintsSpec)) planPrintsCard

/-- THE TIED CARD OF 'onionskinlaw25.PlanBack'. -/
def planBackCard : Claim7 := { stood := { row := planBackRow, standIns := [], harness := (true, "5b1bc25aac6a8639558fa4e47d6ce66ec4bbabc243ae3b49def4a930d399750b"), looks := true }, kinds := [], alts := [], laidByText := true, laidKinds := [.data, .data, .data, .data, .sentinel, .sentinel, .data, .widerDeep, .pinned], laidTests := true, laidLooks := .later }
def PlanBackCardSaid : Prop := Claim7.holds Tryz.pinned (.plain (OpenSpec.ofChange planBackSpec)) planBackCard

/-- THE TIED CARD OF 'onionskinlaw25.PlanParts'. -/
def planPartsCard : Claim7 := { stood := { row := planPartsRow, standIns := [], harness := (true, "5b1bc25aac6a8639558fa4e47d6ce66ec4bbabc243ae3b49def4a930d399750b"), looks := true }, kinds := [], alts := [], laidByText := true, laidKinds := [.data, .data, .data, .data, .sentinel, .sentinel, .data, .widerDeep, .pinned], laidTests := true, laidLooks := .later }
def PlanPartsCardSaid : Prop := Claim7.holds Tryz.pinned (.plain (OpenSpec.ofChange planPartsSpec)) planPartsCard

/-- THE TIED CARD OF 'onionskinlaw25.PlanOrder'. -/
def planOrderCard : Claim7 := { stood := { row := planOrderRow, standIns := [], harness := (true, "5b1bc25aac6a8639558fa4e47d6ce66ec4bbabc243ae3b49def4a930d399750b"), looks := true }, kinds := [], alts := [], laidByText := true, laidKinds := [.data, .data, .data, .data, .sentinel, .sentinel, .data, .widerDeep, .pinned], laidTests := true, laidLooks := .later }
def PlanOrderCardSaid : Prop := Claim7.holds Tryz.pinned (.plain (OpenSpec.ofChange planOrderSpec)) planOrderCard

/-- THE TIED CARD OF 'onionskinlaw11.JsonParses'. -/
def jsonParsesCard : Claim7 := { stood := { row := jsonParsesRow, standIns := [], harness := (true, "5b1bc25aac6a8639558fa4e47d6ce66ec4bbabc243ae3b49def4a930d399750b"), looks := true }, kinds := [], alts := [], laidByText := true, laidKinds := [.data, .data, .data, .data, .sentinel, .sentinel, .data, .pinned], laidTests := true, laidLooks := .later }
def JsonParsesCardSaid : Prop := Claim7.holds Tryz.pinned (.plain (OpenSpec.ofChange jsonParsesSpec)) jsonParsesCard

/-- THE TIED CARD OF 'onionskinlaw11.JsonTells'. -/
def jsonTellsCard : Claim7 := { stood := { row := jsonTellsRow, standIns := [], harness := (true, "5b1bc25aac6a8639558fa4e47d6ce66ec4bbabc243ae3b49def4a930d399750b"), looks := true }, kinds := [], alts := [], laidByText := true, laidKinds := [.data, .data, .data, .data, .sentinel, .sentinel, .data, .pinned], laidTests := true, laidLooks := .later }
def JsonTellsCardSaid : Prop := Claim7.holds Tryz.pinned (.plain (OpenSpec.ofChange jsonTellsSpec)) jsonTellsCard

/-- THE TIED CARD OF 'onionskinlaw11.JsonBack'. -/
def jsonBackCard : Claim7 := { stood := { row := jsonBackRow, standIns := [], harness := (true, "5b1bc25aac6a8639558fa4e47d6ce66ec4bbabc243ae3b49def4a930d399750b"), looks := true }, kinds := [], alts := [], laidByText := true, laidKinds := [.data, .data, .data, .data, .sentinel, .sentinel, .data, .pinned], laidTests := true, laidLooks := .later }
def JsonBackCardSaid : Prop := Claim7.holds Tryz.pinned (.plain (OpenSpec.ofChange jsonBackSpec)) jsonBackCard

/-- THE TIED CARD OF 'onionskinlaw11.JsonSorts'. -/
def jsonSortsCard : Claim7 := { stood := { row := jsonSortsRow, standIns := [], harness := (true, "5b1bc25aac6a8639558fa4e47d6ce66ec4bbabc243ae3b49def4a930d399750b"), looks := true }, kinds := [], alts := [], laidByText := true, laidKinds := [.data, .data, .data, .data, .sentinel, .sentinel, .data, .pinned], laidTests := true, laidLooks := .later }
def JsonSortsCardSaid : Prop := Claim7.holds Tryz.pinned (.plain (OpenSpec.ofChange jsonSortsSpec)) jsonSortsCard

/-- THE TIED CARD OF 'onionskinlaw11.JsonBlanks'. -/
def jsonBlanksCard : Claim7 := { stood := { row := jsonBlanksRow, standIns := [], harness := (true, "5b1bc25aac6a8639558fa4e47d6ce66ec4bbabc243ae3b49def4a930d399750b"), looks := true }, kinds := [], alts := [], laidByText := true, laidKinds := [.data, .data, .data, .data, .sentinel, .sentinel, .data, .pinned], laidTests := true, laidLooks := .later }
def JsonBlanksCardSaid : Prop := Claim7.holds Tryz.pinned (.plain (OpenSpec.ofChange jsonBlanksSpec)) jsonBlanksCard

/-- THE TIED CARD OF 'onionskinlaw11.JsonDeep'. -/
def jsonDeepCard : Claim7 := { stood := { row := jsonDeepRow, standIns := [], harness := (true, "5b1bc25aac6a8639558fa4e47d6ce66ec4bbabc243ae3b49def4a930d399750b"), looks := true }, kinds := [], alts := [], laidByText := true, laidKinds := [.data, .data, .data, .data, .sentinel, .sentinel, .data, .pinned], laidTests := true, laidLooks := .later }
def JsonDeepCardSaid : Prop := Claim7.holds Tryz.pinned (.plain (OpenSpec.ofChange jsonDeepSpec)) jsonDeepCard

/-- THE SECOND FORM's CARD OF 'onionskinlaw25.PlanParses'. -/
def planParsesUptoCard : Claim7 := { stood := { row := planParsesUptoRow, standIns := [], harness := (true, "5b1bc25aac6a8639558fa4e47d6ce66ec4bbabc243ae3b49def4a930d399750b"), looks := true }, kinds := [], alts := [], laidByText := true, laidKinds := [.data, .data, .data, .data, .sentinel, .sentinel, .data, .widerDeep, .pinned], laidTests := true, laidLooks := .later }
def PlanParsesUptoCardSaid : Prop := Claim7.holds Tryz.pinned (.plain (OpenSpec.upto planParsesSpec)) planParsesUptoCard

/-- THE SECOND FORM's CARD OF 'onionskinlaw25.PlanPrints'. -/
def planPrintsUptoCard : Claim7 := { stood := { row := planPrintsUptoRow, standIns := [], harness := (true, "5b1bc25aac6a8639558fa4e47d6ce66ec4bbabc243ae3b49def4a930d399750b"), looks := true }, kinds := [], alts := [], laidByText := true, laidKinds := [.data, .data, .data, .data, .sentinel, .sentinel, .data, .widerDeep, .pinned], laidTests := true, laidLooks := .later }
def PlanPrintsUptoCardSaid : Prop := Claim7.holds Tryz.pinned (.plain (OpenSpec.upto planPrintsSpec)) planPrintsUptoCard

/-- THE SECOND FORM's CARD OF 'onionskinlaw25.PlanBack'. -/
def planBackUptoCard : Claim7 := { stood := { row := planBackUptoRow, standIns := [], harness := (true, "5b1bc25aac6a8639558fa4e47d6ce66ec4bbabc243ae3b49def4a930d399750b"), looks := true }, kinds := [], alts := [], laidByText := true, laidKinds := [.data, .data, .data, .data, .sentinel, .sentinel, .data, .widerDeep, .pinned], laidTests := true, laidLooks := .later }
def PlanBackUptoCardSaid : Prop := Claim7.holds Tryz.pinned (.plain (OpenSpec.upto planBackSpec)) planBackUptoCard

/-- THE SECOND FORM's CARD OF 'onionskinlaw25.PlanParts'. -/
def planPartsUptoCard : Claim7 := { stood := { row := planPartsUptoRow, standIns := [], harness := (true, "5b1bc25aac6a8639558fa4e47d6ce66ec4bbabc243ae3b49def4a930d399750b"), looks := true }, kinds := [], alts := [], laidByText := true, laidKinds := [.data, .data, .data, .data, .sentinel, .sentinel, .data, .widerDeep, .pinned], laidTests := true, laidLooks := .later }
def PlanPartsUptoCardSaid : Prop := Claim7.holds Tryz.pinned (.plain (OpenSpec.upto planPartsSpec)) planPartsUptoCard

/-- THE SECOND FORM's CARD OF 'onionskinlaw25.PlanOrder'. -/
def planOrderUptoCard : Claim7 := { stood := { row := planOrderUptoRow, standIns := [], harness := (true, "5b1bc25aac6a8639558fa4e47d6ce66ec4bbabc243ae3b49def4a930d399750b"), looks := true }, kinds := [], alts := [], laidByText := true, laidKinds := [.data, .data, .data, .data, .sentinel, .sentinel, .data, .widerDeep, .pinned], laidTests := true, laidLooks := .later }
def PlanOrderUptoCardSaid : Prop := Claim7.holds Tryz.pinned (.plain (OpenSpec.upto planOrderSpec)) planOrderUptoCard

/-- THE SECOND FORM's CARD OF 'onionskinlaw11.JsonParses'. -/
def jsonParsesUptoCard : Claim7 := { stood := { row := jsonParsesUptoRow, standIns := [], harness := (true, "5b1bc25aac6a8639558fa4e47d6ce66ec4bbabc243ae3b49def4a930d399750b"), looks := true }, kinds := [], alts := [], laidByText := true, laidKinds := [.data, .data, .data, .data, .sentinel, .sentinel, .data, .pinned], laidTests := true, laidLooks := .later }
def JsonParsesUptoCardSaid : Prop := Claim7.holds Tryz.pinned (.plain (OpenSpec.upto jsonParsesSpec)) jsonParsesUptoCard

/-- THE SECOND FORM's CARD OF 'onionskinlaw11.JsonTells'. -/
def jsonTellsUptoCard : Claim7 := { stood := { row := jsonTellsUptoRow, standIns := [], harness := (true, "5b1bc25aac6a8639558fa4e47d6ce66ec4bbabc243ae3b49def4a930d399750b"), looks := true }, kinds := [], alts := [], laidByText := true, laidKinds := [.data, .data, .data, .data, .sentinel, .sentinel, .data, .pinned], laidTests := true, laidLooks := .later }
def JsonTellsUptoCardSaid : Prop := Claim7.holds Tryz.pinned (.plain (OpenSpec.upto jsonTellsSpec)) jsonTellsUptoCard

/-- THE SECOND FORM's CARD OF 'onionskinlaw11.JsonBack'. -/
def jsonBackUptoCard : Claim7 := { stood := { row := jsonBackUptoRow, standIns := [], harness := (true, "5b1bc25aac6a8639558fa4e47d6ce66ec4bbabc243ae3b49def4a930d399750b"), looks := true }, kinds := [], alts := [], laidByText := true, laidKinds := [.data, .data, .data, .data, .sentinel, .sentinel, .data, .pinned], laidTests := true, laidLooks := .later }
def JsonBackUptoCardSaid : Prop := Claim7.holds Tryz.pinned (.plain (OpenSpec.upto jsonBackSpec)) jsonBackUptoCard

/-- THE SECOND FORM's CARD OF 'onionskinlaw11.JsonSorts'. -/
def jsonSortsUptoCard : Claim7 := { stood := { row := jsonSortsUptoRow, standIns := [], harness := (true, "5b1bc25aac6a8639558fa4e47d6ce66ec4bbabc243ae3b49def4a930d399750b"), looks := true }, kinds := [], alts := [], laidByText := true, laidKinds := [.data, .data, .data, .data, .sentinel, .sentinel, .data, .pinned], laidTests := true, laidLooks := .later }
def JsonSortsUptoCardSaid : Prop := Claim7.holds Tryz.pinned (.plain (OpenSpec.upto jsonSortsSpec)) jsonSortsUptoCard

/-- THE SECOND FORM's CARD OF 'onionskinlaw11.JsonBlanks'. -/
def jsonBlanksUptoCard : Claim7 := { stood := { row := jsonBlanksUptoRow, standIns := [], harness := (true, "5b1bc25aac6a8639558fa4e47d6ce66ec4bbabc243ae3b49def4a930d399750b"), looks := true }, kinds := [], alts := [], laidByText := true, laidKinds := [.data, .data, .data, .data, .sentinel, .sentinel, .data, .pinned], laidTests := true, laidLooks := .later }
def JsonBlanksUptoCardSaid : Prop := Claim7.holds Tryz.pinned (.plain (OpenSpec.upto jsonBlanksSpec)) jsonBlanksUptoCard

/-- THE SECOND FORM's CARD OF 'onionskinlaw11.JsonDeep'. -/
def jsonDeepUptoCard : Claim7 := { stood := { row := jsonDeepUptoRow, standIns := [], harness := (true, "5b1bc25aac6a8639558fa4e47d6ce66ec4bbabc243ae3b49def4a930d399750b"), looks := true }, kinds := [], alts := [], laidByText := true, laidKinds := [.data, .data, .data, .data, .sentinel, .sentinel, .data, .pinned], laidTests := true, laidLooks := .later }
def JsonDeepUptoCardSaid : Prop := Claim7.holds Tryz.pinned (.plain (OpenSpec.upto jsonDeepSpec)) jsonDeepUptoCard
end Rows
end Go.Proofs.YtndkbecdjaedaaaGreatDoor
