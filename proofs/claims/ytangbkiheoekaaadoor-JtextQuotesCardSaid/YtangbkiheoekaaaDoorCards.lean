/-
  DERIVED. GIVEN WITH THE SEED: THE CARDS: each row of YtangbkiheoekaaaDoorRows.lean that lists a variable, with what it lists TIED to the program's text (the seventh form; the later family's looks); each row that meets fmt, with fmt's text TOLD by the authors' own Lean function (tested against real Go, not proved from fmt's source: count such statements apart). THE CARD IS WHAT COUNTS. Prove the row's statement (the work); the ties are given (YtangbkiheoekaaaDoorTie.lean); close each card by the builder's one call (the guide's Derived/Test/ToyasCard.lean, 'card_holds'). Laid BY PROGRAM, IN A SANDBOX (cutbox-door.mjs). By AI agents, Wed Nov 11 2026. No macro, syntax, notation, axiom, sorry.
-/
import Derived.Test.YtangbkiheoekaaaDoorRows
import GoSem.ClaimSeven
namespace Go.Proofs.YtangbkiheoekaaaDoor
namespace Rows

/-- THE TIED CARD OF 'onionskinlaw10.JtextQuotes'. -/
def jtextQuotesCard : Claim7 := { stood := { row := jtextQuotesRow, standIns := [], harness := (true, "4bed0ca8ea448f2c3e03ee4bde277afa7973cef358c9059d53f6ec3dafd11d12"), looks := true }, kinds := [], alts := [], laidByText := true, laidKinds := [.data, .data, .data, .data, .sentinel, .sentinel, .pinned], laidTests := true, laidLooks := .later }
def JtextQuotesCardSaid : Prop := Claim7.holds Tryd.pinned (.plain (OpenSpec.ofChange jtextQuotesSpec)) jtextQuotesCard

/-- THE TIED CARD OF 'onionskinlaw10.JtextNumbers'. -/
def jtextNumbersCard : Claim7 := { stood := { row := jtextNumbersRow, standIns := [], harness := (true, "4bed0ca8ea448f2c3e03ee4bde277afa7973cef358c9059d53f6ec3dafd11d12"), looks := true }, kinds := [], alts := [], laidByText := true, laidKinds := [.data, .data, .data, .data, .sentinel, .sentinel, .pinned], laidTests := true, laidLooks := .later }
def JtextNumbersCardSaid : Prop := Claim7.holds Tryd.pinned (.plain (OpenSpec.ofChange jtextNumbersSpec)) jtextNumbersCard

/-- THE TIED CARD OF 'onionskinlaw10.JtextBack'. -/
def jtextBackCard : Claim7 := { stood := { row := jtextBackRow, standIns := [], harness := (true, "4bed0ca8ea448f2c3e03ee4bde277afa7973cef358c9059d53f6ec3dafd11d12"), looks := true }, kinds := [], alts := [], laidByText := true, laidKinds := [.data, .data, .data, .data, .sentinel, .sentinel, .pinned], laidTests := true, laidLooks := .later }
def JtextBackCardSaid : Prop := Claim7.holds Tryd.pinned (.plain (OpenSpec.ofChange jtextBackSpec)) jtextBackCard

/-- THE TIED CARD OF 'onionskinlaw10.JtextInts'. -/
def jtextIntsCard : Claim7 := { stood := { row := jtextIntsRow, standIns := [], harness := (true, "4bed0ca8ea448f2c3e03ee4bde277afa7973cef358c9059d53f6ec3dafd11d12"), looks := true }, kinds := [], alts := [], laidByText := true, laidKinds := [.data, .data, .data, .data, .sentinel, .sentinel, .pinned], laidTests := true, laidLooks := .later }
def JtextIntsCardSaid : Prop := Claim7.holds Tryd.pinned (.plain (OpenSpec.ofChange jtextIntsSpec)) jtextIntsCard

/-- THE TIED CARD OF 'onionskinlaw10.JtextParts'. -/
def jtextPartsCard : Claim7 := { stood := { row := jtextPartsRow, standIns := [], harness := (true, "4bed0ca8ea448f2c3e03ee4bde277afa7973cef358c9059d53f6ec3dafd11d12"), looks := true }, kinds := [], alts := [], laidByText := true, laidKinds := [.data, .data, .data, .data, .sentinel, .sentinel, .pinned], laidTests := true, laidLooks := .later }
def JtextPartsCardSaid : Prop := Claim7.holds Tryd.pinned (.plain (OpenSpec.ofChange jtextPartsSpec)) jtextPartsCard

/-- THE TIED CARD OF 'onionskinlaw10.JtextEnds'. -/
def jtextEndsCard : Claim7 := { stood := { row := jtextEndsRow, standIns := [], harness := (true, "4bed0ca8ea448f2c3e03ee4bde277afa7973cef358c9059d53f6ec3dafd11d12"), looks := true }, kinds := [], alts := [], laidByText := true, laidKinds := [.data, .data, .data, .data, .sentinel, .sentinel, .pinned], laidTests := true, laidLooks := .later }
def JtextEndsCardSaid : Prop := Claim7.holds Tryd.pinned (.plain (OpenSpec.ofChange jtextEndsSpec)) jtextEndsCard

/-- THE SECOND FORM's CARD OF 'onionskinlaw10.JtextQuotes'. -/
def jtextQuotesUptoCard : Claim7 := { stood := { row := jtextQuotesUptoRow, standIns := [], harness := (true, "4bed0ca8ea448f2c3e03ee4bde277afa7973cef358c9059d53f6ec3dafd11d12"), looks := true }, kinds := [], alts := [], laidByText := true, laidKinds := [.data, .data, .data, .data, .sentinel, .sentinel, .pinned], laidTests := true, laidLooks := .later }
def JtextQuotesUptoCardSaid : Prop := Claim7.holds Tryd.pinned (.plain (OpenSpec.upto jtextQuotesSpec)) jtextQuotesUptoCard

/-- THE SECOND FORM's CARD OF 'onionskinlaw10.JtextNumbers'. -/
def jtextNumbersUptoCard : Claim7 := { stood := { row := jtextNumbersUptoRow, standIns := [], harness := (true, "4bed0ca8ea448f2c3e03ee4bde277afa7973cef358c9059d53f6ec3dafd11d12"), looks := true }, kinds := [], alts := [], laidByText := true, laidKinds := [.data, .data, .data, .data, .sentinel, .sentinel, .pinned], laidTests := true, laidLooks := .later }
def JtextNumbersUptoCardSaid : Prop := Claim7.holds Tryd.pinned (.plain (OpenSpec.upto jtextNumbersSpec)) jtextNumbersUptoCard

/-- THE SECOND FORM's CARD OF 'onionskinlaw10.JtextBack'. -/
def jtextBackUptoCard : Claim7 := { stood := { row := jtextBackUptoRow, standIns := [], harness := (true, "4bed0ca8ea448f2c3e03ee4bde277afa7973cef358c9059d53f6ec3dafd11d12"), looks := true }, kinds := [], alts := [], laidByText := true, laidKinds := [.data, .data, .data, .data, .sentinel, .sentinel, .pinned], laidTests := true, laidLooks := .later }
def JtextBackUptoCardSaid : Prop := Claim7.holds Tryd.pinned (.plain (OpenSpec.upto jtextBackSpec)) jtextBackUptoCard

/-- THE SECOND FORM's CARD OF 'onionskinlaw10.JtextInts'. -/
def jtextIntsUptoCard : Claim7 := { stood := { row := jtextIntsUptoRow, standIns := [], harness := (true, "4bed0ca8ea448f2c3e03ee4bde277afa7973cef358c9059d53f6ec3dafd11d12"), looks := true }, kinds := [], alts := [], laidByText := true, laidKinds := [.data, .data, .data, .data, .sentinel, .sentinel, .pinned], laidTests := true, laidLooks := .later }
def JtextIntsUptoCardSaid : Prop := Claim7.holds Tryd.pinned (.plain (OpenSpec.upto jtextIntsSpec)) jtextIntsUptoCard

/-- THE SECOND FORM's CARD OF 'onionskinlaw10.JtextParts'. -/
def jtextPartsUptoCard : Claim7 := { stood := { row := jtextPartsUptoRow, standIns := [], harness := (true, "4bed0ca8ea448f2c3e03ee4bde277afa7973cef358c9059d53f6ec3dafd11d12"), looks := true }, kinds := [], alts := [], laidByText := true, laidKinds := [.data, .data, .data, .data, .sentinel, .sentinel, .pinned], laidTests := true, laidLooks := .later }
def JtextPartsUptoCardSaid : Prop := Claim7.holds Tryd.pinned (.plain (OpenSpec.upto jtextPartsSpec)) jtextPartsUptoCard

/-- THE SECOND FORM's CARD OF 'onionskinlaw10.JtextEnds'. -/
def jtextEndsUptoCard : Claim7 := { stood := { row := jtextEndsUptoRow, standIns := [], harness := (true, "4bed0ca8ea448f2c3e03ee4bde277afa7973cef358c9059d53f6ec3dafd11d12"), looks := true }, kinds := [], alts := [], laidByText := true, laidKinds := [.data, .data, .data, .data, .sentinel, .sentinel, .pinned], laidTests := true, laidLooks := .later }
def JtextEndsUptoCardSaid : Prop := Claim7.holds Tryd.pinned (.plain (OpenSpec.upto jtextEndsSpec)) jtextEndsUptoCard
end Rows
end Go.Proofs.YtangbkiheoekaaaDoor
