/-
  DERIVED. GIVEN WITH THE SEED: THE CARDS: each row of YtkjdfkodclednaaGreatDoorRows.lean that lists a variable, with what it lists TIED to the program's text (the seventh form; the later family's looks); each row that meets fmt, with fmt's text TOLD by the authors' own Lean function (tested against real Go, not proved from fmt's source: count such statements apart). THE CARD IS WHAT COUNTS. Prove the row's statement (the work); the ties are given (YtkjdfkodclednaaGreatDoorTie.lean); close each card by the builder's one call (the guide's Derived/Test/ToyasCard.lean, 'card_holds'). Laid BY PROGRAM, IN A SANDBOX (cutbox-door.mjs). By AI agents, Wed Nov 11 2026. No macro, syntax, notation, axiom, sorry.
-/
import Derived.Test.YtkjdfkodclednaaGreatDoorRows
import GoSem.ClaimSeven
namespace Go.Proofs.YtkjdfkodclednaaGreatDoor
namespace Rows

/-- THE TIED CARD OF 'posthorselaw21.AsmTexts'. -/
def asmTextsCard : Claim7 := { stood := { row := asmTextsRow, standIns := [], harness := (true, "02dd947cec37b34b4d73bcb87e0b77b8c6beef2cb91e90eeb5875388aa8074e7"), looks := true }, kinds := [], alts := [], laidByText := true, laidKinds := [.data, .data, .data, .data, .handle, .sentinel, .sentinel, .widerDeep, .pinned], laidTests := true, laidLooks := .later }
def AsmTextsCardSaid : Prop := Claim7.holds Tryz.pinned (.plain (OpenSpec.ofChange asmTextsSpec)) asmTextsCard

/-- THE TIED CARD OF 'posthorselaw21.AsmParses'. -/
def asmParsesCard : Claim7 := { stood := { row := asmParsesRow, standIns := [], harness := (true, "02dd947cec37b34b4d73bcb87e0b77b8c6beef2cb91e90eeb5875388aa8074e7"), looks := true }, kinds := [], alts := [], laidByText := true, laidKinds := [.data, .data, .data, .data, .handle, .sentinel, .sentinel, .widerDeep, .pinned], laidTests := true, laidLooks := .later }
def AsmParsesCardSaid : Prop := Claim7.holds Tryz.pinned (.plain (OpenSpec.ofChange asmParsesSpec)) asmParsesCard

/-- THE TIED CARD OF 'posthorselaw22.StockLooks'. -/
def stockLooksCard : Claim7 := { stood := { row := stockLooksRow, standIns := [], harness := (true, "02dd947cec37b34b4d73bcb87e0b77b8c6beef2cb91e90eeb5875388aa8074e7"), looks := true }, kinds := [], alts := [], laidByText := true, laidKinds := [.data, .data, .data, .data, .sentinel, .sentinel, .widerDeep, .data, .pinned], laidTests := true, laidLooks := .later }
def StockLooksCardSaid : Prop := Claim7.holds Tryz.pinned (.plain (OpenSpec.ofChange stockLooksSpec)) stockLooksCard

/-- THE TIED CARD OF 'posthorselaw22.StockBetween'. -/
def stockBetweenCard : Claim7 := { stood := { row := stockBetweenRow, standIns := [], harness := (true, "02dd947cec37b34b4d73bcb87e0b77b8c6beef2cb91e90eeb5875388aa8074e7"), looks := true }, kinds := [], alts := [], laidByText := true, laidKinds := [.data, .data, .data, .data, .sentinel, .sentinel, .widerDeep, .data, .pinned], laidTests := true, laidLooks := .later }
def StockBetweenCardSaid : Prop := Claim7.holds Tryz.pinned (.plain (OpenSpec.ofChange stockBetweenSpec)) stockBetweenCard

/-- THE TIED CARD OF 'posthorselaw22.StockRight'. -/
def stockRightCard : Claim7 := { stood := { row := stockRightRow, standIns := [], harness := (true, "02dd947cec37b34b4d73bcb87e0b77b8c6beef2cb91e90eeb5875388aa8074e7"), looks := true }, kinds := [], alts := [], laidByText := true, laidKinds := [.data, .data, .data, .data, .sentinel, .sentinel, .widerDeep, .data, .pinned], laidTests := true, laidLooks := .later }
def StockRightCardSaid : Prop := Claim7.holds Tryz.pinned (.plain (OpenSpec.ofChange stockRightSpec)) stockRightCard

/-- THE SECOND FORM's CARD OF 'posthorselaw21.AsmTexts'. -/
def asmTextsUptoCard : Claim7 := { stood := { row := asmTextsUptoRow, standIns := [], harness := (true, "02dd947cec37b34b4d73bcb87e0b77b8c6beef2cb91e90eeb5875388aa8074e7"), looks := true }, kinds := [], alts := [], laidByText := true, laidKinds := [.data, .data, .data, .data, .handle, .sentinel, .sentinel, .widerDeep, .pinned], laidTests := true, laidLooks := .later }
def AsmTextsUptoCardSaid : Prop := Claim7.holds Tryz.pinned (.plain (OpenSpec.upto asmTextsSpec)) asmTextsUptoCard

/-- THE SECOND FORM's CARD OF 'posthorselaw21.AsmParses'. -/
def asmParsesUptoCard : Claim7 := { stood := { row := asmParsesUptoRow, standIns := [], harness := (true, "02dd947cec37b34b4d73bcb87e0b77b8c6beef2cb91e90eeb5875388aa8074e7"), looks := true }, kinds := [], alts := [], laidByText := true, laidKinds := [.data, .data, .data, .data, .handle, .sentinel, .sentinel, .widerDeep, .pinned], laidTests := true, laidLooks := .later }
def AsmParsesUptoCardSaid : Prop := Claim7.holds Tryz.pinned (.plain (OpenSpec.upto asmParsesSpec)) asmParsesUptoCard

/-- THE SECOND FORM's CARD OF 'posthorselaw22.StockLooks'. -/
def stockLooksUptoCard : Claim7 := { stood := { row := stockLooksUptoRow, standIns := [], harness := (true, "02dd947cec37b34b4d73bcb87e0b77b8c6beef2cb91e90eeb5875388aa8074e7"), looks := true }, kinds := [], alts := [], laidByText := true, laidKinds := [.data, .data, .data, .data, .sentinel, .sentinel, .widerDeep, .data, .pinned], laidTests := true, laidLooks := .later }
def StockLooksUptoCardSaid : Prop := Claim7.holds Tryz.pinned (.plain (OpenSpec.upto stockLooksSpec)) stockLooksUptoCard

/-- THE SECOND FORM's CARD OF 'posthorselaw22.StockBetween'. -/
def stockBetweenUptoCard : Claim7 := { stood := { row := stockBetweenUptoRow, standIns := [], harness := (true, "02dd947cec37b34b4d73bcb87e0b77b8c6beef2cb91e90eeb5875388aa8074e7"), looks := true }, kinds := [], alts := [], laidByText := true, laidKinds := [.data, .data, .data, .data, .sentinel, .sentinel, .widerDeep, .data, .pinned], laidTests := true, laidLooks := .later }
def StockBetweenUptoCardSaid : Prop := Claim7.holds Tryz.pinned (.plain (OpenSpec.upto stockBetweenSpec)) stockBetweenUptoCard

/-- THE SECOND FORM's CARD OF 'posthorselaw22.StockRight'. -/
def stockRightUptoCard : Claim7 := { stood := { row := stockRightUptoRow, standIns := [], harness := (true, "02dd947cec37b34b4d73bcb87e0b77b8c6beef2cb91e90eeb5875388aa8074e7"), looks := true }, kinds := [], alts := [], laidByText := true, laidKinds := [.data, .data, .data, .data, .sentinel, .sentinel, .widerDeep, .data, .pinned], laidTests := true, laidLooks := .later }
def StockRightUptoCardSaid : Prop := Claim7.holds Tryz.pinned (.plain (OpenSpec.upto stockRightSpec)) stockRightUptoCard
end Rows
end Go.Proofs.YtkjdfkodclednaaGreatDoor
