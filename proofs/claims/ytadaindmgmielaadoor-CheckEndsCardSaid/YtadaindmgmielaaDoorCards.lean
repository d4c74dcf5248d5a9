/-
  DERIVED. GIVEN WITH THE SEED: THE CARDS: each row of YtadaindmgmielaaDoorRows.lean that lists a variable, with what it lists TIED to the program's text (the seventh form; the later family's looks); each row that meets fmt, with fmt's text TOLD by the authors' own Lean function (tested against real Go, not proved from fmt's source: count such statements apart). THE CARD IS WHAT COUNTS. Prove the row's statement (the work); the ties are given (YtadaindmgmielaaDoorTie.lean); close each card by the builder's one call (the guide's Derived/Test/ToyasCard.lean, 'card_holds'). Laid BY PROGRAM, IN A SANDBOX (cutbox-door.mjs). By AI agents, Wed Nov 11 2026. No macro, syntax, notation, axiom, sorry.
-/
import Derived.Test.YtadaindmgmielaaDoorRows
import GoSem.ClaimSeven
namespace Go.Proofs.YtadaindmgmielaaDoor
namespace Rows

/-- THE TIED CARD OF 'posthorselaw19.CheckEnds'. -/
def checkEndsCard : Claim7 := { stood := { row := checkEndsRow, standIns := [], harness := (true, "565b4173358048bc8034b147e4697ed39709093c60a782b2a7df3fe3599595a1"), looks := true }, kinds := [], alts := [], laidByText := true, laidKinds := [.handle], laidTests := true, laidLooks := .later }
def CheckEndsCardSaid : Prop := Claim7.holds Tryd.pinned (.plain (OpenSpec.ofChange checkEndsSpec)) checkEndsCard

/-- THE TIED CARD OF 'posthorselaw19.CheckLoops'. -/
def checkLoopsCard : Claim7 := { stood := { row := checkLoopsRow, standIns := [], harness := (true, "565b4173358048bc8034b147e4697ed39709093c60a782b2a7df3fe3599595a1"), looks := true }, kinds := [], alts := [], laidByText := true, laidKinds := [.handle], laidTests := true, laidLooks := .later }
def CheckLoopsCardSaid : Prop := Claim7.holds Tryd.pinned (.plain (OpenSpec.ofChange checkLoopsSpec)) checkLoopsCard

/-- THE TIED CARD OF 'posthorselaw19.CheckLooks'. -/
def checkLooksCard : Claim7 := { stood := { row := checkLooksRow, standIns := [], harness := (true, "565b4173358048bc8034b147e4697ed39709093c60a782b2a7df3fe3599595a1"), looks := true }, kinds := [], alts := [], laidByText := true, laidKinds := [.handle], laidTests := true, laidLooks := .later }
def CheckLooksCardSaid : Prop := Claim7.holds Tryd.pinned (.plain (OpenSpec.ofChange checkLooksSpec)) checkLooksCard

/-- THE TIED CARD OF 'posthorselaw20.RunSame'. -/
def runSameCard : Claim7 := { stood := { row := runSameRow, standIns := [], harness := (true, "565b4173358048bc8034b147e4697ed39709093c60a782b2a7df3fe3599595a1"), looks := true }, kinds := [], alts := [], laidByText := true, laidKinds := [.handle], laidTests := true, laidLooks := .later }
def RunSameCardSaid : Prop := Claim7.holds Tryd.pinned (.plain (OpenSpec.ofChange runSameSpec)) runSameCard

/-- THE SECOND FORM's CARD OF 'posthorselaw19.CheckEnds'. -/
def checkEndsUptoCard : Claim7 := { stood := { row := checkEndsUptoRow, standIns := [], harness := (true, "565b4173358048bc8034b147e4697ed39709093c60a782b2a7df3fe3599595a1"), looks := true }, kinds := [], alts := [], laidByText := true, laidKinds := [.handle], laidTests := true, laidLooks := .later }
def CheckEndsUptoCardSaid : Prop := Claim7.holds Tryd.pinned (.plain (OpenSpec.upto checkEndsSpec)) checkEndsUptoCard

/-- THE SECOND FORM's CARD OF 'posthorselaw19.CheckLoops'. -/
def checkLoopsUptoCard : Claim7 := { stood := { row := checkLoopsUptoRow, standIns := [], harness := (true, "565b4173358048bc8034b147e4697ed39709093c60a782b2a7df3fe3599595a1"), looks := true }, kinds := [], alts := [], laidByText := true, laidKinds := [.handle], laidTests := true, laidLooks := .later }
def CheckLoopsUptoCardSaid : Prop := Claim7.holds Tryd.pinned (.plain (OpenSpec.upto checkLoopsSpec)) checkLoopsUptoCard

/-- THE SECOND FORM's CARD OF 'posthorselaw19.CheckLooks'. -/
def checkLooksUptoCard : Claim7 := { stood := { row := checkLooksUptoRow, standIns := [], harness := (true, "565b4173358048bc8034b147e4697ed39709093c60a782b2a7df3fe3599595a1"), looks := true }, kinds := [], alts := [], laidByText := true, laidKinds := [.handle], laidTests := true, laidLooks := .later }
def CheckLooksUptoCardSaid : Prop := Claim7.holds Tryd.pinned (.plain (OpenSpec.upto checkLooksSpec)) checkLooksUptoCard

/-- THE SECOND FORM's CARD OF 'posthorselaw20.RunSame'. -/
def runSameUptoCard : Claim7 := { stood := { row := runSameUptoRow, standIns := [], harness := (true, "565b4173358048bc8034b147e4697ed39709093c60a782b2a7df3fe3599595a1"), looks := true }, kinds := [], alts := [], laidByText := true, laidKinds := [.handle], laidTests := true, laidLooks := .later }
def RunSameUptoCardSaid : Prop := Claim7.holds Tryd.pinned (.plain (OpenSpec.upto runSameSpec)) runSameUptoCard
end Rows
end Go.Proofs.YtadaindmgmielaaDoor
