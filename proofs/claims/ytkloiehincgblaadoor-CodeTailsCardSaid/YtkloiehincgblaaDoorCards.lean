/-
  DERIVED. GIVEN WITH THE SEED: THE CARDS: each row of YtkloiehincgblaaDoorRows.lean that lists a variable, with what it lists TIED to the program's text (the seventh form; the later family's looks); each row that meets fmt, with fmt's text TOLD by the authors' own Lean function (tested against real Go, not proved from fmt's source: count such statements apart). THE CARD IS WHAT COUNTS. Prove the row's statement (the work); the ties are given (YtkloiehincgblaaDoorTie.lean); close each card by the builder's one call (the guide's Derived/Test/ToyasCard.lean, 'card_holds'). Laid BY PROGRAM, IN A SANDBOX (cutbox-door.mjs). By AI agents, Wed Nov 11 2026. No macro, syntax, notation, axiom, sorry.
-/
import Derived.Test.YtkloiehincgblaaDoorRows
import GoSem.ClaimSeven
namespace Go.Proofs.YtkloiehincgblaaDoor
namespace Rows

/-- THE TIED CARD OF 'gristmilllaw23.CodeTails'. -/
def codeTailsCard : Claim7 := { stood := { row := codeTailsRow, standIns := [], harness := (true, "94616bfe2d6c78d0ed8a4206cdeafd405193b2d963aec8ee3959d142bbfcc430"), looks := true }, kinds := [], alts := [], laidByText := true, laidKinds := [.sentinel, .sentinel, .sentinel], laidTests := true, laidLooks := .later }
def CodeTailsCardSaid : Prop := Claim7.holds Tryd.pinned (.plain (OpenSpec.ofChange codeTailsSpec)) codeTailsCard

/-- THE TIED CARD OF 'gristmilllaw23.CodeReads'. -/
def codeReadsCard : Claim7 := { stood := { row := codeReadsRow, standIns := [], harness := (true, "94616bfe2d6c78d0ed8a4206cdeafd405193b2d963aec8ee3959d142bbfcc430"), looks := true }, kinds := [], alts := [], laidByText := true, laidKinds := [.sentinel, .sentinel, .sentinel], laidTests := true, laidLooks := .later }
def CodeReadsCardSaid : Prop := Claim7.holds Tryd.pinned (.plain (OpenSpec.ofChange codeReadsSpec)) codeReadsCard

/-- THE TIED CARD OF 'gristmilllaw15.GrinMore'. -/
def grinMoreCard : Claim7 := { stood := { row := grinMoreRow, standIns := [], harness := (true, "94616bfe2d6c78d0ed8a4206cdeafd405193b2d963aec8ee3959d142bbfcc430"), looks := true }, kinds := [], alts := [], laidByText := true, laidKinds := [.sentinel, .sentinel, .sentinel, .sentinel, .sentinel, .sentinel, .sentinel, .sentinel, .sentinel, .sentinel, .sentinel, .sentinel, .sentinel, .sentinel, .sentinel, .sentinel, .sentinel, .sentinel], laidTests := true, laidLooks := .later }
def GrinMoreCardSaid : Prop := Claim7.holds Tryd.pinned (.plain (OpenSpec.ofChange grinMoreSpec)) grinMoreCard

/-- THE TIED CARD OF 'gristmilllaw15.GrinOwn'. -/
def grinOwnCard : Claim7 := { stood := { row := grinOwnRow, standIns := [], harness := (true, "94616bfe2d6c78d0ed8a4206cdeafd405193b2d963aec8ee3959d142bbfcc430"), looks := true }, kinds := [], alts := [], laidByText := true, laidKinds := [.sentinel, .sentinel, .sentinel, .sentinel, .sentinel, .sentinel, .sentinel, .sentinel, .sentinel, .sentinel, .sentinel, .sentinel, .sentinel, .sentinel, .sentinel, .sentinel, .sentinel, .sentinel], laidTests := true, laidLooks := .later }
def GrinOwnCardSaid : Prop := Claim7.holds Tryd.pinned (.plain (OpenSpec.ofChange grinOwnSpec)) grinOwnCard

/-- THE TIED CARD OF 'gristmilllaw24.RegsFew'. -/
def regsFewCard : Claim7 := { stood := { row := regsFewRow, standIns := [], harness := (true, "94616bfe2d6c78d0ed8a4206cdeafd405193b2d963aec8ee3959d142bbfcc430"), looks := true }, kinds := [], alts := [], laidByText := true, laidKinds := [.data, .data, .data], laidTests := true, laidLooks := .later }
def RegsFewCardSaid : Prop := Claim7.holds Tryd.pinned (.plain (OpenSpec.ofChange regsFewSpec)) regsFewCard

/-- THE TIED CARD OF 'gristmilllaw17.RunMore'. -/
def runMoreCard : Claim7 := { stood := { row := runMoreRow, standIns := [], harness := (true, "94616bfe2d6c78d0ed8a4206cdeafd405193b2d963aec8ee3959d142bbfcc430"), looks := true }, kinds := [], alts := [], laidByText := true, laidKinds := [.sentinel, .sentinel, .sentinel, .sentinel, .sentinel, .sentinel, .sentinel, .sentinel, .sentinel], laidTests := true, laidLooks := .later }
def RunMoreCardSaid : Prop := Claim7.holds Tryd.pinned (.plain (OpenSpec.ofChange runMoreSpec)) runMoreCard

/-- THE TIED CARD OF 'gristmilllaw24.EmitBack'. -/
def emitBackCard : Claim7 := { stood := { row := emitBackRow, standIns := [], harness := (true, "94616bfe2d6c78d0ed8a4206cdeafd405193b2d963aec8ee3959d142bbfcc430"), looks := true }, kinds := [], alts := [], laidByText := true, laidKinds := [.sentinel, .sentinel, .sentinel, .sentinel, .sentinel, .sentinel, .sentinel, .sentinel, .sentinel, .sentinel, .sentinel], laidTests := true, laidLooks := .later }
def EmitBackCardSaid : Prop := Claim7.holds Tryd.pinned (.plain (OpenSpec.ofChange emitBackSpec)) emitBackCard

/-- THE SECOND FORM's CARD OF 'gristmilllaw23.CodeTails'. -/
def codeTailsUptoCard : Claim7 := { stood := { row := codeTailsUptoRow, standIns := [], harness := (true, "94616bfe2d6c78d0ed8a4206cdeafd405193b2d963aec8ee3959d142bbfcc430"), looks := true }, kinds := [], alts := [], laidByText := true, laidKinds := [.sentinel, .sentinel, .sentinel], laidTests := true, laidLooks := .later }
def CodeTailsUptoCardSaid : Prop := Claim7.holds Tryd.pinned (.plain (OpenSpec.upto codeTailsSpec)) codeTailsUptoCard

/-- THE SECOND FORM's CARD OF 'gristmilllaw23.CodeReads'. -/
def codeReadsUptoCard : Claim7 := { stood := { row := codeReadsUptoRow, standIns := [], harness := (true, "94616bfe2d6c78d0ed8a4206cdeafd405193b2d963aec8ee3959d142bbfcc430"), looks := true }, kinds := [], alts := [], laidByText := true, laidKinds := [.sentinel, .sentinel, .sentinel], laidTests := true, laidLooks := .later }
def CodeReadsUptoCardSaid : Prop := Claim7.holds Tryd.pinned (.plain (OpenSpec.upto codeReadsSpec)) codeReadsUptoCard

/-- THE SECOND FORM's CARD OF 'gristmilllaw15.GrinMore'. -/
def grinMoreUptoCard : Claim7 := { stood := { row := grinMoreUptoRow, standIns := [], harness := (true, "94616bfe2d6c78d0ed8a4206cdeafd405193b2d963aec8ee3959d142bbfcc430"), looks := true }, kinds := [], alts := [], laidByText := true, laidKinds := [.sentinel, .sentinel, .sentinel, .sentinel, .sentinel, .sentinel, .sentinel, .sentinel, .sentinel, .sentinel, .sentinel, .sentinel, .sentinel, .sentinel, .sentinel, .sentinel, .sentinel, .sentinel], laidTests := true, laidLooks := .later }
def GrinMoreUptoCardSaid : Prop := Claim7.holds Tryd.pinned (.plain (OpenSpec.upto grinMoreSpec)) grinMoreUptoCard

/-- THE SECOND FORM's CARD OF 'gristmilllaw15.GrinOwn'. -/
def grinOwnUptoCard : Claim7 := { stood := { row := grinOwnUptoRow, standIns := [], harness := (true, "94616bfe2d6c78d0ed8a4206cdeafd405193b2d963aec8ee3959d142bbfcc430"), looks := true }, kinds := [], alts := [], laidByText := true, laidKinds := [.sentinel, .sentinel, .sentinel, .sentinel, .sentinel, .sentinel, .sentinel, .sentinel, .sentinel, .sentinel, .sentinel, .sentinel, .sentinel, .sentinel, .sentinel, .sentinel, .sentinel, .sentinel], laidTests := true, laidLooks := .later }
def GrinOwnUptoCardSaid : Prop := Claim7.holds Tryd.pinned (.plain (OpenSpec.upto grinOwnSpec)) grinOwnUptoCard

/-- THE SECOND FORM's CARD OF 'gristmilllaw24.RegsFew'. -/
def regsFewUptoCard : Claim7 := { stood := { row := regsFewUptoRow, standIns := [], harness := (true, "94616bfe2d6c78d0ed8a4206cdeafd405193b2d963aec8ee3959d142bbfcc430"), looks := true }, kinds := [], alts := [], laidByText := true, laidKinds := [.data, .data, .data], laidTests := true, laidLooks := .later }
def RegsFewUptoCardSaid : Prop := Claim7.holds Tryd.pinned (.plain (OpenSpec.upto regsFewSpec)) regsFewUptoCard

/-- THE SECOND FORM's CARD OF 'gristmilllaw17.RunMore'. -/
def runMoreUptoCard : Claim7 := { stood := { row := runMoreUptoRow, standIns := [], harness := (true, "94616bfe2d6c78d0ed8a4206cdeafd405193b2d963aec8ee3959d142bbfcc430"), looks := true }, kinds := [], alts := [], laidByText := true, laidKinds := [.sentinel, .sentinel, .sentinel, .sentinel, .sentinel, .sentinel, .sentinel, .sentinel, .sentinel], laidTests := true, laidLooks := .later }
def RunMoreUptoCardSaid : Prop := Claim7.holds Tryd.pinned (.plain (OpenSpec.upto runMoreSpec)) runMoreUptoCard

/-- THE SECOND FORM's CARD OF 'gristmilllaw24.EmitBack'. -/
def emitBackUptoCard : Claim7 := { stood := { row := emitBackUptoRow, standIns := [], harness := (true, "94616bfe2d6c78d0ed8a4206cdeafd405193b2d963aec8ee3959d142bbfcc430"), looks := true }, kinds := [], alts := [], laidByText := true, laidKinds := [.sentinel, .sentinel, .sentinel, .sentinel, .sentinel, .sentinel, .sentinel, .sentinel, .sentinel, .sentinel, .sentinel], laidTests := true, laidLooks := .later }
def EmitBackUptoCardSaid : Prop := Claim7.holds Tryd.pinned (.plain (OpenSpec.upto emitBackSpec)) emitBackUptoCard
end Rows
end Go.Proofs.YtkloiehincgblaaDoor
