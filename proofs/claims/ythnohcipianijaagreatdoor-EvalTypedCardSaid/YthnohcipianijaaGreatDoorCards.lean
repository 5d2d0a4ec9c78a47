/-
  DERIVED. GIVEN WITH THE SEED: THE CARDS: each row of YthnohcipianijaaGreatDoorRows.lean that lists a variable, with what it lists TIED to the program's text (the seventh form; the later family's looks); each row that meets fmt, with fmt's text TOLD by the authors' own Lean function (tested against real Go, not proved from fmt's source: count such statements apart). THE CARD IS WHAT COUNTS. Prove the row's statement (the work); the ties are given (YthnohcipianijaaGreatDoorTie.lean); close each card by the builder's one call (the guide's Derived/Test/ToyasCard.lean, 'card_holds'). Laid BY PROGRAM, IN A SANDBOX (cutbox-door.mjs). By AI agents, Wed Nov 11 2026. No macro, syntax, notation, axiom, sorry.
-/
import Derived.Test.YthnohcipianijaaGreatDoorRows
import GoSem.ClaimSeven
namespace Go.Proofs.YthnohcipianijaaGreatDoor
namespace Rows

/-- THE TIED CARD OF 'semvcslaw09.EvalData'. -/
def evalDataCard : Claim7 := { stood := { row := evalDataRow, standIns := [], harness := (true, "41b07cf41c3e02a0018363b415e569db356623defaa9ed8012972b37940e404f"), looks := true }, kinds := [], alts := [], laidByText := true, laidKinds := [.data, .data, .data, .sentinel, .sentinel], laidTests := true, laidLooks := .later }
def EvalDataCardSaid : Prop := Claim7.holds Tryz.pinned (.plain (OpenSpec.ofChange evalDataSpec)) evalDataCard

/-- THE TIED CARD OF 'semvcslaw09.EvalSames'. -/
def evalSamesCard : Claim7 := { stood := { row := evalSamesRow, standIns := [], harness := (true, "41b07cf41c3e02a0018363b415e569db356623defaa9ed8012972b37940e404f"), looks := true }, kinds := [], alts := [], laidByText := true, laidKinds := [.data, .data, .data, .sentinel, .sentinel], laidTests := true, laidLooks := .later }
def EvalSamesCardSaid : Prop := Claim7.holds Tryz.pinned (.plain (OpenSpec.ofChange evalSamesSpec)) evalSamesCard

/-- THE TIED CARD OF 'semvcslaw09.EvalRuns'. -/
def evalRunsCard : Claim7 := { stood := { row := evalRunsRow, standIns := [], harness := (true, "41b07cf41c3e02a0018363b415e569db356623defaa9ed8012972b37940e404f"), looks := true }, kinds := [], alts := [], laidByText := true, laidKinds := [.data, .data, .data, .sentinel, .sentinel], laidTests := true, laidLooks := .later }
def EvalRunsCardSaid : Prop := Claim7.holds Tryz.pinned (.plain (OpenSpec.ofChange evalRunsSpec)) evalRunsCard

/-- THE TIED CARD OF 'semvcslaw09.EvalTrees'. -/
def evalTreesCard : Claim7 := { stood := { row := evalTreesRow, standIns := [], harness := (true, "41b07cf41c3e02a0018363b415e569db356623defaa9ed8012972b37940e404f"), looks := true }, kinds := [], alts := [], laidByText := true, laidKinds := [.data, .data, .data, .sentinel, .sentinel], laidTests := true, laidLooks := .later }
def EvalTreesCardSaid : Prop := Claim7.holds Tryz.pinned (.plain (OpenSpec.ofChange evalTreesSpec)) evalTreesCard

/-- THE TIED CARD OF 'semvcslaw09.EvalFuel'. -/
def evalFuelCard : Claim7 := { stood := { row := evalFuelRow, standIns := [], harness := (true, "41b07cf41c3e02a0018363b415e569db356623defaa9ed8012972b37940e404f"), looks := true }, kinds := [], alts := [], laidByText := true, laidKinds := [.data, .data, .data, .sentinel, .sentinel], laidTests := true, laidLooks := .later }
def EvalFuelCardSaid : Prop := Claim7.holds Tryz.pinned (.plain (OpenSpec.ofChange evalFuelSpec)) evalFuelCard

/-- THE TIED CARD OF 'semvcslaw09.EvalLayout'. -/
def evalLayoutCard : Claim7 := { stood := { row := evalLayoutRow, standIns := [], harness := (true, "41b07cf41c3e02a0018363b415e569db356623defaa9ed8012972b37940e404f"), looks := true }, kinds := [], alts := [], laidByText := true, laidKinds := [.data, .data, .data, .sentinel, .sentinel], laidTests := true, laidLooks := .later }
def EvalLayoutCardSaid : Prop := Claim7.holds Tryz.pinned (.plain (OpenSpec.ofChange evalLayoutSpec)) evalLayoutCard

/-- THE TIED CARD OF 'semvcslaw09.EvalSums'. -/
def evalSumsCard : Claim7 := { stood := { row := evalSumsRow, standIns := [], harness := (true, "41b07cf41c3e02a0018363b415e569db356623defaa9ed8012972b37940e404f"), looks := true }, kinds := [], alts := [], laidByText := true, laidKinds := [.data, .data, .data, .sentinel, .sentinel], laidTests := true, laidLooks := .later }
def EvalSumsCardSaid : Prop := Claim7.holds Tryz.pinned (.plain (OpenSpec.ofChange evalSumsSpec)) evalSumsCard

/-- THE TIED CARD OF 'semvcslaw09.EvalWraps'. -/
def evalWrapsCard : Claim7 := { stood := { row := evalWrapsRow, standIns := [], harness := (true, "41b07cf41c3e02a0018363b415e569db356623defaa9ed8012972b37940e404f"), looks := true }, kinds := [], alts := [], laidByText := true, laidKinds := [.data, .data, .data, .sentinel, .sentinel], laidTests := true, laidLooks := .later }
def EvalWrapsCardSaid : Prop := Claim7.holds Tryz.pinned (.plain (OpenSpec.ofChange evalWrapsSpec)) evalWrapsCard

/-- THE TIED CARD OF 'semvcslaw09.EvalTyped'. -/
def evalTypedCard : Claim7 := { stood := { row := evalTypedRow, standIns := [], harness := (true, "41b07cf41c3e02a0018363b415e569db356623defaa9ed8012972b37940e404f"), looks := true }, kinds := [], alts := [], laidByText := true, laidKinds := [.data, .data, .data, .sentinel, .sentinel, .data, .data, .data], laidTests := true, laidLooks := .later }
def EvalTypedCardSaid : Prop := Claim7.holds Tryz.pinned (.plain (OpenSpec.ofChange evalTypedSpec)) evalTypedCard

/-- THE SECOND FORM's CARD OF 'semvcslaw09.EvalData'. -/
def evalDataUptoCard : Claim7 := { stood := { row := evalDataUptoRow, standIns := [], harness := (true, "41b07cf41c3e02a0018363b415e569db356623defaa9ed8012972b37940e404f"), looks := true }, kinds := [], alts := [], laidByText := true, laidKinds := [.data, .data, .data, .sentinel, .sentinel], laidTests := true, laidLooks := .later }
def EvalDataUptoCardSaid : Prop := Claim7.holds Tryz.pinned (.plain (OpenSpec.upto evalDataSpec)) evalDataUptoCard

/-- THE SECOND FORM's CARD OF 'semvcslaw09.EvalSames'. -/
def evalSamesUptoCard : Claim7 := { stood := { row := evalSamesUptoRow, standIns := [], harness := (true, "41b07cf41c3e02a0018363b415e569db356623defaa9ed8012972b37940e404f"), looks := true }, kinds := [], alts := [], laidByText := true, laidKinds := [.data, .data, .data, .sentinel, .sentinel], laidTests := true, laidLooks := .later }
def EvalSamesUptoCardSaid : Prop := Claim7.holds Tryz.pinned (.plain (OpenSpec.upto evalSamesSpec)) evalSamesUptoCard

/-- THE SECOND FORM's CARD OF 'semvcslaw09.EvalRuns'. -/
def evalRunsUptoCard : Claim7 := { stood := { row := evalRunsUptoRow, standIns := [], harness := (true, "41b07cf41c3e02a0018363b415e569db356623defaa9ed8012972b37940e404f"), looks := true }, kinds := [], alts := [], laidByText := true, laidKinds := [.data, .data, .data, .sentinel, .sentinel], laidTests := true, laidLooks := .later }
def EvalRunsUptoCardSaid : Prop := Claim7.holds Tryz.pinned (.plain (OpenSpec.upto evalRunsSpec)) evalRunsUptoCard

/-- THE SECOND FORM's CARD OF 'semvcslaw09.EvalTrees'. -/
def evalTreesUptoCard : Claim7 := { stood := { row := evalTreesUptoRow, standIns := [], harness := (true, "41b07cf41c3e02a0018363b415e569db356623defaa9ed8012972b37940e404f"), looks := true }, kinds := [], alts := [], laidByText := true, laidKinds := [.data, .data, .data, .sentinel, .sentinel], laidTests := true, laidLooks := .later }
def EvalTreesUptoCardSaid : Prop := Claim7.holds Tryz.pinned (.plain (OpenSpec.upto evalTreesSpec)) evalTreesUptoCard

/-- THE SECOND FORM's CARD OF 'semvcslaw09.EvalFuel'. -/
def evalFuelUptoCard : Claim7 := { stood := { row := evalFuelUptoRow, standIns := [], harness := (true, "41b07cf41c3e02a0018363b415e569db356623defaa9ed8012972b37940e404f"), looks := true }, kinds := [], alts := [], laidByText := true, laidKinds := [.data, .data, .data, .sentinel, .sentinel], laidTests := true, laidLooks := .later }
def EvalFuelUptoCardSaid : Prop := Claim7.holds Tryz.pinned (.plain (OpenSpec.upto evalFuelSpec)) evalFuelUptoCard

/-- THE SECOND FORM's CARD OF 'semvcslaw09.EvalLayout'. -/
def evalLayoutUptoCard : Claim7 := { stood := { row := evalLayoutUptoRow, standIns := [], harness := (true, "41b07cf41c3e02a0018363b415e569db356623defaa9ed8012972b37940e404f"), looks := true }, kinds := [], alts := [], laidByText := true, laidKinds := [.data, .data, .data, .sentinel, .sentinel], laidTests := true, laidLooks := .later }
def EvalLayoutUptoCardSaid : Prop := Claim7.holds Tryz.pinned (.plain (OpenSpec.upto evalLayoutSpec)) evalLayoutUptoCard

/-- THE SECOND FORM's CARD OF 'semvcslaw09.EvalSums'. -/
def evalSumsUptoCard : Claim7 := { stood := { row := evalSumsUptoRow, standIns := [], harness := (true, "41b07cf41c3e02a0018363b415e569db356623defaa9ed8012972b37940e404f"), looks := true }, kinds := [], alts := [], laidByText := true, laidKinds := [.data, .data, .data, .sentinel, .sentinel], laidTests := true, laidLooks := .later }
def EvalSumsUptoCardSaid : Prop := Claim7.holds Tryz.pinned (.plain (OpenSpec.upto evalSumsSpec)) evalSumsUptoCard

/-- THE SECOND FORM's CARD OF 'semvcslaw09.EvalWraps'. -/
def evalWrapsUptoCard : Claim7 := { stood := { row := evalWrapsUptoRow, standIns := [], harness := (true, "41b07cf41c3e02a0018363b415e569db356623defaa9ed8012972b37940e404f"), looks := true }, kinds := [], alts := [], laidByText := true, laidKinds := [.data, .data, .data, .sentinel, .sentinel], laidTests := true, laidLooks := .later }
def EvalWrapsUptoCardSaid : Prop := Claim7.holds Tryz.pinned (.plain (OpenSpec.upto evalWrapsSpec)) evalWrapsUptoCard

/-- THE SECOND FORM's CARD OF 'semvcslaw09.EvalTyped'. -/
def evalTypedUptoCard : Claim7 := { stood := { row := evalTypedUptoRow, standIns := [], harness := (true, "41b07cf41c3e02a0018363b415e569db356623defaa9ed8012972b37940e404f"), looks := true }, kinds := [], alts := [], laidByText := true, laidKinds := [.data, .data, .data, .sentinel, .sentinel, .data, .data, .data], laidTests := true, laidLooks := .later }
def EvalTypedUptoCardSaid : Prop := Claim7.holds Tryz.pinned (.plain (OpenSpec.upto evalTypedSpec)) evalTypedUptoCard
end Rows
end Go.Proofs.YthnohcipianijaaGreatDoor
