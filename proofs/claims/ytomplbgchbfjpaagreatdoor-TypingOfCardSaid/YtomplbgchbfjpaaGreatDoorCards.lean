/-
  DERIVED. GIVEN WITH THE SEED: THE CARDS: each row of YtomplbgchbfjpaaGreatDoorRows.lean that lists a variable, with what it lists TIED to the program's text (the seventh form; the later family's looks); each row that meets fmt, with fmt's text TOLD by the authors' own Lean function (tested against real Go, not proved from fmt's source: count such statements apart). THE CARD IS WHAT COUNTS. Prove the row's statement (the work); the ties are given (YtomplbgchbfjpaaGreatDoorTie.lean); close each card by the builder's one call (the guide's Derived/Test/ToyasCard.lean, 'card_holds'). Laid BY PROGRAM, IN A SANDBOX (cutbox-door.mjs). By AI agents, Wed Nov 11 2026. No macro, syntax, notation, axiom, sorry.
-/
import Derived.Test.YtomplbgchbfjpaaGreatDoorRows
import GoSem.ClaimSeven
namespace Go.Proofs.YtomplbgchbfjpaaGreatDoor
namespace Rows

/-- THE TIED CARD OF 'semvcslaw08.TypingTrees'. -/
def typingTreesCard : Claim7 := { stood := { row := typingTreesRow, standIns := [], harness := (true, "20b538da42bd9e505e0fd46ea3772c3256e538f2b7e28a1789a07f6f090253c2"), looks := false }, kinds := [], alts := [], laidByText := true, laidKinds := [.data, .data, .data], laidTests := true, laidLooks := .later }
def TypingTreesCardSaid : Prop := Claim7.holds Tryz.pinned (.plain (OpenSpec.ofChange typingTreesSpec)) typingTreesCard

/-- THE TIED CARD OF 'semvcslaw08.TypingErrors'. -/
def typingErrorsCard : Claim7 := { stood := { row := typingErrorsRow, standIns := [], harness := (true, "20b538da42bd9e505e0fd46ea3772c3256e538f2b7e28a1789a07f6f090253c2"), looks := false }, kinds := [], alts := [], laidByText := true, laidKinds := [.data, .data, .data], laidTests := true, laidLooks := .later }
def TypingErrorsCardSaid : Prop := Claim7.holds Tryz.pinned (.plain (OpenSpec.ofChange typingErrorsSpec)) typingErrorsCard

/-- THE TIED CARD OF 'semvcslaw08.TypingOf'. -/
def typingOfCard : Claim7 := { stood := { row := typingOfRow, standIns := [], harness := (true, "20b538da42bd9e505e0fd46ea3772c3256e538f2b7e28a1789a07f6f090253c2"), looks := false }, kinds := [], alts := [], laidByText := true, laidKinds := [.data, .data, .data], laidTests := true, laidLooks := .later }
def TypingOfCardSaid : Prop := Claim7.holds Tryz.pinned (.plain (OpenSpec.ofChange typingOfSpec)) typingOfCard

/-- THE TIED CARD OF 'semvcslaw08.TypingLayout'. -/
def typingLayoutCard : Claim7 := { stood := { row := typingLayoutRow, standIns := [], harness := (true, "20b538da42bd9e505e0fd46ea3772c3256e538f2b7e28a1789a07f6f090253c2"), looks := false }, kinds := [], alts := [], laidByText := true, laidKinds := [.data, .data, .data], laidTests := true, laidLooks := .later }
def TypingLayoutCardSaid : Prop := Claim7.holds Tryz.pinned (.plain (OpenSpec.ofChange typingLayoutSpec)) typingLayoutCard

/-- THE SECOND FORM's CARD OF 'semvcslaw08.TypingTrees'. -/
def typingTreesUptoCard : Claim7 := { stood := { row := typingTreesUptoRow, standIns := [], harness := (true, "20b538da42bd9e505e0fd46ea3772c3256e538f2b7e28a1789a07f6f090253c2"), looks := false }, kinds := [], alts := [], laidByText := true, laidKinds := [.data, .data, .data], laidTests := true, laidLooks := .later }
def TypingTreesUptoCardSaid : Prop := Claim7.holds Tryz.pinned (.plain (OpenSpec.upto typingTreesSpec)) typingTreesUptoCard

/-- THE SECOND FORM's CARD OF 'semvcslaw08.TypingErrors'. -/
def typingErrorsUptoCard : Claim7 := { stood := { row := typingErrorsUptoRow, standIns := [], harness := (true, "20b538da42bd9e505e0fd46ea3772c3256e538f2b7e28a1789a07f6f090253c2"), looks := false }, kinds := [], alts := [], laidByText := true, laidKinds := [.data, .data, .data], laidTests := true, laidLooks := .later }
def TypingErrorsUptoCardSaid : Prop := Claim7.holds Tryz.pinned (.plain (OpenSpec.upto typingErrorsSpec)) typingErrorsUptoCard

/-- THE SECOND FORM's CARD OF 'semvcslaw08.TypingOf'. -/
def typingOfUptoCard : Claim7 := { stood := { row := typingOfUptoRow, standIns := [], harness := (true, "20b538da42bd9e505e0fd46ea3772c3256e538f2b7e28a1789a07f6f090253c2"), looks := false }, kinds := [], alts := [], laidByText := true, laidKinds := [.data, .data, .data], laidTests := true, laidLooks := .later }
def TypingOfUptoCardSaid : Prop := Claim7.holds Tryz.pinned (.plain (OpenSpec.upto typingOfSpec)) typingOfUptoCard

/-- THE SECOND FORM's CARD OF 'semvcslaw08.TypingLayout'. -/
def typingLayoutUptoCard : Claim7 := { stood := { row := typingLayoutUptoRow, standIns := [], harness := (true, "20b538da42bd9e505e0fd46ea3772c3256e538f2b7e28a1789a07f6f090253c2"), looks := false }, kinds := [], alts := [], laidByText := true, laidKinds := [.data, .data, .data], laidTests := true, laidLooks := .later }
def TypingLayoutUptoCardSaid : Prop := Claim7.holds Tryz.pinned (.plain (OpenSpec.upto typingLayoutSpec)) typingLayoutUptoCard
end Rows
end Go.Proofs.YtomplbgchbfjpaaGreatDoor
