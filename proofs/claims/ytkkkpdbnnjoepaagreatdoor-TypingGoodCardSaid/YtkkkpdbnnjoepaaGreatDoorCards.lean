/-
  DERIVED. GIVEN WITH THE SEED: THE CARDS: each row of YtkkkpdbnnjoepaaGreatDoorRows.lean that lists a variable, with what it lists TIED to the program's text (the seventh form; the later family's looks); each row that meets fmt, with fmt's text TOLD by the authors' own Lean function (tested against real Go, not proved from fmt's source: count such statements apart). THE CARD IS WHAT COUNTS. Prove the row's statement (the work); the ties are given (YtkkkpdbnnjoepaaGreatDoorTie.lean); close each card by the builder's one call (the guide's Derived/Test/ToyasCard.lean, 'card_holds'). Laid BY PROGRAM, IN A SANDBOX (cutbox-door.mjs). By AI agents, Wed Nov 11 2026. No macro, syntax, notation, axiom, sorry.
-/
import Derived.Test.YtkkkpdbnnjoepaaGreatDoorRows
import GoSem.ClaimSeven
namespace Go.Proofs.YtkkkpdbnnjoepaaGreatDoor
namespace Rows

/-- THE TIED CARD OF 'semvcslaw08.TypingGood'. -/
def typingGoodCard : Claim7 := { stood := { row := typingGoodRow, standIns := [], harness := (true, "120cedc22b9d20e9088820c300f3c558ad21366de48778ff1b8dd2bd25c576b1"), looks := false }, kinds := [], alts := [], laidByText := true, laidKinds := [.data, .data, .data], laidTests := true, laidLooks := .later }
def TypingGoodCardSaid : Prop := Claim7.holds Tryz.pinned (.plain (OpenSpec.ofChange typingGoodSpec)) typingGoodCard

/-- THE TIED CARD OF 'semvcslaw08.TypingHoles'. -/
def typingHolesCard : Claim7 := { stood := { row := typingHolesRow, standIns := [], harness := (true, "120cedc22b9d20e9088820c300f3c558ad21366de48778ff1b8dd2bd25c576b1"), looks := false }, kinds := [], alts := [], laidByText := true, laidKinds := [.data, .data, .data], laidTests := true, laidLooks := .later }
def TypingHolesCardSaid : Prop := Claim7.holds Tryz.pinned (.plain (OpenSpec.ofChange typingHolesSpec)) typingHolesCard

/-- THE SECOND FORM's CARD OF 'semvcslaw08.TypingGood'. -/
def typingGoodUptoCard : Claim7 := { stood := { row := typingGoodUptoRow, standIns := [], harness := (true, "120cedc22b9d20e9088820c300f3c558ad21366de48778ff1b8dd2bd25c576b1"), looks := false }, kinds := [], alts := [], laidByText := true, laidKinds := [.data, .data, .data], laidTests := true, laidLooks := .later }
def TypingGoodUptoCardSaid : Prop := Claim7.holds Tryz.pinned (.plain (OpenSpec.upto typingGoodSpec)) typingGoodUptoCard

/-- THE SECOND FORM's CARD OF 'semvcslaw08.TypingHoles'. -/
def typingHolesUptoCard : Claim7 := { stood := { row := typingHolesUptoRow, standIns := [], harness := (true, "120cedc22b9d20e9088820c300f3c558ad21366de48778ff1b8dd2bd25c576b1"), looks := false }, kinds := [], alts := [], laidByText := true, laidKinds := [.data, .data, .data], laidTests := true, laidLooks := .later }
def TypingHolesUptoCardSaid : Prop := Claim7.holds Tryz.pinned (.plain (OpenSpec.upto typingHolesSpec)) typingHolesUptoCard
end Rows
end Go.Proofs.YtkkkpdbnnjoepaaGreatDoor
