/-
  NARROWER THAN 'FOR EVERY INPUT', by the rows' own cells (each row's printed sentence says how): TypingGood: laid · TypingHoles: laid.
  DERIVED. THE GIVEN ROWS OF THIS SEAT. 2 by the template 'for every input the law returns true; each argument reads behind the call as it read before'; 0 by the template 'total and deterministic' (their statements: YtkkkpdbnnjoepaaGreatDoorTotals.lean).
  GIVEN WITH THE SEED: the statements are not yours to turn. If you find one false, say at which input.
  Laid BY PROGRAM, IN A SANDBOX (cutbox-rows.mjs): the forced cells as the released guide's own fill.sh prints them over the translation 429f10c091d287e7… (all of the seat's roots in one cut). By AI agents, Wed Nov 11 2026. No macro, syntax, notation, axiom, sorry.
-/
import Derived.Test.YtkkkpdbnnjoepaaGreatDoorChecked
import GoSem.Claim
import GoSem.ClaimJoined
import GoSem.ClaimMapViews
import Derived.JoinedTies
import Derived.KernelRfl
namespace Go.Proofs.YtkkkpdbnnjoepaaGreatDoor
/- THE CELL 'sum', in the pinned program and in every row, IS THE sha256 OF THE DUMP (.gsa) THAT YtkkkpdbnnjoepaaGreatDoorProg.lean LOADS. Nothing in Lean hashes anything: it is a label: what it is worth is what the hold of that sum in a sandbox is worth. -/
noncomputable def Tryz.pinned : Pinned := { name := "ytkkkpdbnnjoepaagreatdoor", sum := "429f10c091d287e7016b96e0c7621cd7bd92df8f22f01064abee8f62862a2d6b", checked := Tryz.checked }
namespace Rows
def none {H : Type} : Left H := { results := [], args := [] }

/- WHAT THE LISTED PACKAGE-LEVEL VARIABLES READ AS WHEN THE CALL BEGINS. Each datum BY PROGRAM (the guide's laid-datum.mjs) off the statement by which the dump's own 'gosem.cut.vars' lays the variable. In a bare row this is a premise. The card (YtkkkpdbnnjoepaaGreatDoorCards.lean) ties it to the program's text. -/
def laid_semvcs_typing_integer {H : Type} : DataW H := .agg [.lit (.int .i64 5), .lit (.int .i64 0)]
def laid_semvcs_typing_text {H : Type} : DataW H := .agg [.lit (.int .i64 6), .lit (.int .i64 0)]
def laid_semvcs_typing_boolean {H : Type} : DataW H := .agg [.lit (.int .i64 7), .lit (.int .i64 0)]

/-- 'semvcslaw08.TypingGood': WHATEVER THE INPUT: true; the input reads as it did. -/
def typingGoodSpec : ChangeSpec := { name := "typingGood", fn := fun _ => fun
  | [d1, d2, d3] => { results := [.lit (.bool true)], args := [d1, d2, d3] }
  | _ => none }
def typingGoodRow : OpenClaim := { program := "ytkkkpdbnnjoepaagreatdoor", sum := "429f10c091d287e7016b96e0c7621cd7bd92df8f22f01064abee8f62862a2d6b", func := "semvcs/semvcslaw08.TypingGood", spec := "typingGood", inPlace := ["internal/bytealg.IndexByteString", "internal/bytealg.IndexString"], unfollowed := true, recurses := true, named := ["internal/bytealg.MaxLen", "semvcs/typing.integer", "semvcs/typing.text", "semvcs/typing.boolean"], plainKeys := false, apart := false, laid := [("semvcs/typing.integer", laid_semvcs_typing_integer), ("semvcs/typing.text", laid_semvcs_typing_text), ("semvcs/typing.boolean", laid_semvcs_typing_boolean)] }
def TypingGoodSaid : Prop := typingGoodRow.holds Tryz.pinned (OpenSpec.ofChange typingGoodSpec)

/-- ITS FALSE NEIGHBOUR: 'it returns false'. Refute it at one input. -/
def typingGoodWrong : ChangeSpec := { name := "typingGood", fn := fun _ => fun
  | [d1, d2, d3] => { results := [.lit (.bool false)], args := [d1, d2, d3] }
  | _ => none }
def TypingGoodWrongFalsely : Prop := typingGoodRow.holds Tryz.pinned (OpenSpec.ofChange typingGoodWrong)

/-- 'semvcslaw08.TypingHoles': WHATEVER THE INPUT: true; the input reads as it did. -/
def typingHolesSpec : ChangeSpec := { name := "typingHoles", fn := fun _ => fun
  | [d] => { results := [.lit (.bool true)], args := [d] }
  | _ => none }
def typingHolesRow : OpenClaim := { program := "ytkkkpdbnnjoepaagreatdoor", sum := "429f10c091d287e7016b96e0c7621cd7bd92df8f22f01064abee8f62862a2d6b", func := "semvcs/semvcslaw08.TypingHoles", spec := "typingHoles", inPlace := ["internal/bytealg.IndexByteString", "internal/bytealg.IndexString"], unfollowed := true, recurses := true, named := ["internal/bytealg.MaxLen", "semvcs/typing.integer", "semvcs/typing.text", "semvcs/typing.boolean"], plainKeys := false, apart := false, laid := [("semvcs/typing.integer", laid_semvcs_typing_integer), ("semvcs/typing.text", laid_semvcs_typing_text), ("semvcs/typing.boolean", laid_semvcs_typing_boolean)] }
def TypingHolesSaid : Prop := typingHolesRow.holds Tryz.pinned (OpenSpec.ofChange typingHolesSpec)

/-- ITS FALSE NEIGHBOUR: 'it returns false'. Refute it at one input. -/
def typingHolesWrong : ChangeSpec := { name := "typingHoles", fn := fun _ => fun
  | [d] => { results := [.lit (.bool false)], args := [d] }
  | _ => none }
def TypingHolesWrongFalsely : Prop := typingHolesRow.holds Tryz.pinned (OpenSpec.ofChange typingHolesWrong)

/- THE SECOND FORM. 'bulk': how many values and letters a reading holds, each counted each time it is reached (what is shared counts as often as it is met; a slice's spare places count too). A statement '..UptoSaid' is the law's where the arguments, and the package variables that the reading takes, are together of bulk at most 1048576: NARROWER than '..Said'. Prove '..Said' where nothing that the law and all that it calls make is longer than what came in: it says more and counts as full. Else prove '..UptoSaid'. A law counts once. -/
mutual
def uptoBulk {H : Type} : DataW H → Nat
  | .lit (.string bytes) => bytes.length + 1
  | .lit _ => 1
  | .nil => 1
  | .ptr d => uptoBulk d + 1
  | .slice elems spare => uptoBulkAll elems + uptoBulkAll spare + 1
  | .agg parts => uptoBulkAll parts + 1
  | .iface _ d => uptoBulk d + 1
  | .map entries => uptoBulkEntries entries + 1
  | .held _ => 1
def uptoBulkAll {H : Type} : List (DataW H) → Nat
  | [] => 0
  | d :: r => uptoBulk d + uptoBulkAll r
def uptoBulkEntries {H : Type} : List (Lit × DataW H) → Nat
  | [] => 0
  | x :: r => uptoBulkEntry x + uptoBulkEntries r
def uptoBulkEntry {H : Type} : Lit × DataW H → Nat
  | (.string bytes, d) => bytes.length + uptoBulk d + 1
  | (_, d) => uptoBulk d + 1
 end
def uptoSmall : (H : Type) → List (DataW H) → Bool := fun _ ds => decide (uptoBulkAll ds ≤ 1048576)
def OpenSpec.upto (s : _root_.Go.ChangeSpec) : _root_.Go.OpenSpec := { _root_.Go.OpenSpec.ofChange s with cond := some uptoSmall }

/-- 'semvcslaw08.TypingGood', WHERE WHAT IT READS IS OF BULK AT MOST 1048576: true; the input reads as it did. -/
def typingGoodUptoRow : OpenClaim := { program := "ytkkkpdbnnjoepaagreatdoor", sum := "429f10c091d287e7016b96e0c7621cd7bd92df8f22f01064abee8f62862a2d6b", func := "semvcs/semvcslaw08.TypingGood", spec := "typingGood", inPlace := ["internal/bytealg.IndexByteString", "internal/bytealg.IndexString"], unfollowed := true, recurses := true, named := ["internal/bytealg.MaxLen", "semvcs/typing.integer", "semvcs/typing.text", "semvcs/typing.boolean"], plainKeys := false, apart := false, laid := [("semvcs/typing.integer", laid_semvcs_typing_integer), ("semvcs/typing.text", laid_semvcs_typing_text), ("semvcs/typing.boolean", laid_semvcs_typing_boolean)], narrowed := true }
def TypingGoodUptoSaid : Prop := typingGoodUptoRow.holds Tryz.pinned (OpenSpec.upto typingGoodSpec)

/-- 'semvcslaw08.TypingHoles', WHERE WHAT IT READS IS OF BULK AT MOST 1048576: true; the input reads as it did. -/
def typingHolesUptoRow : OpenClaim := { program := "ytkkkpdbnnjoepaagreatdoor", sum := "429f10c091d287e7016b96e0c7621cd7bd92df8f22f01064abee8f62862a2d6b", func := "semvcs/semvcslaw08.TypingHoles", spec := "typingHoles", inPlace := ["internal/bytealg.IndexByteString", "internal/bytealg.IndexString"], unfollowed := true, recurses := true, named := ["internal/bytealg.MaxLen", "semvcs/typing.integer", "semvcs/typing.text", "semvcs/typing.boolean"], plainKeys := false, apart := false, laid := [("semvcs/typing.integer", laid_semvcs_typing_integer), ("semvcs/typing.text", laid_semvcs_typing_text), ("semvcs/typing.boolean", laid_semvcs_typing_boolean)], narrowed := true }
def TypingHolesUptoSaid : Prop := typingHolesUptoRow.holds Tryz.pinned (OpenSpec.upto typingHolesSpec)

end Rows
end Go.Proofs.YtkkkpdbnnjoepaaGreatDoor
