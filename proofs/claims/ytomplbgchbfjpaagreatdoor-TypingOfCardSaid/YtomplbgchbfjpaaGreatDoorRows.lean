/-
  NARROWER THAN 'FOR EVERY INPUT', by the rows' own cells (each row's printed sentence says how): TypingTrees: loops, laid · TypingErrors: laid · TypingOf: laid · TypingLayout: laid.
  DERIVED. THE GIVEN ROWS OF THIS SEAT. 4 by the template 'for every input the law returns true; each argument reads behind the call as it read before'; 0 by the template 'total and deterministic' (their statements: YtomplbgchbfjpaaGreatDoorTotals.lean).
  GIVEN WITH THE SEED: the statements are not yours to turn. If you find one false, say at which input.
  Laid BY PROGRAM, IN A SANDBOX (cutbox-rows.mjs): the forced cells as the released guide's own fill.sh prints them over the translation 06836957fdc8228e… (all of the seat's roots in one cut). By AI agents, Wed Nov 11 2026. No macro, syntax, notation, axiom, sorry.
-/
import Derived.Test.YtomplbgchbfjpaaGreatDoorChecked
import GoSem.Claim
import GoSem.ClaimJoined
import GoSem.ClaimMapViews
import Derived.JoinedTies
import Derived.KernelRfl
namespace Go.Proofs.YtomplbgchbfjpaaGreatDoor
/- THE CELL 'sum', in the pinned program and in every row, IS THE sha256 OF THE DUMP (.gsa) THAT YtomplbgchbfjpaaGreatDoorProg.lean LOADS. Nothing in Lean hashes anything: it is a label: what it is worth is what the hold of that sum in a sandbox is worth. -/
noncomputable def Tryz.pinned : Pinned := { name := "ytomplbgchbfjpaagreatdoor", sum := "06836957fdc8228e555f1150efa3a89b5db34f5a324dec869b627c9994dcaca4", checked := Tryz.checked }
namespace Rows
def none {H : Type} : Left H := { results := [], args := [] }

/- WHAT THE LISTED PACKAGE-LEVEL VARIABLES READ AS WHEN THE CALL BEGINS. Each datum BY PROGRAM (the guide's laid-datum.mjs) off the statement by which the dump's own 'gosem.cut.vars' lays the variable. In a bare row this is a premise. The card (YtomplbgchbfjpaaGreatDoorCards.lean) ties it to the program's text. -/
def laid_semvcs_typing_integer {H : Type} : DataW H := .agg [.lit (.int .i64 5), .lit (.int .i64 0)]
def laid_semvcs_typing_text {H : Type} : DataW H := .agg [.lit (.int .i64 6), .lit (.int .i64 0)]
def laid_semvcs_typing_boolean {H : Type} : DataW H := .agg [.lit (.int .i64 7), .lit (.int .i64 0)]

/-- 'semvcslaw08.TypingTrees': WHATEVER THE INPUT: true; the input reads as it did. -/
def typingTreesSpec : ChangeSpec := { name := "typingTrees", fn := fun _ => fun
  | [d1, d2] => { results := [.lit (.bool true)], args := [d1, d2] }
  | _ => none }
def typingTreesRow : OpenClaim := { program := "ytomplbgchbfjpaagreatdoor", sum := "06836957fdc8228e555f1150efa3a89b5db34f5a324dec869b627c9994dcaca4", func := "semvcs/semvcslaw08.TypingTrees", spec := "typingTrees", inPlace := ["internal/bytealg.IndexByteString", "internal/bytealg.IndexString"], unfollowed := true, recurses := true, named := ["internal/bytealg.MaxLen", "semvcs/typing.integer", "semvcs/typing.text", "semvcs/typing.boolean"], loops := true, plainKeys := false, apart := false, laid := [("semvcs/typing.integer", laid_semvcs_typing_integer), ("semvcs/typing.text", laid_semvcs_typing_text), ("semvcs/typing.boolean", laid_semvcs_typing_boolean)] }
def TypingTreesSaid : Prop := typingTreesRow.holds Tryz.pinned (OpenSpec.ofChange typingTreesSpec)

/-- ITS FALSE NEIGHBOUR: 'it returns false'. Refute it at one input. -/
def typingTreesWrong : ChangeSpec := { name := "typingTrees", fn := fun _ => fun
  | [d1, d2] => { results := [.lit (.bool false)], args := [d1, d2] }
  | _ => none }
def TypingTreesWrongFalsely : Prop := typingTreesRow.holds Tryz.pinned (OpenSpec.ofChange typingTreesWrong)

/-- 'semvcslaw08.TypingErrors': WHATEVER THE INPUT: true; the input reads as it did. -/
def typingErrorsSpec : ChangeSpec := { name := "typingErrors", fn := fun _ => fun
  | [d] => { results := [.lit (.bool true)], args := [d] }
  | _ => none }
def typingErrorsRow : OpenClaim := { program := "ytomplbgchbfjpaagreatdoor", sum := "06836957fdc8228e555f1150efa3a89b5db34f5a324dec869b627c9994dcaca4", func := "semvcs/semvcslaw08.TypingErrors", spec := "typingErrors", inPlace := ["internal/bytealg.IndexByteString", "internal/bytealg.IndexString"], unfollowed := true, recurses := true, named := ["internal/bytealg.MaxLen", "semvcs/typing.integer", "semvcs/typing.text", "semvcs/typing.boolean"], plainKeys := false, apart := false, laid := [("semvcs/typing.integer", laid_semvcs_typing_integer), ("semvcs/typing.text", laid_semvcs_typing_text), ("semvcs/typing.boolean", laid_semvcs_typing_boolean)] }
def TypingErrorsSaid : Prop := typingErrorsRow.holds Tryz.pinned (OpenSpec.ofChange typingErrorsSpec)

/-- ITS FALSE NEIGHBOUR: 'it returns false'. Refute it at one input. -/
def typingErrorsWrong : ChangeSpec := { name := "typingErrors", fn := fun _ => fun
  | [d] => { results := [.lit (.bool false)], args := [d] }
  | _ => none }
def TypingErrorsWrongFalsely : Prop := typingErrorsRow.holds Tryz.pinned (OpenSpec.ofChange typingErrorsWrong)

/-- 'semvcslaw08.TypingOf': WHATEVER THE INPUT: true; the input reads as it did. -/
def typingOfSpec : ChangeSpec := { name := "typingOf", fn := fun _ => fun
  | [d] => { results := [.lit (.bool true)], args := [d] }
  | _ => none }
def typingOfRow : OpenClaim := { program := "ytomplbgchbfjpaagreatdoor", sum := "06836957fdc8228e555f1150efa3a89b5db34f5a324dec869b627c9994dcaca4", func := "semvcs/semvcslaw08.TypingOf", spec := "typingOf", inPlace := ["internal/bytealg.IndexByteString", "internal/bytealg.IndexString"], unfollowed := true, recurses := true, named := ["internal/bytealg.MaxLen", "semvcs/typing.integer", "semvcs/typing.text", "semvcs/typing.boolean"], plainKeys := false, apart := false, laid := [("semvcs/typing.integer", laid_semvcs_typing_integer), ("semvcs/typing.text", laid_semvcs_typing_text), ("semvcs/typing.boolean", laid_semvcs_typing_boolean)] }
def TypingOfSaid : Prop := typingOfRow.holds Tryz.pinned (OpenSpec.ofChange typingOfSpec)

/-- ITS FALSE NEIGHBOUR: 'it returns false'. Refute it at one input. -/
def typingOfWrong : ChangeSpec := { name := "typingOf", fn := fun _ => fun
  | [d] => { results := [.lit (.bool false)], args := [d] }
  | _ => none }
def TypingOfWrongFalsely : Prop := typingOfRow.holds Tryz.pinned (OpenSpec.ofChange typingOfWrong)

/-- 'semvcslaw08.TypingLayout': WHATEVER THE INPUT: true; the input reads as it did. -/
def typingLayoutSpec : ChangeSpec := { name := "typingLayout", fn := fun _ => fun
  | [d] => { results := [.lit (.bool true)], args := [d] }
  | _ => none }
def typingLayoutRow : OpenClaim := { program := "ytomplbgchbfjpaagreatdoor", sum := "06836957fdc8228e555f1150efa3a89b5db34f5a324dec869b627c9994dcaca4", func := "semvcs/semvcslaw08.TypingLayout", spec := "typingLayout", inPlace := ["internal/bytealg.IndexByteString", "internal/bytealg.IndexString"], unfollowed := true, recurses := true, named := ["internal/bytealg.MaxLen", "semvcs/typing.integer", "semvcs/typing.text", "semvcs/typing.boolean"], plainKeys := false, apart := false, laid := [("semvcs/typing.integer", laid_semvcs_typing_integer), ("semvcs/typing.text", laid_semvcs_typing_text), ("semvcs/typing.boolean", laid_semvcs_typing_boolean)] }
def TypingLayoutSaid : Prop := typingLayoutRow.holds Tryz.pinned (OpenSpec.ofChange typingLayoutSpec)

/-- ITS FALSE NEIGHBOUR: 'it returns false'. Refute it at one input. -/
def typingLayoutWrong : ChangeSpec := { name := "typingLayout", fn := fun _ => fun
  | [d] => { results := [.lit (.bool false)], args := [d] }
  | _ => none }
def TypingLayoutWrongFalsely : Prop := typingLayoutRow.holds Tryz.pinned (OpenSpec.ofChange typingLayoutWrong)

/- THE SECOND FORM. 'bulk': how many values and letters a reading holds, each counted each time it is reached (what is shared counts as often as it is met; a slice's spare places count too). A statement '..UptoSaid' is the law's where the arguments, and the package variables that the reading takes, are together of bulk at most 1048576: NARROWER than '..Said'. Prove '..Said' where nothing that the law and all that it calls make is longer than what came in: it says more and counts as full. Else prove '..UptoSaid'. A law counts once. -/
mutual
def uptoBulk {H : Type} : DataW H → Nat
  | .lit (.string bytes) => bytes.length + 1
  | .lit _ => 1
  | .nil => 1
  | .ptr d => uptoBulk d + 1
  | .slice elems spare => uptoBulkAll elems + uptoBulkAll spare + 1
  | .agg parts => uptoBulkAll parts + 1
  | .iface _ d => uptoBulk d + 1
  | .map entries => uptoBulkEntries entries + 1
  | .held _ => 1
def uptoBulkAll {H : Type} : List (DataW H) → Nat
  | [] => 0
  | d :: r => uptoBulk d + uptoBulkAll r
def uptoBulkEntries {H : Type} : List (Lit × DataW H) → Nat
  | [] => 0
  | x :: r => uptoBulkEntry x + uptoBulkEntries r
def uptoBulkEntry {H : Type} : Lit × DataW H → Nat
  | (.string bytes, d) => bytes.length + uptoBulk d + 1
  | (_, d) => uptoBulk d + 1
 end
def uptoSmall : (H : Type) → List (DataW H) → Bool := fun _ ds => decide (uptoBulkAll ds ≤ 1048576)
def OpenSpec.upto (s : _root_.Go.ChangeSpec) : _root_.Go.OpenSpec := { _root_.Go.OpenSpec.ofChange s with cond := some uptoSmall }

/-- 'semvcslaw08.TypingTrees', WHERE WHAT IT READS IS OF BULK AT MOST 1048576: true; the input reads as it did. -/
def typingTreesUptoRow : OpenClaim := { program := "ytomplbgchbfjpaagreatdoor", sum := "06836957fdc8228e555f1150efa3a89b5db34f5a324dec869b627c9994dcaca4", func := "semvcs/semvcslaw08.TypingTrees", spec := "typingTrees", inPlace := ["internal/bytealg.IndexByteString", "internal/bytealg.IndexString"], unfollowed := true, recurses := true, named := ["internal/bytealg.MaxLen", "semvcs/typing.integer", "semvcs/typing.text", "semvcs/typing.boolean"], loops := true, plainKeys := false, apart := false, laid := [("semvcs/typing.integer", laid_semvcs_typing_integer), ("semvcs/typing.text", laid_semvcs_typing_text), ("semvcs/typing.boolean", laid_semvcs_typing_boolean)], narrowed := true }
def TypingTreesUptoSaid : Prop := typingTreesUptoRow.holds Tryz.pinned (OpenSpec.upto typingTreesSpec)

/-- 'semvcslaw08.TypingErrors', WHERE WHAT IT READS IS OF BULK AT MOST 1048576: true; the input reads as it did. -/
def typingErrorsUptoRow : OpenClaim := { program := "ytomplbgchbfjpaagreatdoor", sum := "06836957fdc8228e555f1150efa3a89b5db34f5a324dec869b627c9994dcaca4", func := "semvcs/semvcslaw08.TypingErrors", spec := "typingErrors", inPlace := ["internal/bytealg.IndexByteString", "internal/bytealg.IndexString"], unfollowed := true, recurses := true, named := ["internal/bytealg.MaxLen", "semvcs/typing.integer", "semvcs/typing.text", "semvcs/typing.boolean"], plainKeys := false, apart := false, laid := [("semvcs/typing.integer", laid_semvcs_typing_integer), ("semvcs/typing.text", laid_semvcs_typing_text), ("semvcs/typing.boolean", laid_semvcs_typing_boolean)], narrowed := true }
def TypingErrorsUptoSaid : Prop := typingErrorsUptoRow.holds Tryz.pinned (OpenSpec.upto typingErrorsSpec)

/-- 'semvcslaw08.TypingOf', WHERE WHAT IT READS IS OF BULK AT MOST 1048576: true; the input reads as it did. -/
def typingOfUptoRow : OpenClaim := { program := "ytomplbgchbfjpaagreatdoor", sum := "06836957fdc8228e555f1150efa3a89b5db34f5a324dec869b627c9994dcaca4", func := "semvcs/semvcslaw08.TypingOf", spec := "typingOf", inPlace := ["internal/bytealg.IndexByteString", "internal/bytealg.IndexString"], unfollowed := true, recurses := true, named := ["internal/bytealg.MaxLen", "semvcs/typing.integer", "semvcs/typing.text", "semvcs/typing.boolean"], plainKeys := false, apart := false, laid := [("semvcs/typing.integer", laid_semvcs_typing_integer), ("semvcs/typing.text", laid_semvcs_typing_text), ("semvcs/typing.boolean", laid_semvcs_typing_boolean)], narrowed := true }
def TypingOfUptoSaid : Prop := typingOfUptoRow.holds Tryz.pinned (OpenSpec.upto typingOfSpec)

/-- 'semvcslaw08.TypingLayout', WHERE WHAT IT READS IS OF BULK AT MOST 1048576: true; the input reads as it did. -/
def typingLayoutUptoRow : OpenClaim := { program := "ytomplbgchbfjpaagreatdoor", sum := "06836957fdc8228e555f1150efa3a89b5db34f5a324dec869b627c9994dcaca4", func := "semvcs/semvcslaw08.TypingLayout", spec := "typingLayout", inPlace := ["internal/bytealg.IndexByteString", "internal/bytealg.IndexString"], unfollowed := true, recurses := true, named := ["internal/bytealg.MaxLen", "semvcs/typing.integer", "semvcs/typing.text", "semvcs/typing.boolean"], plainKeys := false, apart := false, laid := [("semvcs/typing.integer", laid_semvcs_typing_integer), ("semvcs/typing.text", laid_semvcs_typing_text), ("semvcs/typing.boolean", laid_semvcs_typing_boolean)], narrowed := true }
def TypingLayoutUptoSaid : Prop := typingLayoutUptoRow.holds Tryz.pinned (OpenSpec.upto typingLayoutSpec)

end Rows
end Go.Proofs.YtomplbgchbfjpaaGreatDoor
