/-
  NARROWER THAN 'FOR EVERY INPUT', by the rows' own cells (each row's printed sentence says how): SyntaxPrints: loops · SyntaxShapes: loops.
  DERIVED. THE GIVEN ROWS OF THIS SEAT. 8 by the template 'for every input the law returns true; each argument reads behind the call as it read before'; 0 by the template 'total and deterministic' (their statements: YthpjpngfghcmcaaTotals.lean).
  GIVEN WITH THE SEED: the statements are not yours to turn. If you find one false, say at which input.
  Laid BY PROGRAM, IN A SANDBOX (cutbox-rows.mjs): the forced cells as the released guide's own fill.sh prints them over the translation d3798c2078860f33… (all of the seat's roots in one cut). By AI agents, Wed Nov 11 2026. No macro, syntax, notation, axiom, sorry.
-/
import Derived.Test.YthpjpngfghcmcaaChecked
import GoSem.Claim
import GoSem.ClaimJoined
import GoSem.ClaimMapViews
import Derived.JoinedTies
import Derived.KernelRfl
namespace Go.Proofs.Ythpjpngfghcmcaa
/- THE CELL 'sum', in the pinned program and in every row, IS THE sha256 OF THE DUMP (.gsa) THAT YthpjpngfghcmcaaProg.lean LOADS. Nothing in Lean hashes anything: it is a label: what it is worth is what the hold of that sum in a sandbox is worth. -/
noncomputable def Try.pinned : Pinned := { name := "ythpjpngfghcmcaa", sum := "d3798c2078860f332803c49f6debbc801bd582067986d233c523f0c42c129832", checked := Try.checked }
namespace Rows
def none {H : Type} : Left H := { results := [], args := [] }

/-- 'semvcslaw02.SyntaxParses': WHATEVER THE INPUT: true; the input reads as it did. -/
def syntaxParsesSpec : ChangeSpec := { name := "syntaxParses", fn := fun _ => fun
  | [d] => { results := [.lit (.bool true)], args := [d] }
  | _ => none }
def syntaxParsesRow : OpenClaim := { program := "ythpjpngfghcmcaa", sum := "d3798c2078860f332803c49f6debbc801bd582067986d233c523f0c42c129832", func := "semvcs/semvcslaw02.SyntaxParses", spec := "syntaxParses", inPlace := ["internal/bytealg.IndexByteString", "internal/abi.NoEscape"], recurses := true, apart := false }
def SyntaxParsesSaid : Prop := syntaxParsesRow.holds Try.pinned (OpenSpec.ofChange syntaxParsesSpec)

/-- ITS FALSE NEIGHBOUR: 'it returns false'. Refute it at one input. -/
def syntaxParsesWrong : ChangeSpec := { name := "syntaxParses", fn := fun _ => fun
  | [d] => { results := [.lit (.bool false)], args := [d] }
  | _ => none }
def SyntaxParsesWrongFalsely : Prop := syntaxParsesRow.holds Try.pinned (OpenSpec.ofChange syntaxParsesWrong)

/-- 'semvcslaw02.SyntaxPrints': WHATEVER THE INPUT: true; the input reads as it did. -/
def syntaxPrintsSpec : ChangeSpec := { name := "syntaxPrints", fn := fun _ => fun
  | [d] => { results := [.lit (.bool true)], args := [d] }
  | _ => none }
def syntaxPrintsRow : OpenClaim := { program := "ythpjpngfghcmcaa", sum := "d3798c2078860f332803c49f6debbc801bd582067986d233c523f0c42c129832", func := "semvcs/semvcslaw02.SyntaxPrints", spec := "syntaxPrints", inPlace := ["internal/bytealg.IndexByteString", "internal/abi.NoEscape"], recurses := true, loops := true, apart := false }
def SyntaxPrintsSaid : Prop := syntaxPrintsRow.holds Try.pinned (OpenSpec.ofChange syntaxPrintsSpec)

/-- ITS FALSE NEIGHBOUR: 'it returns false'. Refute it at one input. -/
def syntaxPrintsWrong : ChangeSpec := { name := "syntaxPrints", fn := fun _ => fun
  | [d] => { results := [.lit (.bool false)], args := [d] }
  | _ => none }
def SyntaxPrintsWrongFalsely : Prop := syntaxPrintsRow.holds Try.pinned (OpenSpec.ofChange syntaxPrintsWrong)

/-- 'semvcslaw02.SyntaxLeads': WHATEVER THE INPUT: true; the input reads as it did. -/
def syntaxLeadsSpec : ChangeSpec := { name := "syntaxLeads", fn := fun _ => fun
  | [d1, d2] => { results := [.lit (.bool true)], args := [d1, d2] }
  | _ => none }
def syntaxLeadsRow : OpenClaim := { program := "ythpjpngfghcmcaa", sum := "d3798c2078860f332803c49f6debbc801bd582067986d233c523f0c42c129832", func := "semvcs/semvcslaw02.SyntaxLeads", spec := "syntaxLeads", inPlace := ["internal/bytealg.IndexByteString", "internal/abi.NoEscape"], recurses := true, apart := false }
def SyntaxLeadsSaid : Prop := syntaxLeadsRow.holds Try.pinned (OpenSpec.ofChange syntaxLeadsSpec)

/-- ITS FALSE NEIGHBOUR: 'it returns false'. Refute it at one input. -/
def syntaxLeadsWrong : ChangeSpec := { name := "syntaxLeads", fn := fun _ => fun
  | [d1, d2] => { results := [.lit (.bool false)], args := [d1, d2] }
  | _ => none }
def SyntaxLeadsWrongFalsely : Prop := syntaxLeadsRow.holds Try.pinned (OpenSpec.ofChange syntaxLeadsWrong)

/-- 'semvcslaw02.SyntaxLevels': WHATEVER THE INPUT: true; the input reads as it did. -/
def syntaxLevelsSpec : ChangeSpec := { name := "syntaxLevels", fn := fun _ => fun
  | [d] => { results := [.lit (.bool true)], args := [d] }
  | _ => none }
def syntaxLevelsRow : OpenClaim := { program := "ythpjpngfghcmcaa", sum := "d3798c2078860f332803c49f6debbc801bd582067986d233c523f0c42c129832", func := "semvcs/semvcslaw02.SyntaxLevels", spec := "syntaxLevels", inPlace := ["internal/bytealg.IndexByteString", "internal/abi.NoEscape"], recurses := true, apart := false }
def SyntaxLevelsSaid : Prop := syntaxLevelsRow.holds Try.pinned (OpenSpec.ofChange syntaxLevelsSpec)

/-- ITS FALSE NEIGHBOUR: 'it returns false'. Refute it at one input. -/
def syntaxLevelsWrong : ChangeSpec := { name := "syntaxLevels", fn := fun _ => fun
  | [d] => { results := [.lit (.bool false)], args := [d] }
  | _ => none }
def SyntaxLevelsWrongFalsely : Prop := syntaxLevelsRow.holds Try.pinned (OpenSpec.ofChange syntaxLevelsWrong)

/-- 'semvcslaw02.SyntaxLimits': WHATEVER THE INPUT: true; the input reads as it did. -/
def syntaxLimitsSpec : ChangeSpec := { name := "syntaxLimits", fn := fun _ => fun
  | [d1, d2] => { results := [.lit (.bool true)], args := [d1, d2] }
  | _ => none }
def syntaxLimitsRow : OpenClaim := { program := "ythpjpngfghcmcaa", sum := "d3798c2078860f332803c49f6debbc801bd582067986d233c523f0c42c129832", func := "semvcs/semvcslaw02.SyntaxLimits", spec := "syntaxLimits", inPlace := ["internal/bytealg.IndexByteString", "internal/abi.NoEscape"], recurses := true, apart := false }
def SyntaxLimitsSaid : Prop := syntaxLimitsRow.holds Try.pinned (OpenSpec.ofChange syntaxLimitsSpec)

/-- ITS FALSE NEIGHBOUR: 'it returns false'. Refute it at one input. -/
def syntaxLimitsWrong : ChangeSpec := { name := "syntaxLimits", fn := fun _ => fun
  | [d1, d2] => { results := [.lit (.bool false)], args := [d1, d2] }
  | _ => none }
def SyntaxLimitsWrongFalsely : Prop := syntaxLimitsRow.holds Try.pinned (OpenSpec.ofChange syntaxLimitsWrong)

/-- 'semvcslaw02.SyntaxDeep': WHATEVER THE INPUT: true; the input reads as it did. -/
def syntaxDeepSpec : ChangeSpec := { name := "syntaxDeep", fn := fun _ => fun
  | [d] => { results := [.lit (.bool true)], args := [d] }
  | _ => none }
def syntaxDeepRow : OpenClaim := { program := "ythpjpngfghcmcaa", sum := "d3798c2078860f332803c49f6debbc801bd582067986d233c523f0c42c129832", func := "semvcs/semvcslaw02.SyntaxDeep", spec := "syntaxDeep", inPlace := ["internal/bytealg.IndexByteString", "internal/abi.NoEscape"], recurses := true, apart := false }
def SyntaxDeepSaid : Prop := syntaxDeepRow.holds Try.pinned (OpenSpec.ofChange syntaxDeepSpec)

/-- ITS FALSE NEIGHBOUR: 'it returns false'. Refute it at one input. -/
def syntaxDeepWrong : ChangeSpec := { name := "syntaxDeep", fn := fun _ => fun
  | [d] => { results := [.lit (.bool false)], args := [d] }
  | _ => none }
def SyntaxDeepWrongFalsely : Prop := syntaxDeepRow.holds Try.pinned (OpenSpec.ofChange syntaxDeepWrong)

/-- 'semvcslaw02.SyntaxShapes': WHATEVER THE INPUT: true; the input reads as it did. -/
def syntaxShapesSpec : ChangeSpec := { name := "syntaxShapes", fn := fun _ => fun
  | [d] => { results := [.lit (.bool true)], args := [d] }
  | _ => none }
def syntaxShapesRow : OpenClaim := { program := "ythpjpngfghcmcaa", sum := "d3798c2078860f332803c49f6debbc801bd582067986d233c523f0c42c129832", func := "semvcs/semvcslaw02.SyntaxShapes", spec := "syntaxShapes", inPlace := ["internal/bytealg.IndexByteString", "internal/abi.NoEscape"], recurses := true, loops := true, apart := false }
def SyntaxShapesSaid : Prop := syntaxShapesRow.holds Try.pinned (OpenSpec.ofChange syntaxShapesSpec)

/-- ITS FALSE NEIGHBOUR: 'it returns false'. Refute it at one input. -/
def syntaxShapesWrong : ChangeSpec := { name := "syntaxShapes", fn := fun _ => fun
  | [d] => { results := [.lit (.bool false)], args := [d] }
  | _ => none }
def SyntaxShapesWrongFalsely : Prop := syntaxShapesRow.holds Try.pinned (OpenSpec.ofChange syntaxShapesWrong)

/-- 'semvcslaw02.SyntaxRound': WHATEVER THE INPUT: true; the input reads as it did. -/
def syntaxRoundSpec : ChangeSpec := { name := "syntaxRound", fn := fun _ => fun
  | [d] => { results := [.lit (.bool true)], args := [d] }
  | _ => none }
def syntaxRoundRow : OpenClaim := { program := "ythpjpngfghcmcaa", sum := "d3798c2078860f332803c49f6debbc801bd582067986d233c523f0c42c129832", func := "semvcs/semvcslaw02.SyntaxRound", spec := "syntaxRound", inPlace := ["internal/bytealg.IndexByteString", "internal/abi.NoEscape"], recurses := true, apart := false }
def SyntaxRoundSaid : Prop := syntaxRoundRow.holds Try.pinned (OpenSpec.ofChange syntaxRoundSpec)

/-- ITS FALSE NEIGHBOUR: 'it returns false'. Refute it at one input. -/
def syntaxRoundWrong : ChangeSpec := { name := "syntaxRound", fn := fun _ => fun
  | [d] => { results := [.lit (.bool false)], args := [d] }
  | _ => none }
def SyntaxRoundWrongFalsely : Prop := syntaxRoundRow.holds Try.pinned (OpenSpec.ofChange syntaxRoundWrong)

/- THE SECOND FORM. 'bulk': how many values and letters a reading holds, each counted each time it is reached (what is shared counts as often as it is met; a slice's spare places count too). A statement '..UptoSaid' is the law's where the arguments, and the package variables that the reading takes, are together of bulk at most 1048576: NARROWER than '..Said'. Prove '..Said' where nothing that the law and all that it calls make is longer than what came in: it says more and counts as full. Else prove '..UptoSaid'. A law counts once. -/
mutual
def uptoBulk {H : Type} : DataW H → Nat
  | .lit (.string bytes) => bytes.length + 1
  | .lit _ => 1
  | .nil => 1
  | .ptr d => uptoBulk d + 1
  | .slice elems spare => uptoBulkAll elems + uptoBulkAll spare + 1
  | .agg parts => uptoBulkAll parts + 1
  | .iface _ d => uptoBulk d + 1
  | .map entries => uptoBulkEntries entries + 1
  | .held _ => 1
def uptoBulkAll {H : Type} : List (DataW H) → Nat
  | [] => 0
  | d :: r => uptoBulk d + uptoBulkAll r
def uptoBulkEntries {H : Type} : List (Lit × DataW H) → Nat
  | [] => 0
  | x :: r => uptoBulkEntry x + uptoBulkEntries r
def uptoBulkEntry {H : Type} : Lit × DataW H → Nat
  | (.string bytes, d) => bytes.length + uptoBulk d + 1
  | (_, d) => uptoBulk d + 1
 end
def uptoSmall : (H : Type) → List (DataW H) → Bool := fun _ ds => decide (uptoBulkAll ds ≤ 1048576)
def OpenSpec.upto (s : _root_.Go.ChangeSpec) : _root_.Go.OpenSpec := { _root_.Go.OpenSpec.ofChange s with cond := some uptoSmall }

/-- 'semvcslaw02.SyntaxParses', WHERE WHAT IT READS IS OF BULK AT MOST 1048576: true; the input reads as it did. -/
def syntaxParsesUptoRow : OpenClaim := { program := "ythpjpngfghcmcaa", sum := "d3798c2078860f332803c49f6debbc801bd582067986d233c523f0c42c129832", func := "semvcs/semvcslaw02.SyntaxParses", spec := "syntaxParses", inPlace := ["internal/bytealg.IndexByteString", "internal/abi.NoEscape"], recurses := true, apart := false, narrowed := true }
def SyntaxParsesUptoSaid : Prop := syntaxParsesUptoRow.holds Try.pinned (OpenSpec.upto syntaxParsesSpec)

/-- 'semvcslaw02.SyntaxPrints', WHERE WHAT IT READS IS OF BULK AT MOST 1048576: true; the input reads as it did. -/
def syntaxPrintsUptoRow : OpenClaim := { program := "ythpjpngfghcmcaa", sum := "d3798c2078860f332803c49f6debbc801bd582067986d233c523f0c42c129832", func := "semvcs/semvcslaw02.SyntaxPrints", spec := "syntaxPrints", inPlace := ["internal/bytealg.IndexByteString", "internal/abi.NoEscape"], recurses := true, loops := true, apart := false, narrowed := true }
def SyntaxPrintsUptoSaid : Prop := syntaxPrintsUptoRow.holds Try.pinned (OpenSpec.upto syntaxPrintsSpec)

/-- 'semvcslaw02.SyntaxLeads', WHERE WHAT IT READS IS OF BULK AT MOST 1048576: true; the input reads as it did. -/
def syntaxLeadsUptoRow : OpenClaim := { program := "ythpjpngfghcmcaa", sum := "d3798c2078860f332803c49f6debbc801bd582067986d233c523f0c42c129832", func := "semvcs/semvcslaw02.SyntaxLeads", spec := "syntaxLeads", inPlace := ["internal/bytealg.IndexByteString", "internal/abi.NoEscape"], recurses := true, apart := false, narrowed := true }
def SyntaxLeadsUptoSaid : Prop := syntaxLeadsUptoRow.holds Try.pinned (OpenSpec.upto syntaxLeadsSpec)

/-- 'semvcslaw02.SyntaxLevels', WHERE WHAT IT READS IS OF BULK AT MOST 1048576: true; the input reads as it did. -/
def syntaxLevelsUptoRow : OpenClaim := { program := "ythpjpngfghcmcaa", sum := "d3798c2078860f332803c49f6debbc801bd582067986d233c523f0c42c129832", func := "semvcs/semvcslaw02.SyntaxLevels", spec := "syntaxLevels", inPlace := ["internal/bytealg.IndexByteString", "internal/abi.NoEscape"], recurses := true, apart := false, narrowed := true }
def SyntaxLevelsUptoSaid : Prop := syntaxLevelsUptoRow.holds Try.pinned (OpenSpec.upto syntaxLevelsSpec)

/-- 'semvcslaw02.SyntaxLimits', WHERE WHAT IT READS IS OF BULK AT MOST 1048576: true; the input reads as it did. -/
def syntaxLimitsUptoRow : OpenClaim := { program := "ythpjpngfghcmcaa", sum := "d3798c2078860f332803c49f6debbc801bd582067986d233c523f0c42c129832", func := "semvcs/semvcslaw02.SyntaxLimits", spec := "syntaxLimits", inPlace := ["internal/bytealg.IndexByteString", "internal/abi.NoEscape"], recurses := true, apart := false, narrowed := true }
def SyntaxLimitsUptoSaid : Prop := syntaxLimitsUptoRow.holds Try.pinned (OpenSpec.upto syntaxLimitsSpec)

/-- 'semvcslaw02.SyntaxDeep', WHERE WHAT IT READS IS OF BULK AT MOST 1048576: true; the input reads as it did. -/
def syntaxDeepUptoRow : OpenClaim := { program := "ythpjpngfghcmcaa", sum := "d3798c2078860f332803c49f6debbc801bd582067986d233c523f0c42c129832", func := "semvcs/semvcslaw02.SyntaxDeep", spec := "syntaxDeep", inPlace := ["internal/bytealg.IndexByteString", "internal/abi.NoEscape"], recurses := true, apart := false, narrowed := true }
def SyntaxDeepUptoSaid : Prop := syntaxDeepUptoRow.holds Try.pinned (OpenSpec.upto syntaxDeepSpec)

/-- 'semvcslaw02.SyntaxShapes', WHERE WHAT IT READS IS OF BULK AT MOST 1048576: true; the input reads as it did. -/
def syntaxShapesUptoRow : OpenClaim := { program := "ythpjpngfghcmcaa", sum := "d3798c2078860f332803c49f6debbc801bd582067986d233c523f0c42c129832", func := "semvcs/semvcslaw02.SyntaxShapes", spec := "syntaxShapes", inPlace := ["internal/bytealg.IndexByteString", "internal/abi.NoEscape"], recurses := true, loops := true, apart := false, narrowed := true }
def SyntaxShapesUptoSaid : Prop := syntaxShapesUptoRow.holds Try.pinned (OpenSpec.upto syntaxShapesSpec)

/-- 'semvcslaw02.SyntaxRound', WHERE WHAT IT READS IS OF BULK AT MOST 1048576: true; the input reads as it did. -/
def syntaxRoundUptoRow : OpenClaim := { program := "ythpjpngfghcmcaa", sum := "d3798c2078860f332803c49f6debbc801bd582067986d233c523f0c42c129832", func := "semvcs/semvcslaw02.SyntaxRound", spec := "syntaxRound", inPlace := ["internal/bytealg.IndexByteString", "internal/abi.NoEscape"], recurses := true, apart := false, narrowed := true }
def SyntaxRoundUptoSaid : Prop := syntaxRoundUptoRow.holds Try.pinned (OpenSpec.upto syntaxRoundSpec)

end Rows
end Go.Proofs.Ythpjpngfghcmcaa
