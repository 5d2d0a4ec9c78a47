/-
  NARROWER THAN 'FOR EVERY INPUT', by the rows' own cells (each row's printed sentence says how): BindingTrees: loops.
  DERIVED. THE GIVEN ROWS OF THIS SEAT. 4 by the template 'for every input the law returns true; each argument reads behind the call as it read before'; 0 by the template 'total and deterministic' (their statements: YtehhanlhfdoiaaaGreatTotals.lean).
  GIVEN WITH THE SEED: the statements are not yours to turn. If you find one false, say at which input.
  Laid BY PROGRAM, IN A SANDBOX (cutbox-rows.mjs): the forced cells as the released guide's own fill.sh prints them over the translation 70f12bc2ad4cc89b… (all of the seat's roots in one cut). By AI agents, Wed Nov 11 2026. No macro, syntax, notation, axiom, sorry.
-/
import Derived.Test.YtehhanlhfdoiaaaGreatChecked
import GoSem.Claim
import GoSem.ClaimJoined
import GoSem.ClaimMapViews
import Derived.JoinedTies
import Derived.KernelRfl
namespace Go.Proofs.YtehhanlhfdoiaaaGreat
/- THE CELL 'sum', in the pinned program and in every row, IS THE sha256 OF THE DUMP (.gsa) THAT YtehhanlhfdoiaaaGreatProg.lean LOADS. Nothing in Lean hashes anything: it is a label: what it is worth is what the hold of that sum in a sandbox is worth. -/
noncomputable def Tryz.pinned : Pinned := { name := "ytehhanlhfdoiaaagreat", sum := "70f12bc2ad4cc89b3c12d06f5ce57d246c32b6a676c27b0789902c918d73c95e", checked := Tryz.checked }
namespace Rows
def none {H : Type} : Left H := { results := [], args := [] }

/-- 'semvcslaw14.BindingTrees': WHATEVER THE INPUT: true; the input reads as it did. -/
def bindingTreesSpec : ChangeSpec := { name := "bindingTrees", fn := fun _ => fun
  | [d1, d2] => { results := [.lit (.bool true)], args := [d1, d2] }
  | _ => none }
def bindingTreesRow : OpenClaim := { program := "ytehhanlhfdoiaaagreat", sum := "70f12bc2ad4cc89b3c12d06f5ce57d246c32b6a676c27b0789902c918d73c95e", func := "semvcs/semvcslaw14.BindingTrees", spec := "bindingTrees", inPlace := ["internal/bytealg.IndexByteString", "internal/abi.NoEscape", "internal/bytealg.IndexString"], unfollowed := true, recurses := true, named := ["internal/bytealg.MaxLen"], loops := true, apart := false }
def BindingTreesSaid : Prop := bindingTreesRow.holds Tryz.pinned (OpenSpec.ofChange bindingTreesSpec)

/-- ITS FALSE NEIGHBOUR: 'it returns false'. Refute it at one input. -/
def bindingTreesWrong : ChangeSpec := { name := "bindingTrees", fn := fun _ => fun
  | [d1, d2] => { results := [.lit (.bool false)], args := [d1, d2] }
  | _ => none }
def BindingTreesWrongFalsely : Prop := bindingTreesRow.holds Tryz.pinned (OpenSpec.ofChange bindingTreesWrong)

/-- 'semvcslaw14.BindingPrograms': WHATEVER THE INPUT: true; the input reads as it did. -/
def bindingProgramsSpec : ChangeSpec := { name := "bindingPrograms", fn := fun _ => fun
  | [d1, d2] => { results := [.lit (.bool true)], args := [d1, d2] }
  | _ => none }
def bindingProgramsRow : OpenClaim := { program := "ytehhanlhfdoiaaagreat", sum := "70f12bc2ad4cc89b3c12d06f5ce57d246c32b6a676c27b0789902c918d73c95e", func := "semvcs/semvcslaw14.BindingPrograms", spec := "bindingPrograms", inPlace := ["internal/bytealg.IndexByteString", "internal/abi.NoEscape", "internal/bytealg.IndexString"], unfollowed := true, recurses := true, named := ["internal/bytealg.MaxLen"], apart := false }
def BindingProgramsSaid : Prop := bindingProgramsRow.holds Tryz.pinned (OpenSpec.ofChange bindingProgramsSpec)

/-- ITS FALSE NEIGHBOUR: 'it returns false'. Refute it at one input. -/
def bindingProgramsWrong : ChangeSpec := { name := "bindingPrograms", fn := fun _ => fun
  | [d1, d2] => { results := [.lit (.bool false)], args := [d1, d2] }
  | _ => none }
def BindingProgramsWrongFalsely : Prop := bindingProgramsRow.holds Tryz.pinned (OpenSpec.ofChange bindingProgramsWrong)

/-- 'semvcslaw14.BindingShift': WHATEVER THE INPUT: true; the input reads as it did. -/
def bindingShiftSpec : ChangeSpec := { name := "bindingShift", fn := fun _ => fun
  | [d1, d2] => { results := [.lit (.bool true)], args := [d1, d2] }
  | _ => none }
def bindingShiftRow : OpenClaim := { program := "ytehhanlhfdoiaaagreat", sum := "70f12bc2ad4cc89b3c12d06f5ce57d246c32b6a676c27b0789902c918d73c95e", func := "semvcs/semvcslaw14.BindingShift", spec := "bindingShift", inPlace := ["internal/bytealg.IndexByteString", "internal/abi.NoEscape", "internal/bytealg.IndexString"], unfollowed := true, recurses := true, named := ["internal/bytealg.MaxLen"], apart := false }
def BindingShiftSaid : Prop := bindingShiftRow.holds Tryz.pinned (OpenSpec.ofChange bindingShiftSpec)

/-- ITS FALSE NEIGHBOUR: 'it returns false'. Refute it at one input. -/
def bindingShiftWrong : ChangeSpec := { name := "bindingShift", fn := fun _ => fun
  | [d1, d2] => { results := [.lit (.bool false)], args := [d1, d2] }
  | _ => none }
def BindingShiftWrongFalsely : Prop := bindingShiftRow.holds Tryz.pinned (OpenSpec.ofChange bindingShiftWrong)

/-- 'semvcslaw14.BindingSound': WHATEVER THE INPUT: true; the input reads as it did. -/
def bindingSoundSpec : ChangeSpec := { name := "bindingSound", fn := fun _ => fun
  | [d] => { results := [.lit (.bool true)], args := [d] }
  | _ => none }
def bindingSoundRow : OpenClaim := { program := "ytehhanlhfdoiaaagreat", sum := "70f12bc2ad4cc89b3c12d06f5ce57d246c32b6a676c27b0789902c918d73c95e", func := "semvcs/semvcslaw14.BindingSound", spec := "bindingSound", inPlace := ["internal/bytealg.IndexByteString", "internal/abi.NoEscape", "internal/bytealg.IndexString"], unfollowed := true, recurses := true, named := ["internal/bytealg.MaxLen"], apart := false }
def BindingSoundSaid : Prop := bindingSoundRow.holds Tryz.pinned (OpenSpec.ofChange bindingSoundSpec)

/-- ITS FALSE NEIGHBOUR: 'it returns false'. Refute it at one input. -/
def bindingSoundWrong : ChangeSpec := { name := "bindingSound", fn := fun _ => fun
  | [d] => { results := [.lit (.bool false)], args := [d] }
  | _ => none }
def BindingSoundWrongFalsely : Prop := bindingSoundRow.holds Tryz.pinned (OpenSpec.ofChange bindingSoundWrong)

/- THE SECOND FORM. 'bulk': how many values and letters a reading holds, each counted each time it is reached (what is shared counts as often as it is met; a slice's spare places count too). A statement '..UptoSaid' is the law's where the arguments, and the package variables that the reading takes, are together of bulk at most 1048576: NARROWER than '..Said'. Prove '..Said' where nothing that the law and all that it calls make is longer than what came in: it says more and counts as full. Else prove '..UptoSaid'. A law counts once. -/
mutual
def uptoBulk {H : Type} : DataW H → Nat
  | .lit (.string bytes) => bytes.length + 1
  | .lit _ => 1
  | .nil => 1
  | .ptr d => uptoBulk d + 1
  | .slice elems spare => uptoBulkAll elems + uptoBulkAll spare + 1
  | .agg parts => uptoBulkAll parts + 1
  | .iface _ d => uptoBulk d + 1
  | .map entries => uptoBulkEntries entries + 1
  | .held _ => 1
def uptoBulkAll {H : Type} : List (DataW H) → Nat
  | [] => 0
  | d :: r => uptoBulk d + uptoBulkAll r
def uptoBulkEntries {H : Type} : List (Lit × DataW H) → Nat
  | [] => 0
  | x :: r => uptoBulkEntry x + uptoBulkEntries r
def uptoBulkEntry {H : Type} : Lit × DataW H → Nat
  | (.string bytes, d) => bytes.length + uptoBulk d + 1
  | (_, d) => uptoBulk d + 1
 end
def uptoSmall : (H : Type) → List (DataW H) → Bool := fun _ ds => decide (uptoBulkAll ds ≤ 1048576)
def OpenSpec.upto (s : _root_.Go.ChangeSpec) : _root_.Go.OpenSpec := { _root_.Go.OpenSpec.ofChange s with cond := some uptoSmall }

/-- 'semvcslaw14.BindingTrees', WHERE WHAT IT READS IS OF BULK AT MOST 1048576: true; the input reads as it did. -/
def bindingTreesUptoRow : OpenClaim := { program := "ytehhanlhfdoiaaagreat", sum := "70f12bc2ad4cc89b3c12d06f5ce57d246c32b6a676c27b0789902c918d73c95e", func := "semvcs/semvcslaw14.BindingTrees", spec := "bindingTrees", inPlace := ["internal/bytealg.IndexByteString", "internal/abi.NoEscape", "internal/bytealg.IndexString"], unfollowed := true, recurses := true, named := ["internal/bytealg.MaxLen"], loops := true, apart := false, narrowed := true }
def BindingTreesUptoSaid : Prop := bindingTreesUptoRow.holds Tryz.pinned (OpenSpec.upto bindingTreesSpec)

/-- 'semvcslaw14.BindingPrograms', WHERE WHAT IT READS IS OF BULK AT MOST 1048576: true; the input reads as it did. -/
def bindingProgramsUptoRow : OpenClaim := { program := "ytehhanlhfdoiaaagreat", sum := "70f12bc2ad4cc89b3c12d06f5ce57d246c32b6a676c27b0789902c918d73c95e", func := "semvcs/semvcslaw14.BindingPrograms", spec := "bindingPrograms", inPlace := ["internal/bytealg.IndexByteString", "internal/abi.NoEscape", "internal/bytealg.IndexString"], unfollowed := true, recurses := true, named := ["internal/bytealg.MaxLen"], apart := false, narrowed := true }
def BindingProgramsUptoSaid : Prop := bindingProgramsUptoRow.holds Tryz.pinned (OpenSpec.upto bindingProgramsSpec)

/-- 'semvcslaw14.BindingShift', WHERE WHAT IT READS IS OF BULK AT MOST 1048576: true; the input reads as it did. -/
def bindingShiftUptoRow : OpenClaim := { program := "ytehhanlhfdoiaaagreat", sum := "70f12bc2ad4cc89b3c12d06f5ce57d246c32b6a676c27b0789902c918d73c95e", func := "semvcs/semvcslaw14.BindingShift", spec := "bindingShift", inPlace := ["internal/bytealg.IndexByteString", "internal/abi.NoEscape", "internal/bytealg.IndexString"], unfollowed := true, recurses := true, named := ["internal/bytealg.MaxLen"], apart := false, narrowed := true }
def BindingShiftUptoSaid : Prop := bindingShiftUptoRow.holds Tryz.pinned (OpenSpec.upto bindingShiftSpec)

/-- 'semvcslaw14.BindingSound', WHERE WHAT IT READS IS OF BULK AT MOST 1048576: true; the input reads as it did. -/
def bindingSoundUptoRow : OpenClaim := { program := "ytehhanlhfdoiaaagreat", sum := "70f12bc2ad4cc89b3c12d06f5ce57d246c32b6a676c27b0789902c918d73c95e", func := "semvcs/semvcslaw14.BindingSound", spec := "bindingSound", inPlace := ["internal/bytealg.IndexByteString", "internal/abi.NoEscape", "internal/bytealg.IndexString"], unfollowed := true, recurses := true, named := ["internal/bytealg.MaxLen"], apart := false, narrowed := true }
def BindingSoundUptoSaid : Prop := bindingSoundUptoRow.holds Tryz.pinned (OpenSpec.upto bindingSoundSpec)

end Rows
end Go.Proofs.YtehhanlhfdoiaaaGreat
