/-
  No cell of these rows narrows 'for every input' (looked for: loops, veiled, ifaces, maps, wideKeys, modest, calm, conditions, laid).
  DERIVED. THE GIVEN ROWS OF THIS SEAT. 2 by the template 'for every input the law returns true; each argument reads behind the call as it read before'; 0 by the template 'total and deterministic' (their statements: YtpnpdlnpikkeaaaGreatTotals.lean).
  GIVEN WITH THE SEED: the statements are not yours to turn. If you find one false, say at which input.
  Laid BY PROGRAM, IN A SANDBOX (cutbox-rows.mjs): the forced cells as the released guide's own fill.sh prints them over the translation dc43121ac369b0cd… (all of the seat's roots in one cut). By AI agents, Wed Nov 11 2026. No macro, syntax, notation, axiom, sorry.
-/
import Derived.Test.YtpnpdlnpikkeaaaGreatChecked
import GoSem.Claim
import GoSem.ClaimJoined
import GoSem.ClaimMapViews
import Derived.JoinedTies
import Derived.KernelRfl
namespace Go.Proofs.YtpnpdlnpikkeaaaGreat
/- THE CELL 'sum', in the pinned program and in every row, IS THE sha256 OF THE DUMP (.gsa) THAT YtpnpdlnpikkeaaaGreatProg.lean LOADS. Nothing in Lean hashes anything: it is a label: what it is worth is what the hold of that sum in a sandbox is worth. -/
noncomputable def Tryz.pinned : Pinned := { name := "ytpnpdlnpikkeaaagreat", sum := "dc43121ac369b0cd1d21cf5250d54936c2129d71b7ded4289375ec4b7a06d9ee", checked := Tryz.checked }
namespace Rows
def none {H : Type} : Left H := { results := [], args := [] }

/-- 'semvcslaw04.LayoutPrograms': WHATEVER THE INPUT: true; the input reads as it did. -/
def layoutProgramsSpec : ChangeSpec := { name := "layoutPrograms", fn := fun _ => fun
  | [d] => { results := [.lit (.bool true)], args := [d] }
  | _ => none }
def layoutProgramsRow : OpenClaim := { program := "ytpnpdlnpikkeaaagreat", sum := "dc43121ac369b0cd1d21cf5250d54936c2129d71b7ded4289375ec4b7a06d9ee", func := "semvcs/semvcslaw04.LayoutPrograms", spec := "layoutPrograms", inPlace := ["internal/bytealg.IndexByteString", "internal/abi.NoEscape"], recurses := true, apart := false }
def LayoutProgramsSaid : Prop := layoutProgramsRow.holds Tryz.pinned (OpenSpec.ofChange layoutProgramsSpec)

/-- ITS FALSE NEIGHBOUR: 'it returns false'. Refute it at one input. -/
def layoutProgramsWrong : ChangeSpec := { name := "layoutPrograms", fn := fun _ => fun
  | [d] => { results := [.lit (.bool false)], args := [d] }
  | _ => none }
def LayoutProgramsWrongFalsely : Prop := layoutProgramsRow.holds Tryz.pinned (OpenSpec.ofChange layoutProgramsWrong)

/-- 'semvcslaw04.LayoutTwice': WHATEVER THE INPUT: true; the input reads as it did. -/
def layoutTwiceSpec : ChangeSpec := { name := "layoutTwice", fn := fun _ => fun
  | [d] => { results := [.lit (.bool true)], args := [d] }
  | _ => none }
def layoutTwiceRow : OpenClaim := { program := "ytpnpdlnpikkeaaagreat", sum := "dc43121ac369b0cd1d21cf5250d54936c2129d71b7ded4289375ec4b7a06d9ee", func := "semvcs/semvcslaw04.LayoutTwice", spec := "layoutTwice", inPlace := ["internal/bytealg.IndexByteString", "internal/abi.NoEscape"], recurses := true, apart := false }
def LayoutTwiceSaid : Prop := layoutTwiceRow.holds Tryz.pinned (OpenSpec.ofChange layoutTwiceSpec)

/-- ITS FALSE NEIGHBOUR: 'it returns false'. Refute it at one input. -/
def layoutTwiceWrong : ChangeSpec := { name := "layoutTwice", fn := fun _ => fun
  | [d] => { results := [.lit (.bool false)], args := [d] }
  | _ => none }
def LayoutTwiceWrongFalsely : Prop := layoutTwiceRow.holds Tryz.pinned (OpenSpec.ofChange layoutTwiceWrong)

/- THE SECOND FORM. 'bulk': how many values and letters a reading holds, each counted each time it is reached (what is shared counts as often as it is met; a slice's spare places count too). A statement '..UptoSaid' is the law's where the arguments, and the package variables that the reading takes, are together of bulk at most 1048576: NARROWER than '..Said'. Prove '..Said' where nothing that the law and all that it calls make is longer than what came in: it says more and counts as full. Else prove '..UptoSaid'. A law counts once. -/
mutual
def uptoBulk {H : Type} : DataW H → Nat
  | .lit (.string bytes) => bytes.length + 1
  | .lit _ => 1
  | .nil => 1
  | .ptr d => uptoBulk d + 1
  | .slice elems spare => uptoBulkAll elems + uptoBulkAll spare + 1
  | .agg parts => uptoBulkAll parts + 1
  | .iface _ d => uptoBulk d + 1
  | .map entries => uptoBulkEntries entries + 1
  | .held _ => 1
def uptoBulkAll {H : Type} : List (DataW H) → Nat
  | [] => 0
  | d :: r => uptoBulk d + uptoBulkAll r
def uptoBulkEntries {H : Type} : List (Lit × DataW H) → Nat
  | [] => 0
  | x :: r => uptoBulkEntry x + uptoBulkEntries r
def uptoBulkEntry {H : Type} : Lit × DataW H → Nat
  | (.string bytes, d) => bytes.length + uptoBulk d + 1
  | (_, d) => uptoBulk d + 1
 end
def uptoSmall : (H : Type) → List (DataW H) → Bool := fun _ ds => decide (uptoBulkAll ds ≤ 1048576)
def OpenSpec.upto (s : _root_.Go.ChangeSpec) : _root_.Go.OpenSpec := { _root_.Go.OpenSpec.ofChange s with cond := some uptoSmall }

/-- 'semvcslaw04.LayoutPrograms', WHERE WHAT IT READS IS OF BULK AT MOST 1048576: true; the input reads as it did. -/
def layoutProgramsUptoRow : OpenClaim := { program := "ytpnpdlnpikkeaaagreat", sum := "dc43121ac369b0cd1d21cf5250d54936c2129d71b7ded4289375ec4b7a06d9ee", func := "semvcs/semvcslaw04.LayoutPrograms", spec := "layoutPrograms", inPlace := ["internal/bytealg.IndexByteString", "internal/abi.NoEscape"], recurses := true, apart := false, narrowed := true }
def LayoutProgramsUptoSaid : Prop := layoutProgramsUptoRow.holds Tryz.pinned (OpenSpec.upto layoutProgramsSpec)

/-- 'semvcslaw04.LayoutTwice', WHERE WHAT IT READS IS OF BULK AT MOST 1048576: true; the input reads as it did. -/
def layoutTwiceUptoRow : OpenClaim := { program := "ytpnpdlnpikkeaaagreat", sum := "dc43121ac369b0cd1d21cf5250d54936c2129d71b7ded4289375ec4b7a06d9ee", func := "semvcs/semvcslaw04.LayoutTwice", spec := "layoutTwice", inPlace := ["internal/bytealg.IndexByteString", "internal/abi.NoEscape"], recurses := true, apart := false, narrowed := true }
def LayoutTwiceUptoSaid : Prop := layoutTwiceUptoRow.holds Tryz.pinned (OpenSpec.upto layoutTwiceSpec)

end Rows
end Go.Proofs.YtpnpdlnpikkeaaaGreat
