/- Contracts of the functions that the law reaches, part 7. -/
import Derived.Test.YtomplbgchbfjpaaGreatDoorTr6
set_option linter.unusedVariables false
set_option linter.unusedSimpArgs false
namespace Go.Proofs.YtomplbgchbfjpaaGreatDoor
open _root_.Go.Proofs.Tryz
open Go.RowKit Lx Sx
set_option maxRecDepth 100000
set_option maxHeartbeats 1000000
variable{k:Int}
variable{a b:Kn}
variable{p:List Tree}{t:Tree}
variable{n:Nat}
variable{i:Nat}
variable{q:List Int}
variable{x:Cx}
variable{s:Sv}
variable{s':Sv}{c':CHr}
variable{env:Env}{en:List Bd}
variable{u:Tree}
variable{E:Ev}{N L:Nat}
variable{m:Nat}
variable{q1:List Int}
variable{B:Nat}
set_option maxHeartbeats 4000000
open Go.RowKit
variable{S:Nat→Prop}
theorem LO:wN nc (Cp Gg 10000 20 [.str NI])=true:=by kernel_rfl
theorem Ca:aR [nc]=true:=by decide+kernel
theorem Bu:kbulk [nc]≤10000000:=by decide+kernel
theorem NQ(nm:List ((Int×List UInt8)×aa)):(eX [nc] nm 0 []).fa=[⟨⟨0,[0,1,1]⟩,6⟩,⟨⟨0,[1,2,2]⟩,3⟩]:=by kernel_rfl
theorem Dm(nm:List ((Int×List UInt8)×aa)):(eX [nc] nm 0 [0,1]).rs=5∧(eX [nc] nm 0 [0,1]).rl=0:=⟨by kernel_rfl,by kernel_rfl⟩
def Ny:Tree:=(atK nc [0,1]).getD (.node 0 [] [] [])
theorem Nr:dv Ny.kind=true:=by decide+kernel
end Go.Proofs.YtomplbgchbfjpaaGreatDoor
