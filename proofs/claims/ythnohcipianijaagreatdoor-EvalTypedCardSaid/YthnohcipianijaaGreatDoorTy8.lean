/- Contracts of the functions that the law reaches, part 8. -/
import Derived.Test.YthnohcipianijaaGreatDoorTy7
set_option linter.unusedVariables false
set_option linter.unusedSimpArgs false
namespace Go.Proofs.YthnohcipianijaaGreatDoor
open _root_.Go.Proofs.Tryz
open Go.RowKit
variable{i:Nat}
variable{S:Nat->Prop}{x:Value}
variable{k:Nat}{xs:List Value}
open Go.RowKit Lx Sx
set_option maxRecDepth 100000
variable{t:Tree}
set_option maxHeartbeats 1100000
end Go.Proofs.YthnohcipianijaaGreatDoor
