/- Contracts of the functions that the law reaches, part 8. -/
import Derived.Test.YtehhanlhfdoiaaaGreatBq7
set_option linter.unusedVariables false
set_option linter.unusedSimpArgs false
namespace Go.Proofs.YtehhanlhfdoiaaaGreat
open _root_.Go.Proofs.Tryz
open Go.RowKit Lx Sx
set_option maxHeartbeats 2000000
variable{t:Tree}
variable{i:Nat}{u:Tree}
variable{l r:List Pce}
open Go.RowKit
set_option maxRecDepth 100000
set_option maxHeartbeats 4000000
open Go.RowKit Lx
variable{x:YB}
variable{s:WS}
variable{n:Int}
end Go.Proofs.YtehhanlhfdoiaaaGreat
