/- Contracts of layer 1, third part: Lay, by the program and by the reference. -/
import Derived.Test.YtlmnljijpgpmiaaC1b
import Derived.Test.YtlmnljijpgpmiaaS1
import Derived.Below
import Derived.OwnWalk
import Derived.Laws.BytesArg
namespace Go.Proofs.Ytlmnljijpgpmiaa
open Go.RowKit
set_option linter.unusedVariables false
end Go.Proofs.Ytlmnljijpgpmiaa
namespace Go.Proofs.Ytlmnljijpgpmiaa
open Go.RowKit
set_option linter.unusedVariables false
end Go.Proofs.Ytlmnljijpgpmiaa
namespace Go.Proofs.Ytlmnljijpgpmiaa
open Go.RowKit
set_option linter.unusedVariables false
end Go.Proofs.Ytlmnljijpgpmiaa
