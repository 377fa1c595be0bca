/- Contracts of layer 1, third part: Lay, by the program and by the reference. -/
import Derived.Test.YtecbnialcnplkaaC1b
import Derived.Test.YtecbnialcnplkaaS1
import Derived.Below
import Derived.OwnWalk
import Derived.Laws.BytesArg
namespace Go.Proofs.Ytecbnialcnplkaa
open Go.RowKit
set_option linter.unusedVariables false
end Go.Proofs.Ytecbnialcnplkaa
namespace Go.Proofs.Ytecbnialcnplkaa
open Go.RowKit
set_option linter.unusedVariables false
end Go.Proofs.Ytecbnialcnplkaa
namespace Go.Proofs.Ytecbnialcnplkaa
open Go.RowKit
set_option linter.unusedVariables false
end Go.Proofs.Ytecbnialcnplkaa
