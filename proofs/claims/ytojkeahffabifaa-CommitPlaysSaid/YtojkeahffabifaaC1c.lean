/- Contracts of layer 1, third part: Lay, by the program and by the reference. -/
import Derived.Test.YtojkeahffabifaaC1b
import Derived.Test.YtojkeahffabifaaS1
import Derived.Below
import Derived.OwnWalk
import Derived.Laws.BytesArg
namespace Go.Proofs.Ytojkeahffabifaa
open Go.RowKit
set_option linter.unusedVariables false
end Go.Proofs.Ytojkeahffabifaa
namespace Go.Proofs.Ytojkeahffabifaa
open Go.RowKit
set_option linter.unusedVariables false
end Go.Proofs.Ytojkeahffabifaa
namespace Go.Proofs.Ytojkeahffabifaa
open Go.RowKit
set_option linter.unusedVariables false
end Go.Proofs.Ytojkeahffabifaa
