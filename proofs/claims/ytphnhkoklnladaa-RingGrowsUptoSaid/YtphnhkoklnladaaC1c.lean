/- Contracts of layer 1, third part: Lay, by the program and by the reference. -/
import Derived.Test.YtphnhkoklnladaaC1b
import Derived.Test.YtphnhkoklnladaaS1
import Derived.Below
import Derived.OwnWalk
import Derived.Laws.BytesArg
namespace Go.Proofs.Ytphnhkoklnladaa
open Go.RowKit
set_option linter.unusedVariables false
end Go.Proofs.Ytphnhkoklnladaa
namespace Go.Proofs.Ytphnhkoklnladaa
open Go.RowKit
set_option linter.unusedVariables false
end Go.Proofs.Ytphnhkoklnladaa
namespace Go.Proofs.Ytphnhkoklnladaa
open Go.RowKit
set_option linter.unusedVariables false
end Go.Proofs.Ytphnhkoklnladaa
