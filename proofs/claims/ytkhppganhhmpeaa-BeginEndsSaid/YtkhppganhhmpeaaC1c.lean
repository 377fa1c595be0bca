/- Contracts of layer 1, third part: Lay, by the program and by the reference. -/
import Derived.Test.YtkhppganhhmpeaaC1b
import Derived.Test.YtkhppganhhmpeaaS1
import Derived.Below
import Derived.OwnWalk
import Derived.Laws.BytesArg
namespace Go.Proofs.Ytkhppganhhmpeaa
open Go.RowKit
set_option linter.unusedVariables false
end Go.Proofs.Ytkhppganhhmpeaa
namespace Go.Proofs.Ytkhppganhhmpeaa
open Go.RowKit
set_option linter.unusedVariables false
end Go.Proofs.Ytkhppganhhmpeaa
namespace Go.Proofs.Ytkhppganhhmpeaa
open Go.RowKit
set_option linter.unusedVariables false
end Go.Proofs.Ytkhppganhhmpeaa
