/- Contracts of layer 2 (sig): With. -/
import Derived.Test.YtkhppganhhmpeaaC1b
import Derived.Test.YtkhppganhhmpeaaS2
import Derived.Below
import Derived.RegionTactic
import Derived.ChangeAlike
import Derived.BigRegion
namespace Go.Proofs.Ytkhppganhhmpeaa
open Go.RowKit
set_option linter.unusedVariables false
end Go.Proofs.Ytkhppganhhmpeaa
