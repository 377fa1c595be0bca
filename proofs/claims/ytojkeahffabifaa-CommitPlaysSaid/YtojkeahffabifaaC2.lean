/- Contracts of layer 2 (sig): With. -/
import Derived.Test.YtojkeahffabifaaC1b
import Derived.Test.YtojkeahffabifaaS2
import Derived.Below
import Derived.RegionTactic
import Derived.ChangeAlike
import Derived.BigRegion
namespace Go.Proofs.Ytojkeahffabifaa
open Go.RowKit
set_option linter.unusedVariables false
end Go.Proofs.Ytojkeahffabifaa
