/- Contracts of layer 1, third part: Lay, by the program and by the reference. -/
import Derived.Test.YtcbjbmbibnmohaaC1b
import Derived.Test.YtcbjbmbibnmohaaS1
import Derived.Below
import Derived.OwnWalk
import Derived.Laws.BytesArg
namespace Go.Proofs.Ytcbjbmbibnmohaa
open Go.RowKit
set_option linter.unusedVariables false
end Go.Proofs.Ytcbjbmbibnmohaa
namespace Go.Proofs.Ytcbjbmbibnmohaa
open Go.RowKit
set_option linter.unusedVariables false
end Go.Proofs.Ytcbjbmbibnmohaa
namespace Go.Proofs.Ytcbjbmbibnmohaa
open Go.RowKit
set_option linter.unusedVariables false
end Go.Proofs.Ytcbjbmbibnmohaa
