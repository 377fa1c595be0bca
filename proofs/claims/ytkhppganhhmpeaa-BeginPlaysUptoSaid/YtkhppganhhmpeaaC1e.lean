/- Contracts of layer 1, fifth part: shifts, turns, smaller numbers, by the program and by the reference. -/
import Derived.Test.YtkhppganhhmpeaaC1d
import Derived.Test.YtkhppganhhmpeaaS1c
namespace Go.Proofs.Ytkhppganhhmpeaa
open Go.RowKit
set_option linter.unusedVariables false
end Go.Proofs.Ytkhppganhhmpeaa
