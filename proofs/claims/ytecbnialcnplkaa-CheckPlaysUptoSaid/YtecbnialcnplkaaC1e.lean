/- Contracts of layer 1, fifth part: shifts, turns, smaller numbers, by the program and by the reference. -/
import Derived.Test.YtecbnialcnplkaaC1d
import Derived.Test.YtecbnialcnplkaaS1c
namespace Go.Proofs.Ytecbnialcnplkaa
open Go.RowKit
set_option linter.unusedVariables false
end Go.Proofs.Ytecbnialcnplkaa
