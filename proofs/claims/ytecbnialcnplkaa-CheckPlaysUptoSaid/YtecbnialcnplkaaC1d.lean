/- Contracts of layer 1, fourth part: Take; the reference's least, Low, Lay, Take. -/
import Derived.Test.YtecbnialcnplkaaC1c
namespace Go.Proofs.Ytecbnialcnplkaa
open Go.RowKit
set_option linter.unusedVariables false
end Go.Proofs.Ytecbnialcnplkaa
