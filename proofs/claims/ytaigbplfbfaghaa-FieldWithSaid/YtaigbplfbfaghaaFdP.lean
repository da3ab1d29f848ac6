/- Fields as plain data. No program here. -/
import Derived.Test.YtaigbplfbfaghaaBytes
namespace Go.Proofs.Ytaigbplfbfaghaa
set_option linter.unusedSimpArgs false
set_option linter.unusedVariables false

/-- A field: its name and its body. -/
abbrev Fd := List UInt8 × List UInt8

end Go.Proofs.Ytaigbplfbfaghaa
