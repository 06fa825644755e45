/- utf8.FullRuneInString at every string; beginning. -/
import Derived.Test.YtodgllnmepnpfaaDoorUtf0
import Derived.Deep.QuietTactic
import Derived.BigQuiet
set_option linter.unusedVariables false
set_option linter.unusedSimpArgs false
namespace Go.Proofs.YtodgllnmepnpfaaDoor
open Go.RowKit
end Go.Proofs.YtodgllnmepnpfaaDoor
