/- What ladders bear: the program. -/
import Derived.Test.YtgapnhpmgidmhaaBear2
set_option linter.unusedSimpArgs false
set_option linter.unusedVariables false
namespace Go.Proofs.Ytgapnhpmgidmhaa
open Go.RowKit
attribute [local go_sem] Later.cell

end Go.Proofs.Ytgapnhpmgidmhaa
