/-
  beagleref03's functions, each by a contract.
-/
import Derived.Test.YtobailigphmopaaWCrt
import Derived.Test.YtobailigphmopaaSl
namespace Go.Proofs.Ytobailigphmopaa
open Go.RowKit BG
attribute [local go_sem ↓] Go.wp_at_zero Go.wp_at_succ
set_option linter.unusedVariables false

end Go.Proofs.Ytobailigphmopaa
