/-
  beagleref03's functions, each by a contract.
-/
import Derived.Test.YthbbkmkaopgmdaaWCrt
import Derived.Test.YthbbkmkaopgmdaaSl
namespace Go.Proofs.Ythbbkmkaopgmdaa
open Go.RowKit BG
attribute [local go_sem ↓] Go.wp_at_zero Go.wp_at_succ
set_option linter.unusedVariables false

end Go.Proofs.Ythbbkmkaopgmdaa
