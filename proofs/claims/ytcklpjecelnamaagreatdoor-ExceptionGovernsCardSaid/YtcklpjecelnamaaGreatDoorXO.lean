/- Exceptions: clashes, the program's and the reference's. -/
import Derived.Test.YtcklpjecelnamaaGreatDoorXN
import Derived.Test.YtcklpjecelnamaaGreatDoorFn3
set_option linter.unusedVariables false
set_option linter.unusedSimpArgs false
namespace Go.Eng.N
open Go Go.Eng
end Go.Eng.N
