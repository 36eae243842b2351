/- The texts fit the seat's program. No condition. -/
import Derived.Test.YtcbbpkdidkbepaaDoorChecked
import Derived.Test.YtcbbpkdidkbepaaDoorAb07
import Derived.Test.YtcbbpkdidkbepaaDoorAb02
import Derived.KernelRfl
set_option linter.all false
namespace Ab.R
open Go Ab Go.Proofs
set_option maxRecDepth 100000
theorem tab_ok (w : World) : tabOk Tryd.prog (selfLink w) table = true := by kernel_rfl
end Ab.R
