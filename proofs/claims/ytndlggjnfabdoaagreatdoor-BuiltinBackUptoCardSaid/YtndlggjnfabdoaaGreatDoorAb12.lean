/- The texts fit the seat's program. No condition. -/
import Derived.Test.YtndlggjnfabdoaaGreatDoorChecked
import Derived.Test.YtndlggjnfabdoaaGreatDoorAb09
import Derived.Test.YtndlggjnfabdoaaGreatDoorAb02
import Derived.KernelRfl
set_option linter.all false
namespace Ab.U
open Go Ab Go.Proofs
set_option maxRecDepth 100000
/- numbers from 100000 on: another text of the same function -/
def varLink (w : World) : Link := { fnOf := fun n => n % 100000, tyOf := fun n => n, glOf := fun n => n, w0 := w }
theorem tab_ok (w : World) : tabOk Tryz.prog (varLink w) table = true := by kernel_rfl
end Ab.U
