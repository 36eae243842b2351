/- The texts fit the seat's program. No condition. -/
import Derived.Test.YtbncnjpohgbgjaaGreatChecked
import Derived.Test.YtbncnjpohgbgjaaGreatAb08
import Derived.Test.YtbncnjpohgbgjaaGreatAb02
import Derived.KernelRfl
set_option linter.all false
set_option maxHeartbeats 8000000
namespace Ab.C
open Go Ab Go.Proofs
set_option maxRecDepth 100000
def iU (w : World) : eB := { fnOf := fun n => n % 100000, tyOf := fun n => n, glOf := fun n => n, w0 := w }
theorem Ru (w : World) : OU Tryz.prog (iU w) ag = true := by kernel_rfl
end Ab.C
