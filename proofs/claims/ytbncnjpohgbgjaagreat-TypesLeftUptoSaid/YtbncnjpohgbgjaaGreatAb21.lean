/- The law's closed example: the machine's text is run by the kernel. No condition but the table. -/
import Derived.Test.YtbncnjpohgbgjaaGreatAb17
import Derived.KernelRfl
set_option linter.all false
set_option maxHeartbeats 8000000
namespace Ab.C
open Go Ab
set_option maxRecDepth 100000
theorem Ti (j : Nat) (bl : List AB) (tk : List Nat) (ro rt : Nat) : au EP (j + 1000) none (.fn eh [] []) [] { bl, tk, ro, rt } = some (.ret (.bool true), false, { bl, tk, ro, rt }) := by kernel_rfl
theorem QN : bG 1000 EP (.fn eh [] []) [] (.bool true) := fun k hk s => by
 obtain ⟨j, rfl⟩ : ∃ j, k = j + 1000 := ⟨k - 1000, by omega⟩
 obtain ⟨bl, tk, ro, rt⟩ := s
 exact Ti j bl tk ro rt
end Ab.C
