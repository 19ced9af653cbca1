/- SweepNil, run by the abstract machine at an unknown byte, comes to true. No conditions. -/
import Derived.Test.YtlainoonnnimiaaGreatDoorLw
import Derived.KernelRfl
set_option linter.all false
set_option linter.unusedVariables false
set_option linter.constructorNameAsVariable false
set_option linter.unnecessarySimpa false
set_option linter.unusedSimpArgs false
open Go Go.Ev Go.Proofs
namespace Go.Ev
theorem nil_runF (t0 t1 t2 : Nat) : tellsM (2 ^ T2.ng - 1) (runF (goF T2 10000000 (begun 4 fi4 [.q .u8 0 255 1 0]) []) (heap3 0 1 3 t0 t1 t2 gl0 gl1 gl3) T2.ng 0 0) = some (.b true, 0) := by kernel_rfl
theorem nil_run (t0 t1 t2 : Nat) : tellsM (2 ^ T2.ng - 1) (run (go T2 10000000 (begun 4 fi4 [.q .u8 0 255 1 0]) []) (heap3 0 1 3 t0 t1 t2 gl0 gl1 gl3) T2.ng 0 0) = some (.b true, 0) := by
  rw [← run_light]
  exact nil_runF t0 t1 t2
end Go.Ev
