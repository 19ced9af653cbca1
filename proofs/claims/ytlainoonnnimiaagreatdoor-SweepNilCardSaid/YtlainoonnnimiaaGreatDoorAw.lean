/- The law's own awake(), run by the abstract machine on the program's tables, comes to true. No conditions. -/
import Derived.Test.YtlainoonnnimiaaGreatDoorMb
import Derived.Test.YtlainoonnnimiaaGreatDoorEvF
import Derived.KernelRfl
set_option linter.all false
set_option linter.unusedVariables false
set_option linter.constructorNameAsVariable false
set_option linter.unnecessarySimpa false
set_option linter.unusedSimpArgs false
open Go Go.Ev Go.Proofs
namespace Go.Ev
theorem awake_runF (t0 t1 t2 : Nat) : tellsM (2 ^ T1.ng - 1) (runF (goF T1 10000000 (begun 5 fi5 []) []) (heap3 0 1 3 t0 t1 t2 gl0 gl1 gl3) T1.ng 0 0) = some (.b true, 0) := by kernel_rfl
theorem awake_run (t0 t1 t2 : Nat) : tellsM (2 ^ T1.ng - 1) (run (go T1 10000000 (begun 5 fi5 []) []) (heap3 0 1 3 t0 t1 t2 gl0 gl1 gl3) T1.ng 0 0) = some (.b true, 0) := by
  rw [← run_light]
  exact awake_runF t0 t1 t2
end Go.Ev
