/- The abstract machine with awake() as an oracle is sound. No conditions. -/
import Derived.Test.YtlainoonnnimiaaGreatDoorAw
import Derived.KernelRfl
set_option linter.all false
set_option linter.unusedVariables false
set_option linter.constructorNameAsVariable false
set_option linter.unnecessarySimpa false
set_option linter.unusedSimpArgs false
open Go Go.Ev Go.Proofs
namespace Go.Ev
theorem awk_orc : OrcOk Tryz.prog 4 5 (awkO 0 1 3 gl0 gl1 gl3) := awkO_ok (N := 10000000) (fi := fi5) ok1 (by decide +kernel) (by decide +kernel) (by decide +kernel) (by kernel_rfl) (by kernel_rfl) (by kernel_rfl) (by kernel_rfl) awake_run
noncomputable def orc2 (f : Nat) : Option (List V → (V → M) → M) := bif Nat.beq f 5 then some (awkO 0 1 3 gl0 gl1 gl3) else orc1 f
noncomputable def T2 : Tab := ⟨tys, fns, fun _ _ => none, fun _ => none, orc2, 4⟩
theorem orc2_ok (f : Nat) (o : List V → (V → M) → M) (h' : orc2 f = some o) : OrcOk Tryz.prog 4 f o := by
  unfold orc2 at h'
  cases e1 : Nat.beq f 5 with
  | true => rw [e1, cond_true] at h'; cases h'; rw [Nat.eq_of_beq_eq_true e1]; exact awk_orc
  | false => rw [e1, cond_false] at h'; exact orc1_ok f o h'
theorem ok2 : Ok Tryz.prog T2 := { ty := tys_ok, fn := fns_ok, mt := fun _ _ _ h => (by cases h), xf := fun _ _ h => (by cases h), orc := orc2_ok }
end Go.Ev
