/- Over the seat's program: the abstract machine with these oracles is sound. No conditions. -/
import Derived.Test.YtlainoonnnimiaaGreatDoorMa
set_option linter.all false
set_option linter.unusedVariables false
set_option linter.constructorNameAsVariable false
set_option linter.unnecessarySimpa false
set_option linter.unusedSimpArgs false
open Go Go.Ev Go.Proofs
namespace Go.Ev
noncomputable def orc1 (f : Nat) : Option (List V → (V → M) → M) := bif Nat.beq f 135 then some numO else bif Nat.beq f 188 then some (idxO 139) else bif Nat.beq f 165 then some (blkO 1) else none
noncomputable def T1 : Tab := ⟨tys, fns, fun _ _ => none, fun _ => none, orc1, 4⟩
theorem orc1_ok (f : Nat) (o : List V → (V → M) → M) (h' : orc1 f = some o) : OrcOk Tryz.prog 4 f o := by
  unfold orc1 at h'
  cases e1 : Nat.beq f 135 with
  | true => rw [e1, cond_true] at h'; cases h'; rw [Nat.eq_of_beq_eq_true e1]; exact num_orc
  | false =>
    rw [e1, cond_false] at h'
    cases e2 : Nat.beq f 188 with
    | true => rw [e2, cond_true] at h'; cases h'; rw [Nat.eq_of_beq_eq_true e2]; exact idx_orc
    | false =>
      rw [e2, cond_false] at h'
      cases e3 : Nat.beq f 165 with
      | true => rw [e3, cond_true] at h'; cases h'; rw [Nat.eq_of_beq_eq_true e3]; exact blk_orc
      | false => rw [e3, cond_false] at h'; cases h'
theorem ok1 : Ok Tryz.prog T1 := { ty := tys_ok, fn := fns_ok, mt := fun _ _ _ h => (by cases h), xf := fun _ _ h => (by cases h), orc := orc1_ok }
noncomputable def hg : Tr Blk := (((Tr.l : Tr Blk).set (.cells 0 8 8 true [.u] (Tr.lay gl0 0 .l)) 0).set (.cells 0 64 64 true [.u] (Tr.lay gl1 0 .l)) 1).set (.cells 0 16 16 true [.u] (Tr.lay gl3 0 .l)) 3
end Go.Ev
