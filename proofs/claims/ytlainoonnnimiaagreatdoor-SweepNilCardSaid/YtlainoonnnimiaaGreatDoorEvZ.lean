/- THE ABSTRACT MACHINE AND THE MODEL: tables out of lists. Own work. -/
import Derived.Test.YtlainoonnnimiaaGreatDoorEvY
set_option linter.all false
set_option linter.unusedVariables false
set_option linter.constructorNameAsVariable false
set_option linter.unnecessarySimpa false
set_option linter.unusedSimpArgs false
namespace Go.Ev

/-- A tree laid out of a list. -/
noncomputable def ofL {α : Type} (l : List (Nat × α)) : Tr α → Tr α := List.rec (motive := fun _ => Tr α → Tr α) (fun t => t) (fun x _ ih t => ih (t.set x.2 x.1)) l
def AllP {α : Type} (q : Nat → α → Prop) : List (Nat × α) → Prop
  | [] => True
  | x :: l => q x.1 x.2 ∧ AllP q l
theorem AllP.append {α : Type} {q : Nat → α → Prop} : ∀ {l m : List (Nat × α)}, AllP q l → AllP q m → AllP q (l ++ m)
  | [], _, _, h => h
  | _ :: _, _, h, k => ⟨h.1, AllP.append h.2 k⟩
theorem AllP.get' {α : Type} {q : Nat → α → Prop} : ∀ {l : List (Nat × α)} {t : Tr α}, AllP q l → (∀ k x, t.get k = some x → q k x) → ∀ k x, (ofL l t).get k = some x → q k x
  | [], t, _, h => h
  | y :: l, t, hq, h => by
    show ∀ k x, (ofL l (t.set y.2 y.1)).get k = some x → q k x
    refine AllP.get' hq.2 fun k x e => ?_
    rw [Tr.get_set] at e
    split at e
    · rename_i hk; cases e; subst hk; exact hq.1
    · exact h k x e
theorem AllP.get {α : Type} {q : Nat → α → Prop} {l : List (Nat × α)} (h : AllP q l) {k : Nat} {x : α} (e : (ofL l .l).get k = some x) : q k x :=
  AllP.get' h (fun k x e => by rw [Tr.get_l] at e; cases e) k x e

def FnRow (P : Program) (f : Nat) (fi : FI) : Prop := ∃ fn, P.funcs[f]? = some fn ∧ fn.body = some fi.code ∧ fn.ntmps = fi.nt ∧ fn.results.toList = fi.res ∧ (fn.name == "runtime.NumGoroutine") = false ∧ codeOk fi.code = true
end Go.Ev
