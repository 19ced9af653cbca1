/- THE ABSTRACT MACHINE AND THE MODEL: listed tables of numbers; a world as a heap of globals. Own work. -/
import Derived.Test.YtlainoonnnimiaaGreatDoorEvZ
import Derived.ProofKit
import Derived.LaidMore
import Derived.OpenShut
import Derived.FnData
set_option linter.all false
set_option linter.unusedVariables false
set_option linter.constructorNameAsVariable false
set_option linter.unnecessarySimpa false
set_option linter.unusedSimpArgs false
set_option linter.unusedSimpArgs false
set_option linter.unusedVariables false
set_option linter.constructorNameAsVariable false
namespace Go.Ev
open Go.ChangeShapes Go.WideShapes Go.ChangeAt Go.RowKit

/-- A listed table of whole numbers of one kind: its cells. -/
theorem table_cells {H : Type} {enc : TypeId × Value → H} {P : Program} {w : World} {base : Nat} {sp : Nat → Bool} {hd : Bool} {fuel t e n : Nat} {k : IntKind} {cs : List Value} {ns : List Int} {p : List MemPlace}
    (ht : P.underlying t = some (.array n e)) (he : P.underlying e = some (.int k)) (hc : P.cellsOf e = 1) (hct : P.cellsOf t = n)
    (h : DataW.trod enc P w base sp hd fuel t cs = some (.agg (ns.map fun x => .lit (.int k x)), p)) : cs = ns.map fun x => .int k x := by
  obtain ⟨xs, m, rfl, hx, hlen, hn, hel⟩ := DataW.trod_array ht h
  rw [hc] at hel
  rw [hct] at hlen
  injection hx with hx1 hx2
  injection hx1 with hx1
  have hl : ns.length = n := by have := congrArg List.length hx1; simpa [hn] using this
  refine List.ext_getElem? fun i => ?_
  rcases Nat.lt_or_ge i n with hi | hi
  · have h1 := hel i hi
    rw [Nat.mul_one] at h1
    have hxi : xs[i]? = some xs[i] := List.getElem?_eq_getElem (by omega)
    rw [hxi] at h1
    obtain ⟨v, hv, hv2, _⟩ := DataW.trod_int he h1
    have hcs : (cs.drop i).take 1 = [cs[i]] := by
      rw [List.take_one, List.head?_drop, List.getElem?_eq_getElem (by omega)]
      rfl
    rw [hcs] at hv
    have hxi2 : (ns.map fun x => (DataW.lit (.int k x) : DataW H))[i]? = some (xs[i]).1 := by rw [hx1, List.getElem?_map, hxi]; rfl
    rw [hv2, List.getElem?_map] at hxi2
    rw [List.getElem?_map, List.getElem?_eq_getElem (show i < cs.length by omega)]
    have hni : ns[i]? = some ns[i] := List.getElem?_eq_getElem (by omega)
    rw [hni] at hxi2 ⊢
    simp only [Option.map_some, Option.some.injEq, DataW.lit.injEq, Lit.int.injEq, true_and] at hxi2
    simp only [List.cons.injEq, and_true] at hv
    rw [hv, hxi2]
    rfl
  · rw [List.getElem?_eq_none (by omega), List.getElem?_eq_none (by simp; omega)]

/-- The globals' names: each is its own block; so many cells, as the world has them. -/
noncomputable def globRen (ng : Nat) (w : World) : Ren := fun b => if b < ng then some ⟨b, 0, (match w.heap[b]? with | some (.cells c _ _) => c.size | _ => 0), 0⟩ else none

theorem globRen_glob (ng : Nat) (w : World) : Glob ng (globRen ng w) := fun g hg => by
  unfold globRen
  rw [if_pos hg]
  exact ⟨_, rfl, rfl, rfl⟩

/-- A global's cells, told. -/
theorem glob_br {w : World} {ng g t : Nat} {c : Array Value} {k : IntKind} {ns : List Int} (hh : w.heap[g]? = some (.cells c t (0, 0))) (hns : c.toList = ns.map fun x => .int k x) :
    BR (globRen ng w) w ⟨g, 0, c.size, 0⟩ (.cells t ns.length 0 true [.u] (Tr.lay (ns.map fun x => V.i k x) 0 .l)) := by
  have hlen : c.size = ns.length := by have := congrArg List.length hns; simpa using this
  refine ⟨c, (0, 0), hh, by simp, by show ns.length ≤ c.size; omega, rfl, .inl rfl, fun j hj => ?_⟩
  have hj' : j < c.toList.length := by simp; omega
  refine ⟨.int k ns[j], ?_, ?_, rfl⟩
  · show c[0 + j]? = _
    rw [Nat.zero_add, ← Array.getElem?_toList, hns, List.getElem?_map, List.getElem?_eq_getElem hj]
    rfl
  · rw [cell_lay, if_pos (by simp; omega)]
    simp [List.getD, hj, VR]
end Go.Ev
