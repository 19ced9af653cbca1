/- THE ABSTRACT MACHINE AND THE MODEL: operations, regions, leaving. Own work. -/
import Derived.Test.YtlainoonnnimiaaGreatDoorEvG3
set_option linter.all false
set_option linter.unusedVariables false
set_option linter.constructorNameAsVariable false
set_option linter.unnecessarySimpa false
set_option linter.unusedSimpArgs false
set_option linter.unusedSimpArgs false
set_option linter.unusedVariables false
set_option linter.constructorNameAsVariable false
namespace Go.Ev

section
variable {P : Program} {T : Tab} {ih : Go} {ι ι2 : Ren} {h h2 : Tr Blk} {c c2 r r2 W W2 : Nat} {w w2 : World} {out : Out} {m : Machine} {f f2 : AF} {cs : List AF} {fr : Frame} {crs base : List Frame} {K : V → M}

/-- Reading a result's cell. -/
theorem aLoad_var (hT : TyOk P T.ty) (S : Sim ι h w) {t : Nat} {a : V} {a' : Value} (ha : VR ι a a') (hr : run (aLoad T.ty t a K) h c r W = some out) :
    ∃ v v' r' A, run (K v) h c r' W = some out ∧ a' = .pointer (some A) ∧ (loadVar t A).run P w = .ok v' w ∧ VR ι v v' := by
  unfold aLoad at hr
  split at hr
  · rename_i b o ti ht
    obtain ⟨d, hd⟩ := hT.at ht
    obtain ⟨x, hx, hr⟩ := run_rd_some hr
    split at hr
    · rename_i e n sz ex z cc
      obtain ⟨hle, hr⟩ := run_bif hr
      rw [ble_iff, decide_eq_true_eq] at hle
      simp only [VR] at ha
      obtain ⟨L, hL, rfl⟩ := ha
      obtain ⟨hb, _⟩ := S.at hx hL
      cases hag : ti.agg with
      | true =>
        rw [hag, cond_true] at hr
        obtain ⟨vs, e1, e2, e3, e4⟩ := run_cells (P := P) hb hle
        refine ⟨_, .agg vs.toArray, _, _, hr, rfl, ?_, ?_⟩
        · simp only [loadVar, Sem.run_bind, hd.run_isAgg, Result.andThen_ok, hag, if_true, hd.run_size, e1, Sem.run_pure]
        · simp only [VR]; exact ⟨_, rfl, by simpa using e2, by simpa using e3⟩
      | false =>
        rw [hag, cond_false] at hr
        have h1 : ti.size = 1 := by
          obtain ⟨i, z', _, g2, _, _, g5⟩ := hd.rest
          obtain ⟨q1, _, q3⟩ := zeroOk_one g5
          rw [hd.agg] at hag
          rcases q3 with ⟨q, _⟩ | ⟨_, q, _⟩
          · rw [hag] at q; cases q
          · rw [← g2, ← q1, q]; rfl
        obtain ⟨v, e1, e2, e3⟩ := hb.cell (j := o) (by omega)
        refine ⟨_, v, _, _, hr, rfl, ?_, e2⟩
        simp only [loadVar, Sem.run_bind, hd.run_isAgg, Result.andThen_ok, hag, Bool.false_eq_true, if_false, run_load, e1]
    · simp [run_fail] at hr
  · simp [run_fail] at hr

/-- How the model reads a result. -/
def resOf (tmps : Array Value) (x : ResultVar) : Sem Value :=
  match x with
  | .tmp t => pure (tmps.getD t undef)
  | .cell a t => do loadVar t (← asAddr (tmps.getD a undef))

theorem resV_ok (hT : TyOk P T.ty) (S : Sim ι h w) {tm : Tr V} {tmps : Array Value} (ht : TmR ι tm tmps) {K : List V → M} : ∀ (rs : List ResultVar) (acc : List V) (r : Nat), run (resV T tm rs acc K) h c r W = some out →
    ∃ l vs r', run (K (acc ++ l)) h c r' W = some out ∧ (rs.mapM (resOf tmps)).run P w = .ok vs w ∧ VRL ι l vs
  | [], acc, r, hr => ⟨[], [], r, by rw [List.append_nil]; exact hr, by simp, by simp [VRL]⟩
  | .tmp t :: rs, acc, r, hr => by
    have hr' : run (resV T tm rs (acc ++ [(tm.get t).getD .u]) K) h c r W = some out := hr
    obtain ⟨l, vs, r', g1, g2, g3⟩ := resV_ok hT S ht rs _ r hr'
    refine ⟨(tm.get t).getD .u :: l, tmps.getD t undef :: vs, r', by simpa using g1, ?_, ?_⟩
    · simp only [List.mapM_cons, resOf, Sem.run_bind, Sem.run_pure, Result.andThen_ok, g2]
    · simp only [VRL]
      refine ⟨?_, g3⟩
      cases hh : tm.get t with
      | none => exact VR.u_of
      | some v => exact ht t v hh
  | .cell a t :: rs, acc, r, hr => by
    have hr' : run (aLoad T.ty t ((tm.get a).getD .u) fun v => resV T tm rs (acc ++ [v]) K) h c r W = some out := hr
    have ha : VR ι ((tm.get a).getD .u) (tmps.getD a undef) := by
      cases hh : tm.get a with
      | none => exact VR.u_of
      | some v => exact ht a v hh
    obtain ⟨v, v', r1, A, g1, g2, g3, g4⟩ := aLoad_var hT S ha hr'
    obtain ⟨l, vs, r', k1, k2, k3⟩ := resV_ok hT S ht rs _ r1 g1
    refine ⟨v :: l, v' :: vs, r', by simpa using k1, ?_, ?_⟩
    · simp only [List.mapM_cons, resOf, g2, asAddr, Sem.run_bind, Sem.run_pure, Result.andThen_ok, g3, k2]
    · simp only [VRL]; exact ⟨g4, k3⟩

theorem results_ok {fn : Func} {tmps : Array Value} {rs : List ResultVar} {vs : List Value} (e : fn.results.toList = rs) (hm : (rs.mapM (resOf tmps)).run P w = .ok vs w) :
    (results fn tmps).run P w = .ok (match vs with | [v] => v | vs => .tuple vs.toArray) w := by
  have h1 : (fn.results.mapM (m := Sem) (resOf tmps)).run P w = .ok vs.toArray w := by
    rw [Array.mapM_eq_mapM_toList, e]
    simp only [Sem.run_map, hm, Result.andThen_ok]
  have h2 : results fn tmps = (do let vs ← fn.results.mapM (resOf tmps); pure (if h : vs.size = 1 then vs[0] else .tuple vs)) := by
    unfold results resOf
    rfl
  rw [h2, Sem.run_bind, h1, Result.andThen_ok, Sem.run_pure]
  congr 1
  rcases vs with _ | ⟨v, _ | ⟨u, vs⟩⟩ <;> simp
end
end Go.Ev
