/- THE ABSTRACT MACHINE AND THE MODEL: leaving, rounds, and what is to be shown. Own work. -/
import Derived.Test.YtlainoonnnimiaaGreatDoorEvG1
set_option linter.all false
set_option linter.unusedVariables false
set_option linter.constructorNameAsVariable false
set_option linter.unnecessarySimpa false
set_option linter.unusedSimpArgs false
set_option linter.unusedSimpArgs false
set_option linter.unusedVariables false
namespace Go.Ev

section steps
variable {P : Program} {fr : Frame} {cs : List Frame} {w : World} {k : List Item}

theorem st_end (hm : fr.mode = .run) (hr : fr.roundOf = none) (ht : fr.todo = []) : step P (lone fr cs w) = .next (lone { fr with mode := .returning } cs w) := step_lone_go (by simp [stepG, stepG.exec, hm, hr, ht])
theorem st_ret (hm : fr.mode = .run) (hr : fr.roundOf = none) (ht : fr.todo = .code .ret :: k) : step P (lone fr cs w) = .next (lone { fr with mode := .returning } cs w) := step_lone_go (by simp [stepG, stepG.exec, hm, hr, ht])

theorem st_take {b : Nat} {ds : List Deferred} {w' : World} (hm : fr.mode = .returning) (hd : fr.defers = { target := .collected b, args := #[] } :: ds) (hs : (Instr.takeDeferred b).run P w = .ok [] w') :
    step P (lone fr cs w) = .next (lone { fr with defers := ds } cs w') := step_lone_go (by simp [stepG, unwind, hm, hd, hs])

theorem st_roundEnd {l : Nat} {c : Frame} {v : Value} {w' : World} (hm : fr.mode = .run) (hk : fr.kind = .normal) (hr : fr.roundOf = some l) (ht : fr.todo = []) (hs : (Instr.endRound l none).run P w = .ok v w') :
    step P (lone fr (c :: cs) w) = .next (lone (c.finish v) cs w') := step_lone_go (by simp [stepG, stepG.exec, hm, hr, ht, hs, doReturn, hk])
theorem st_roundRet {l : Nat} {c : Frame} {v : Value} {w' : World} (hm : fr.mode = .run) (hk : fr.kind = .normal) (hr : fr.roundOf = some l) (ht : fr.todo = .code .ret :: k) (hs : (Instr.endRound l (some .ret)).run P w = .ok v w') :
    step P (lone fr (c :: cs) w) = .next (lone (c.finish v) cs w') := step_lone_go (by simp [stepG, stepG.exec, hm, hr, ht, hs, doReturn, hk])
theorem st_roundExit {l id : Nat} {c : Frame} {v : Value} {w' : World} (hm : fr.mode = .run) (hk : fr.kind = .normal) (hr : fr.roundOf = some l) (ht : fr.todo = .code (.exit id) :: k) (he : Go.exitTo id k = none) (hs : (Instr.endRound l (some (.exit id))).run P w = .ok v w') :
    step P (lone fr (c :: cs) w) = .next (lone (c.finish v) cs w') := step_lone_go (by simp [stepG, stepG.exec, hm, hr, ht, hs, he, doReturn, hk])

theorem st_begin {l : Nat} {w' : World} (hm : fr.mode = .run) (hr : fr.roundOf = some l) (ht : fr.todo = .beginRound :: k) (hs : (Instr.beginRound l).run P w = .ok () w') :
    step P (lone fr cs w) = .next (lone { fr with todo := k } cs w') := step_lone_go (by simp [stepG, stepG.exec, stepG.apply, hm, hr, ht, hs, Frame.finish])

theorem st_endLoop {l : Nat} {j : Option Code} {w' : World} (hm : fr.mode = .run) (ht : fr.todo = .endRangeFunc l :: k) (hs : (Instr.endLoop l).run P w = .ok j w') :
    step P (lone fr cs w) = .next (lone { fr with todo := (j.map Item.code).toList ++ k } cs w') := step_lone_go (by simp [stepG, stepG.exec, hm, ht, hs])

theorem stG_rangeFunc {g : Operand} {ps : Array Tmp} {a b : Code} {l : Nat} {mark : List Deferred} {w₁ : World} (hm : fr.mode = .run) (ht : fr.todo = .code (.rangeFunc g ps a b) :: k)
    (hs : (Instr.enterLoop fr.fn fr.tmps ps a b fr.roundOf).run P w = .ok (l, mark) w₁) :
    (stepG P true { frame := fr, callers := cs, status := .running, dying := none } w).bare =
      (stepG.apply P true { fr with todo := .inRangeFunc l :: k, defers := mark ++ fr.defers } cs none
        (do let d ← resolve fr.eval { callee := .value g, args := #[.const (.func (.yield l) #[] #[])], argTypes := #[] } 0; invoke d.target d.args) w₁).bare := by
  simp only [stepG, hm, stepG.exec, ht, Sem.runT_eq, hs, GStep.bare_after]
  rfl
end steps

/-- A run's end, as whoever stands below sees it. -/
def Done (P : Program) (m : Machine) (rd : Option Nat) (fn : Nat) (base : List Frame) (v' : Value) (w' : World) : Prop :=
  match rd with
  | none => ∃ fr₁, Steps P m (lone fr₁ base w') ∧ fr₁.fn = fn ∧ fr₁.leaving P w' (.returned v')
  | some _ => ∀ c base', base = c :: base' → Steps P m (lone (c.finish v') base' w')

theorem Done.steps {P : Program} {m m₂ : Machine} {rd fn base v' w'} (s : Steps P m m₂) (h : Done P m₂ rd fn base v' w') : Done P m rd fn base v' w' := by
  cases rd with
  | none => obtain ⟨fr₁, a, b, c⟩ := h; exact ⟨fr₁, s.trans a, b, c⟩
  | some l => exact fun c base' e => s.trans (h c base' e)

theorem Done.back {P : Program} {m : Machine} {rd fn v' w'} {c : Frame} {base : List Frame} (h : Done P m rd fn (c :: base) v' w') : Steps P m (lone (c.finish v') base w') := by
  cases rd with
  | none => obtain ⟨fr₁, a, b, d⟩ := h; exact a.trans (.one (step_leave_returned d))
  | some l => exact h c base rfl

def lastF (f : AF) : List AF → AF
  | [] => f
  | c :: cs => lastF c cs

section
variable {P : Program} {T : Tab} {ih : Go}

def Concl (P : Program) (T : Tab) (ι : Ren) (h : Tr Blk) (c W : Nat) (w : World) (out : Out) (m : Machine) (f : AF) (cs : List AF) (base : List Frame) : Prop :=
  ∃ v' ι' w', Done P m (lastF f cs).rd (lastF f cs).fn base v' w' ∧ VR ι' out.v v' ∧ Way ι h c W w ι' out.h out.c out.w w'

def GoOk (P : Program) (T : Tab) (ih : Go) : Prop :=
  ∀ f cs fr crs base ι h c r W w out, run (ih f cs) h c r W = some out → Sim ι h w → Glob T.ng ι → Fresh ι h c out → FR ι f fr → CsR ι cs crs → Concl P T ι h c W w out (lone fr (crs ++ base) w) f cs base

variable {ι ι2 : Ren} {h h2 : Tr Blk} {c c2 r r2 W W2 : Nat} {w w2 : World} {out : Out} {m : Machine} {f f2 : AF} {cs cs2 : List AF} {fr fr2 : Frame} {crs crs2 base : List Frame}

theorem lastF_same (hrd : f2.rd = f.rd) (hfn : f2.fn = f.fn) (cs : List AF) : (lastF f2 cs).rd = (lastF f cs).rd ∧ (lastF f2 cs).fn = (lastF f cs).fn := by
  cases cs with
  | nil => exact ⟨hrd, hfn⟩
  | cons c cs => exact ⟨rfl, rfl⟩

theorem GoOk.use (H : GoOk P T ih) (p : Way ι h c W w ι2 h2 c2 W2 w2) (F : Fresh ι h c out) (G : Glob T.ng ι) (s : Steps P m (lone fr2 (crs2 ++ base) w2)) (hr : run (ih f2 cs2) h2 c2 r2 W2 = some out)
    (hf : FR ι2 f2 fr2) (hc : CsR ι2 cs2 crs2) (hl : (lastF f2 cs2).rd = (lastF f cs).rd ∧ (lastF f2 cs2).fn = (lastF f cs).fn) : Concl P T ι h c W w out m f cs base := by
  obtain ⟨v', ι', w', d, v, q⟩ := H f2 cs2 fr2 crs2 base ι2 h2 c2 r2 W2 w2 out hr p.sim (G.le p.le) (F.way p) hf hc
  rw [hl.1, hl.2] at d
  exact ⟨v', ι', w', d.steps s, v, p.trans q⟩

theorem put_ok {dst : Option Nat} {v : V} {v' : Value} {td : List It} {todo : List Item} {K : AF → M} (hr : run (f.put dst v td K) h c r W = some out) (hf : FR ι f fr) (hv : VR ι v v') (ht : TdR ι td todo) :
    ∃ f2, run (K f2) h c r W = some out ∧ FR ι f2 { fr with tmps := putA dst v' fr.tmps, todo := todo } ∧ f2.rd = f.rd ∧ f2.fn = f.fn := by
  unfold AF.put at hr
  cases dst with
  | none => exact ⟨_, hr, ⟨hf.fn, hf.mode, hf.kind, hf.rd, hf.nt, hf.tm, ht, hf.df⟩, rfl, rfl⟩
  | some d =>
    simp only at hr
    obtain ⟨hlt, hr1⟩ := run_bif hr
    rw [nblt_iff, decide_eq_true_eq] at hlt
    refine ⟨_, hr1, ⟨hf.fn, hf.mode, hf.kind, hf.rd, by simp [putA, hf.nt], fun t u hu => ?_, ht, hf.df⟩, rfl, rfl⟩
    rw [Tr.get_set] at hu
    have hd : d < fr.tmps.size := by rw [hf.nt]; exact hlt
    by_cases e : t = d
    · rw [if_pos e] at hu
      cases hu
      subst e
      simpa [putA, Array.getD_eq_getD_getElem?, Array.getElem?_setIfInBounds, hd] using hv
    · rw [if_neg e] at hu
      have := hf.tm t u hu
      simpa [putA, Array.getD_eq_getD_getElem?, Array.getElem?_setIfInBounds, Ne.symm e] using this

theorem finish_op {ops : Array Oper} {i : Nat} {is : List Nat} {k : List Item} {o : Oper} (ht : fr.todo = .inRegion ops (i :: is) :: k) (ho : ops[i]? = some o) (v : Value) :
    fr.finish v = { fr with tmps := putA o.dst v fr.tmps, todo := .inRegion ops is :: k } := by
  cases h : o.dst <;> simp [Frame.finish, ht, putA, ho, h]

/-- The front of a region's list. -/
theorem reg_front {ops : Array Oper} {is : List Nat} {o : Oper} {rest : List Oper} (h : is.map (fun i => ops[i]?) = (o :: rest).map some) : ∃ i is', is = i :: is' ∧ ops[i]? = some o ∧ is'.map (fun i => ops[i]?) = rest.map some := by
  cases is with
  | nil => simp at h
  | cons i is => simp only [List.map_cons, List.cons.injEq] at h; exact ⟨i, is, rfl, h.1, h.2⟩

theorem fin_ok {v : V} {v' : Value} {K : AF → M} (hr : run (f.fin v K) h c r W = some out) (hf : FR ι f fr) (hv : VR ι v v') :
    ∃ f2, run (K f2) h c r W = some out ∧ FR ι f2 (fr.finish v') ∧ f2.rd = f.rd ∧ f2.fn = f.fn := by
  unfold AF.fin at hr
  split at hr
  · rename_i ops o rest k htd
    have ht := hf.td
    rw [htd] at ht
    obtain ⟨ops', is, k', hto, e1, e2, ht'⟩ := ht.reg_inv
    obtain ⟨i, is', rfl, ho, e3⟩ := reg_front e2
    rw [finish_op hto ho]
    exact put_ok hr hf hv (by simp only [TdR]; exact ⟨⟨e1, e3⟩, ht'⟩)
  · rename_i l k htd
    have ht := hf.td
    rw [htd] at ht
    obtain ⟨L, k', hto, hL, ht'⟩ := ht.inRF_inv
    have : fr.finish v' = { fr with todo := .endRangeFunc L.blk :: k' } := by simp [Frame.finish, hto]
    rw [this]
    exact ⟨_, hr, hf.at (by simp only [TdR]; exact ⟨⟨L, hL, rfl⟩, ht'⟩), rfl, rfl⟩
  · simp [run_fail] at hr

theorem back_ok (H : GoOk P T ih) {v : V} {v' : Value} (p : Way ι h c W w ι2 h2 c2 W2 w2) (F : Fresh ι h c out) (G : Glob T.ng ι) (hr : run (back ih v cs) h2 c2 r2 W2 = some out) (hd : Done P m f.rd f.fn (crs ++ base) v' w2)
    (hv : VR ι2 v v') (hc : CsR ι2 cs crs) : Concl P T ι h c W w out m f cs base := by
  unfold back at hr
  cases cs with
  | nil =>
    have : crs = [] := by cases crs with | nil => rfl | cons _ _ => simp [CsR] at hc
    subst this
    rw [run_ret] at hr
    cases hr
    exact ⟨v', ι2, w2, hd, hv, p⟩
  | cons cc cs =>
    cases crs with
    | nil => simp [CsR] at hc
    | cons cr crs =>
      simp only [CsR] at hc
      obtain ⟨c3, hr1, hf1, e1, e2⟩ := fin_ok hr hc.1 hv
      exact H.use (f := f) (cs := cc :: cs) p F G (s := Done.back (by simpa using hd)) hr1 hf1 hc.2 (lastF_same e1 e2 cs)
end
end Go.Ev
