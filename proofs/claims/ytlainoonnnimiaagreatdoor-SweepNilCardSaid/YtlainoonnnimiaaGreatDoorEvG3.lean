/- THE ABSTRACT MACHINE AND THE MODEL: calls. Own work. -/
import Derived.Test.YtlainoonnnimiaaGreatDoorEvG2
set_option linter.all false
set_option linter.unusedVariables false
set_option linter.constructorNameAsVariable false
set_option linter.unnecessarySimpa false
set_option linter.unusedSimpArgs false
set_option linter.unusedSimpArgs false
set_option linter.unusedVariables false
set_option linter.constructorNameAsVariable false
namespace Go.Ev

/-- What an answer of a computation of the model is: at once, or by a call that comes back. -/
def Answers (P : Program) (B : List Frame) (s : Sem Next) (w : World) (v' : Value) (w' : World) : Prop :=
  (∃ n, s.run P w = .ok n w' ∧ NV n v') ∨
  (∃ f args, s.run P w = .ok (.enter f args) w ∧ ∃ fr₁, Steps P (lone (Frame.enter P f args .normal) B w) (lone fr₁ B w') ∧ fr₁.leaving P w' (.returned v'))

def Enters (P : Program) (s : Sem Next) (w : World) (frE : Frame) : Prop :=
  ∃ n, s.run P w = .ok n w ∧ ((∃ f args, n = .enter f args ∧ frE = Frame.enter P f args .normal) ∨ (∃ l f tmps a b, n = .round l f tmps a b ∧ frE = Frame.round l f tmps a b .normal))

def CallR (P : Program) (B : List Frame) (ih : Go) (s : Sem Next) (ι : Ren) (h : Tr Blk) (c W : Nat) (w : World) (out : Out) (cs : List AF) (K : V → M) : Prop :=
  (∃ v v' ι' h' c' r' W' w', run (K v) h' c' r' W' = some out ∧ VR ι' v v' ∧ Way ι h c W w ι' h' c' W' w' ∧ Answers P B s w v' w') ∨
  (∃ f2 frE r', run (ih f2 cs) h c r' W = some out ∧ FR ι f2 frE ∧ Enters P s w frE)

def OrcOk (P : Program) (ng : Nat) (f : Nat) (o : List V → (V → M) → M) : Prop :=
  ∀ (B : List Frame) (K : V → M) args (args' : Array Value) ι h c r W w out, run (o args K) h c r W = some out → Sim ι h w → Glob ng ι → Fresh ι h c out → VRL ι args args'.toList →
    ∃ v v' ι' h' c' r' W' w', run (K v) h' c' r' W' = some out ∧ VR ι' v v' ∧ Way ι h c W w ι' h' c' W' w' ∧ Answers P B (callFunc f args') w v' w'

structure Ok (P : Program) (T : Tab) : Prop where
  ty : TyOk P T.ty
  fn : ∀ f fi, T.fn.get f = some fi → ∃ fn, P.funcs[f]? = some fn ∧ fn.body = some fi.code ∧ fn.ntmps = fi.nt ∧ fn.results.toList = fi.res ∧ (fn.name == "runtime.NumGoroutine") = false ∧ codeOk fi.code = true
  mt : ∀ t name f, T.mt t name = some f → ∀ v w, (method (P.types.size + Made.depth) t v name).run P w = .ok (f, v) w
  xf : ∀ f x, T.xf f = some x → ∀ args v ι (args' : Array Value) w, x args = some v → VRL ι args args'.toList → ∃ v', (callFunc f args').run P w = .ok (.value v') w ∧ VR ι v v'
  orc : ∀ f o, T.orc f = some o → OrcOk P T.ng f o

section
variable {P : Program} {B : List Frame} {T : Tab} {ih : Go} {ι : Ren} {h : Tr Blk} {c r W : Nat} {w : World} {out : Out} {cs : List AF} {K : V → M}

theorem CallR.of_run {s s' : Sem Next} (e : s.run P w = s'.run P w) (g : CallR P B ih s' ι h c W w out cs K) : CallR P B ih s ι h c W w out cs K := by
  rcases g with ⟨v, v', ι', h', c', r', W', w', g1, g2, g3, g4⟩ | ⟨f2, frE, r', g1, g2, n, g3, g4⟩
  · refine .inl ⟨v, v', ι', h', c', r', W', w', g1, g2, g3, ?_⟩
    rcases g4 with ⟨n, a, b⟩ | ⟨f, args, a, b⟩
    · exact .inl ⟨n, e.trans a, b⟩
    · exact .inr ⟨f, args, e.trans a, b⟩
  · exact .inr ⟨f2, frE, r', g1, g2, n, e.trans g3, g4⟩

theorem lay_args {args : List V} {args' : Array Value} (ha : VRL ι args args'.toList) (m : Nat) : TmR ι (Tr.lay args 0 .l) (args' ++ Array.replicate m undef) := by
  intro t v hv
  rw [Tr.get_lay] at hv
  split at hv
  · rename_i hlt
    rw [Nat.sub_zero] at hv
    obtain ⟨v', h1, h2⟩ := ha.get t v hv
    rw [Array.getElem?_toList] at h1
    have hsz : t < args'.size := by
      rcases Nat.lt_or_ge t args'.size with h | h
      · exact h
      · rw [Array.getElem?_eq_none h] at h1; cases h1
    rw [Array.getD_eq_getD_getElem?, Array.getElem?_append_left hsz, h1]
    exact h2
  · rw [Tr.get_l] at hv; cases hv

theorem callFunc_go {f : Nat} {args' : Array Value} {fn : Func} {code : Code} (e1 : P.funcs[f]? = some fn) (e2 : fn.body = some code) (e3 : (fn.name == "runtime.NumGoroutine") = false) :
    (callFunc f args').run P w = .ok (.enter f args') w := by
  have e3' : ¬ fn.name = "runtime.NumGoroutine" := by simpa using e3
  simp [callFunc, e1, e2, e3']

theorem enter_ok (O : Ok P T) {f : Nat} {args : List V} {args' : Array Value} (hr : run (enter T ih f args cs K) h c r W = some out) (S : Sim ι h w) (G : Glob T.ng ι) (F : Fresh ι h c out) (ha : VRL ι args args'.toList) :
    CallR P B ih (callFunc f args') ι h c W w out cs K := by
  unfold enter at hr
  split at hr
  · rename_i o ho
    exact .inl (O.orc f o ho B K args args' ι h c r W w out hr S G F ha)
  · split at hr
    · rename_i x hx
      split at hr
      · rename_i v hv
        obtain ⟨v', a, b⟩ := O.xf f x hx args v ι args' w hv ha
        exact .inl ⟨v, v', ι, h, c, r, W, w, hr, b, Way.refl S, .inl ⟨_, a, .inl rfl⟩⟩
      · simp [run_fail] at hr
    · split at hr
      · rename_i fi hfi
        obtain ⟨hle, hr1⟩ := run_bif hr
        rw [ble_iff, decide_eq_true_eq] at hle
        obtain ⟨fn, e1, e2, e3, e4, e5, e6⟩ := O.fn f fi hfi
        have hlen := ha.length
        refine .inr ⟨_, Frame.enter P f args' .normal, r, hr1, ?_, _, callFunc_go e1 e2 e5, .inl ⟨f, args', rfl, rfl⟩⟩
        refine ⟨rfl, rfl, rfl, rfl, ?_, ?_, ?_, trivial⟩
        · simp only [Frame.enter, e1, Option.map_some, Option.getD_some, Array.size_append, Array.size_replicate, e3]
          simp at hlen
          omega
        · exact lay_args ha _
        · simp only [Frame.enter, e1, Option.bind_some, e2, Option.getD_some, TdR]
          exact ⟨⟨trivial, e6⟩, trivial⟩
      · simp [run_fail] at hr

theorem zipSet_ok {nt : Nat} {K : Tr V → M} : ∀ (ps : List Nat) (vs : List V) (vs' : List Value) (tm : Tr V) (tmps : Array Value), run (zipSet nt K ps vs tm) h c r W = some out → TmR ι tm tmps → tmps.size = nt → VRL ι vs vs' →
    ∃ tm2, run (K tm2) h c r W = some out ∧ TmR ι tm2 ((ps.zip vs').foldl (fun tmps (t, a) => tmps.setIfInBounds t a) tmps) ∧ ((ps.zip vs').foldl (fun tmps (t, a) => tmps.setIfInBounds t a) tmps).size = nt
  | [], vs, vs', tm, tmps, hr, ht, hn, hv => ⟨tm, hr, by simpa using ht, by simpa using hn⟩
  | p :: ps, [], vs', tm, tmps, hr, ht, hn, hv => by
    have : run .fail h c r W = some out := hr
    simp [run_fail] at this
  | p :: ps, v :: vs, [], tm, tmps, hr, ht, hn, hv => by simp [VRL] at hv
  | p :: ps, v :: vs, v' :: vs', tm, tmps, hr, ht, hn, hv => by
    have hr' : run (bif Nat.blt p nt then zipSet nt K ps vs (tm.set v p) else .fail) h c r W = some out := hr
    obtain ⟨hlt, hr1⟩ := run_bif hr'
    rw [nblt_iff, decide_eq_true_eq] at hlt
    simp only [VRL] at hv
    simp only [List.zip_cons_cons, List.foldl_cons]
    refine zipSet_ok ps vs vs' (tm.set v p) (tmps.setIfInBounds p v') hr1 (fun t u hu => ?_) (by simp [hn]) hv.2
    rw [Tr.get_set] at hu
    by_cases e : t = p
    · rw [if_pos e] at hu; cases hu; subst e
      simpa [Array.getD_eq_getD_getElem?, Array.getElem?_setIfInBounds, hn, hlt] using hv.1
    · rw [if_neg e] at hu
      simpa [Array.getD_eq_getD_getElem?, Array.getElem?_setIfInBounds, Ne.symm e] using ht t u hu

theorem run_getLoop {b : Nat} {o : Loop} (e : w.heap[b]? = some (.loop o)) : (Instr.getLoop b).run P w = .ok o w := by
  simp only [Instr.getLoop, getObj, Sem.run_bind, Sem.run, e, Result.andThen_ok, Sem.run_pure]

/-- A method of a value of an interface type. -/
theorem invoke_ok (O : Ok P T) {t name f : _} {x : V} {x' : Value} {rest : List V} {rest' : Array Value} (hm : T.mt t name = some f) (hr : run (enter T ih f (x :: rest) cs K) h c r W = some out) (S : Sim ι h w) (G : Glob T.ng ι)
    (F : Fresh ι h c out) (hx : VR ι x x') (hrest : VRL ι rest rest'.toList) : CallR P B ih (callMethod (.iface t x') name rest') ι h c W w out cs K := by
  have ha : VRL ι (x :: rest) (#[x'] ++ rest').toList := by simp only [Array.toList_append, List.cons_append, List.nil_append, VRL]; exact ⟨hx, hrest⟩
  refine CallR.of_run ?_ (enter_ok O hr S G F ha)
  simp only [callMethod, Sem.run_bind, run_program, Result.andThen_ok, O.mt t name f hm]

theorem callV_ok (O : Ok P T) {g : V} {g' : Value} {args : List V} {args' : Array Value} (hr : run (callV T ih g args cs K) h c r W = some out) (S : Sim ι h w) (G : Glob T.ng ι) (F : Fresh ι h c out) (hg : VR ι g g') (ha : VRL ι args args'.toList) :
    CallR P B ih (do let d ← Deferred.ofValue g' args'; invoke d.target d.args) ι h c W w out cs K := by
  unfold callV at hr
  split at hr
  · rename_i f first cap
    simp only [VR] at hg
    obtain ⟨fn', a', c', rfl, hf, h1, h2⟩ := hg
    simp only [FnR] at hf
    subst hf
    have hall : VRL ι (first ++ args ++ cap) (a' ++ args' ++ c').toList := by
      simp only [Array.toList_append]; exact (h1.append ha).append h2
    refine CallR.of_run ?_ (enter_ok O hr S G F hall)
    simp only [Deferred.ofValue, Sem.run_bind, Sem.run_pure, Result.andThen_ok, invoke]
  · rename_i l first cap
    simp only [VR] at hg
    obtain ⟨fn', a', c', rfl, hf, h1, h2⟩ := hg
    simp only [FnR] at hf
    obtain ⟨L, hL, rfl⟩ := hf
    obtain ⟨q, hq, hr1⟩ := run_rd_some hr
    split at hr1
    · rename_i st pend fn nt tm ps a b d
      obtain ⟨hlen, hr2⟩ := run_bif hr1
      rw [nbeq_iff, decide_eq_true_eq] at hlen
      obtain ⟨hB, _⟩ := S.at hq hL
      obtain ⟨⟨o1, o2, o3⟩, tmps, D, e1, e2, e3, e4⟩ := hB
      have hall : VRL ι (first ++ args) (a' ++ args').toList := by simp only [Array.toList_append]; exact h1.append ha
      obtain ⟨tm2, g1, g2, g3⟩ := zipSet_ok ps (first ++ args) (a' ++ args').toList tm tmps hr2 e4 e3 hall
      have hsz : (a' ++ args').size = ps.toArray.size := by
        have := hall.length
        rw [hlen] at this
        simp at this ⊢
        omega
      refine .inr ⟨_, Frame.round L.blk fn ((ps.zip (a' ++ args').toList).foldl (fun tmps (t, a) => tmps.setIfInBounds t a) tmps) a b .normal, _, g1, ?_, .round L.blk fn ((ps.zip (a' ++ args').toList).foldl (fun tmps (t, a) => tmps.setIfInBounds t a) tmps) a b, ?_, .inr ⟨_, _, _, _, _, rfl, rfl⟩⟩
      · exact ⟨rfl, rfl, rfl, ⟨L, hL, rfl⟩, g3, g2, by simp only [Frame.round, TdR]; exact ⟨⟨trivial, o1⟩, ⟨trivial, o2⟩, trivial⟩, trivial⟩
      · simp only [Deferred.ofValue, Sem.run_bind, Sem.run_pure, Result.andThen_ok, invoke, Instr.yield, run_getLoop e1]
        rw [if_neg (by simpa using hsz)]
        simp only [Sem.run_pure]
        congr 2
        rw [← Array.foldl_toList, Array.toList_zip]
    · simp [run_fail] at hr1
  · rename_i name first cap
    simp only [VR] at hg
    obtain ⟨fn', a', c', rfl, hf, h1, h2⟩ := hg
    simp only [FnR] at hf
    subst hf
    have hall : VRL ι (first ++ args) (a' ++ args').toList := by simp only [Array.toList_append]; exact h1.append ha
    split at hr
    · rename_i t x rest hfa
      split at hr
      · rename_i f hm
        rw [hfa] at hall
        generalize hA : a' ++ args' = A at hall
        have : ∃ y ys, A.toList = y :: ys := by
          cases hl : A.toList with
          | nil => rw [hl] at hall; simp [VRL] at hall
          | cons y ys => exact ⟨y, ys, rfl⟩
        obtain ⟨y, ys, hl⟩ := this
        rw [hl] at hall
        simp only [VRL] at hall
        obtain ⟨hy, hys⟩ := hall
        simp only [VR] at hy
        obtain ⟨x', rfl, hx'⟩ := hy
        refine CallR.of_run ?_ (invoke_ok (rest' := ys.toArray) O hm hr S G F hx' (by simpa using hys))
        have hA' : A = ⟨.iface t x' :: ys⟩ := by rw [← hl]
        simp only [Deferred.ofValue, Sem.run_bind, Sem.run_pure, Result.andThen_ok, invoke, hA]
        rw [hA']
        have e0 : (⟨Value.iface t x' :: ys⟩ : Array Value)[0]? = some (.iface t x') := rfl
        have e1 : (⟨Value.iface t x' :: ys⟩ : Array Value).extract 1 (⟨Value.iface t x' :: ys⟩ : Array Value).size = ys.toArray := by
          apply Array.ext'
          simp [Array.toList_extract, List.extract]
        simp only [e0, e1]
      · simp [run_fail] at hr
    · simp [run_fail] at hr
  · simp [run_fail] at hr

theorem callC_ok (O : Ok P T) {ρ : Operand → V} {ρ' : Operand → Value} (hρ : ∀ o, VR ι (ρ o) (ρ' o)) {cl : Call} {ty : TypeId} (hr : run (callC T ih ρ cl cs K) h c r W = some out) (S : Sim ι h w) (G : Glob T.ng ι) (F : Fresh ι h c out) :
    CallR P B ih (do let d ← resolve ρ' cl ty; invoke d.target d.args) ι h c W w out cs K := by
  obtain ⟨callee, args, ts⟩ := cl
  cases callee with
  | value g =>
    refine CallR.of_run ?_ (callV_ok O hr S G F (hρ g) (VRL.mapA hρ args))
    simp only [resolve]
  | invoke g name =>
    simp only [callC] at hr
    split at hr
    · rename_i t x hgx
      split at hr
      · rename_i f hm
        have hg := hρ g
        rw [hgx] at hg
        simp only [VR] at hg
        obtain ⟨x', e, hx'⟩ := hg
        refine CallR.of_run ?_ (invoke_ok O hm hr S G F hx' (VRL.mapA hρ args))
        have e0 : (#[Value.iface t x'] ++ args.map ρ')[0]? = some (.iface t x') := by rw [Array.getElem?_append_left (by simp)]; rfl
        have e1 : (#[Value.iface t x'] ++ args.map ρ').extract 1 (#[Value.iface t x'] ++ args.map ρ').size = args.map ρ' := by
          apply Array.ext'
          simp [Array.toList_extract, List.extract]
          exact List.take_of_length_le (by simp)
        simp only [resolve, Sem.run_bind, Sem.run_pure, Result.andThen_ok, invoke, e, e0, e1]
      · simp [run_fail] at hr
    · simp [run_fail] at hr
  | builtin b =>
    obtain ⟨n, v, v', ι', h', c', r', W', w', g1, g2, g3, g4, g5⟩ := aBuiltin_ok (P := P) (ty := ty) (cs := args.map fun | .const _ => true | _ => false) O.ty S F (VRL.mapA hρ args) hr
    refine .inl ⟨v, v', ι', h', c', r', W', w', g1, g4, g5, .inl ⟨n, ?_, g3⟩⟩
    simp only [resolve, Sem.run_bind, Sem.run_pure, Result.andThen_ok, invoke]
    exact g2

theorem want_ok {ops : Array Oper} {tm : Tr V} {tmps : Array Value} {o : Oper} {b : Bool} (hw : want ops.toList tm o = some b) (ht : TmR ι tm tmps) : Region.wanted o (yielded ops tmps) = b := by
  unfold want at hw
  unfold Region.wanted
  split at hw
  · rename_i hg; rw [hg]; cases hw; rfl
  · rename_i j x hg
    rw [hg]
    split at hw
    · cases hw
    · rename_i g hj
      rw [Array.getElem?_toList] at hj
      split at hw
      · cases hw
      · rename_i d hd
        have hy : yielded ops tmps j = (match tmps[d]? with | some (.bool b) => some b | _ => none) := by
          unfold yielded
          rw [hj]
          simp only [Option.bind_some, hd]
          rfl
        simp only [hy]
        split at hw
        · rename_i y hv
          have := ht d _ hv
          simp only [VR] at this
          have he : tmps[d]? = some (.bool y) := by
            rw [Array.getD_eq_getD_getElem?] at this
            cases hh : tmps[d]? with
            | none => rw [hh] at this; simp [undef] at this
            | some z => rw [hh] at this; simp at this; rw [this]
          rw [he]
          cases hw
          cases x <;> cases y <;> rfl
        · rename_i l hv
          have := ht d _ hv
          simp only [VR] at this
          obtain ⟨q, e, _⟩ := this
          cases hw
          rw [Array.getD_eq_getD_getElem?] at e
          cases hh : tmps[d]? with
          | none => rfl
          | some z => rw [hh] at e; simp at e; rw [e]; rfl
        · cases hw
end
end Go.Ev
