/- THE ABSTRACT MACHINE AND THE MODEL: frames, and the model's steps. Own work. -/
import Derived.Test.YtlainoonnnimiaaGreatDoorEvR3
set_option linter.all false
set_option linter.unusedVariables false
set_option linter.constructorNameAsVariable false
set_option linter.unnecessarySimpa false
set_option linter.unusedSimpArgs false
set_option linter.unusedSimpArgs false
set_option linter.unusedVariables false
namespace Go.Ev

def TdR (ι : Ren) : List It → List Item → Prop
  | [], [] => True
  | .code c :: k, .code c' :: k' => (c' = c ∧ codeOk c = true) ∧ TdR ι k k'
  | .inBlock i :: k, .inBlock i' :: k' => i' = i ∧ TdR ι k k'
  | .inLoop c :: k, .inLoop c' :: k' => (c' = c ∧ codeOk c = true) ∧ TdR ι k k'
  | .inScope _ :: k, .inScope _ :: k' => TdR ι k k'
  | .reg ops rest :: k, .inRegion ops' is :: k' => (ops = ops'.toList ∧ is.map (fun i => ops'[i]?) = rest.map some) ∧ TdR ι k k'
  | .inRF l :: k, .inRangeFunc l' :: k' => (∃ L, ι l = some L ∧ l' = L.blk) ∧ TdR ι k k'
  | .endRF l :: k, .endRangeFunc l' :: k' => (∃ L, ι l = some L ∧ l' = L.blk) ∧ TdR ι k k'
  | .begR :: k, .beginRound :: k' => TdR ι k k'
  | _, _ => False

section
variable {ι κ : Ren} {k : List It} {todo : List Item}

theorem TdR.le (h : ι.le κ) : ∀ (k : List It) (k' : List Item), TdR ι k k' → TdR κ k k' := by
  intro k
  induction k with
  | nil => intro k' h'; cases k' with
    | nil => trivial
    | cons i k' => simp [TdR] at h'
  | cons i k ih =>
    intro k' h'
    cases k' with
    | nil => cases i <;> simp [TdR] at h'
    | cons i' k' =>
      cases i <;> cases i' <;> simp only [TdR] at h' ⊢
      · exact ⟨h'.1, ih _ h'.2⟩
      · exact ⟨h'.1, ih _ h'.2⟩
      · exact ⟨h'.1, ih _ h'.2⟩
      · exact ih _ h'
      · exact ⟨h'.1, ih _ h'.2⟩
      · obtain ⟨⟨L, a, b⟩, c⟩ := h'; exact ⟨⟨L, h _ _ a, b⟩, ih _ c⟩
      · obtain ⟨⟨L, a, b⟩, c⟩ := h'; exact ⟨⟨L, h _ _ a, b⟩, ih _ c⟩
      · exact ih _ h'

theorem TdR.nil_inv (h : TdR ι [] todo) : todo = [] := by cases todo with | nil => rfl | cons _ _ => simp [TdR] at h
theorem TdR.code_inv {c : Code} (h : TdR ι (.code c :: k) todo) : ∃ k', todo = .code c :: k' ∧ codeOk c = true ∧ TdR ι k k' := by
  cases todo with
  | nil => simp [TdR] at h
  | cons i k' => cases i <;> simp only [TdR] at h; obtain ⟨⟨rfl, a⟩, b⟩ := h; exact ⟨k', rfl, a, b⟩
theorem TdR.block_inv {c : Nat} (h : TdR ι (.inBlock c :: k) todo) : ∃ k', todo = .inBlock c :: k' ∧ TdR ι k k' := by
  cases todo with
  | nil => simp [TdR] at h
  | cons i k' => cases i <;> simp only [TdR] at h; obtain ⟨rfl, b⟩ := h; exact ⟨k', rfl, b⟩
theorem TdR.loop_inv {c : Code} (h : TdR ι (.inLoop c :: k) todo) : ∃ k', todo = .inLoop c :: k' ∧ codeOk c = true ∧ TdR ι k k' := by
  cases todo with
  | nil => simp [TdR] at h
  | cons i k' => cases i <;> simp only [TdR] at h; obtain ⟨⟨rfl, a⟩, b⟩ := h; exact ⟨k', rfl, a, b⟩
theorem TdR.scope_inv {c : Code} (h : TdR ι (.inScope c :: k) todo) : ∃ c' k', todo = .inScope c' :: k' ∧ TdR ι k k' := by
  cases todo with
  | nil => simp [TdR] at h
  | cons i k' => cases i <;> simp only [TdR] at h; exact ⟨_, k', rfl, h⟩
theorem TdR.reg_inv {ops rest : List Oper} (h : TdR ι (.reg ops rest :: k) todo) : ∃ ops' is k', todo = .inRegion ops' is :: k' ∧ ops = ops'.toList ∧ is.map (fun i => ops'[i]?) = rest.map some ∧ TdR ι k k' := by
  cases todo with
  | nil => simp [TdR] at h
  | cons i k' => cases i <;> simp only [TdR] at h; exact ⟨_, _, k', rfl, h.1.1, h.1.2, h.2⟩
theorem TdR.inRF_inv {l : Nat} (h : TdR ι (.inRF l :: k) todo) : ∃ L k', todo = .inRangeFunc L.blk :: k' ∧ ι l = some L ∧ TdR ι k k' := by
  cases todo with
  | nil => simp [TdR] at h
  | cons i k' => cases i <;> simp only [TdR] at h; obtain ⟨⟨L, a, rfl⟩, b⟩ := h; exact ⟨L, k', rfl, a, b⟩
theorem TdR.endRF_inv {l : Nat} (h : TdR ι (.endRF l :: k) todo) : ∃ L k', todo = .endRangeFunc L.blk :: k' ∧ ι l = some L ∧ TdR ι k k' := by
  cases todo with
  | nil => simp [TdR] at h
  | cons i k' => cases i <;> simp only [TdR] at h; obtain ⟨⟨L, a, rfl⟩, b⟩ := h; exact ⟨L, k', rfl, a, b⟩
theorem TdR.begR_inv (h : TdR ι (.begR :: k) todo) : ∃ k', todo = .beginRound :: k' ∧ TdR ι k k' := by
  cases todo with
  | nil => simp [TdR] at h
  | cons i k' => cases i <;> simp only [TdR] at h; exact ⟨k', rfl, h⟩

theorem exitTo_cons (id : Nat) (i : It) (k : List It) : Ev.exitTo id (i :: k) = (match i with | .inBlock id' => bif Nat.beq id' id then some k else Ev.exitTo id k | _ => Ev.exitTo id k) := rfl

theorem exitTo_ok (id : Nat) : ∀ (k : List It) (k' : List Item), TdR ι k k' →
    (match Ev.exitTo id k with | some k2 => ∃ k2', Go.exitTo id k' = some k2' ∧ TdR ι k2 k2' | none => Go.exitTo id k' = none) := by
  intro k
  induction k with
  | nil => intro k' h; rw [h.nil_inv]; rfl
  | cons i k ih =>
    intro k' h
    rw [exitTo_cons]
    cases i with
    | inBlock id' =>
      obtain ⟨k2, rfl, h2⟩ := h.block_inv
      simp only [Go.exitTo]
      cases hb : Nat.beq id' id with
      | true =>
        have : (id' == id) = true := by rw [nbeq_iff, decide_eq_true_eq] at hb; simp [hb]
        simp only [cond_true, this, if_true]
        exact ⟨k2, rfl, h2⟩
      | false =>
        have : (id' == id) = false := by rw [nbeq_iff, decide_eq_false_iff_not] at hb; simp [hb]
        simp only [cond_false, this, Bool.false_eq_true, if_false]
        exact ih _ h2
    | code c => obtain ⟨k2, rfl, _, h2⟩ := h.code_inv; exact ih k2 h2
    | inLoop c => obtain ⟨k2, rfl, _, h2⟩ := h.loop_inv; exact ih k2 h2
    | inScope c => obtain ⟨c', k2, rfl, h2⟩ := h.scope_inv; exact ih k2 h2
    | reg a b => obtain ⟨o, is, k2, rfl, _, _, h2⟩ := h.reg_inv; exact ih k2 h2
    | inRF l => obtain ⟨L, k2, rfl, _, h2⟩ := h.inRF_inv; exact ih k2 h2
    | endRF l => obtain ⟨L, k2, rfl, _, h2⟩ := h.endRF_inv; exact ih k2 h2
    | begR => obtain ⟨k2, rfl, h2⟩ := h.begR_inv; exact ih k2 h2
end

/-- The marks of loops over functions, among a frame's deferred calls. -/
def DfR (ι : Ren) : List Nat → List Deferred → Prop
  | [], [] => True
  | d :: l, x :: l' => (∃ L, ι d = some L ∧ x = { target := .collected L.blk, args := #[] }) ∧ DfR ι l l'
  | _, _ => False

theorem DfR.le {ι κ : Ren} (h : ι.le κ) : ∀ (k : List Nat) (k' : List Deferred), DfR ι k k' → DfR κ k k'
  | [], [], _ => trivial
  | [], _ :: _, h' => by simp [DfR] at h'
  | _ :: _, [], h' => by simp [DfR] at h'
  | d :: l, x :: l', h' => by
    simp only [DfR] at h' ⊢
    obtain ⟨⟨L, a, b⟩, c⟩ := h'
    exact ⟨⟨L, h _ _ a, b⟩, DfR.le h l l' c⟩

structure FR (ι : Ren) (f : AF) (fr : Frame) : Prop where
  fn : fr.fn = f.fn
  mode : fr.mode = .run
  kind : fr.kind = .normal
  rd : match f.rd with | none => fr.roundOf = none | some l => ∃ L, ι l = some L ∧ fr.roundOf = some L.blk
  nt : fr.tmps.size = f.nt
  tm : TmR ι f.tm fr.tmps
  td : TdR ι f.td fr.todo
  df : DfR ι f.df fr.defers

theorem FR.le {ι κ : Ren} {f : AF} {fr : Frame} (h : FR ι f fr) (k : ι.le κ) : FR κ f fr where
  fn := h.fn
  mode := h.mode
  kind := h.kind
  rd := by
    have := h.rd
    cases hr : f.rd with
    | none => rw [hr] at this; exact this
    | some l => rw [hr] at this; obtain ⟨L, a, b⟩ := this; exact ⟨L, k _ _ a, b⟩
  nt := h.nt
  tm := h.tm.le k
  td := TdR.le k _ _ h.td
  df := DfR.le k _ _ h.df

theorem FR.at {ι : Ren} {f : AF} {fr : Frame} (h : FR ι f fr) {td : List It} {todo : List Item} (ht : TdR ι td todo) : FR ι (f.at_ td) { fr with todo := todo } :=
  ⟨h.fn, h.mode, h.kind, h.rd, h.nt, h.tm, ht, h.df⟩

def CsR (ι : Ren) : List AF → List Frame → Prop
  | [], [] => True
  | f :: l, x :: l' => FR ι f x ∧ CsR ι l l'
  | _, _ => False

theorem CsR.le {ι κ : Ren} (h : ι.le κ) : ∀ (k : List AF) (k' : List Frame), CsR ι k k' → CsR κ k k'
  | [], [], _ => trivial
  | [], _ :: _, h' => by simp [CsR] at h'
  | _ :: _, [], h' => by simp [CsR] at h'
  | d :: l, x :: l', h' => by
    simp only [CsR] at h' ⊢
    exact ⟨h'.1.le h, CsR.le h l l' h'.2⟩

theorem eval_ok {ι : Ren} {ng : Nat} {tm : Tr V} {fr : Frame} (G : Glob ng ι) (h : TmR ι tm fr.tmps) (x : Operand) : VR ι (ev ng tm x) (fr.eval x) := by
  cases x with
  | tmp t =>
    simp only [ev, Frame.eval]
    cases ht : tm.get t with
    | none => exact VR.u_of
    | some v => exact h t v ht
  | const v => exact ofValue_ok ι v
  | global g =>
    simp only [ev, Frame.eval]
    cases hb : Nat.blt g ng with
    | false => exact VR.u_of
    | true =>
      rw [nblt_iff, decide_eq_true_eq] at hb
      obtain ⟨L, a, b, d⟩ := G g hb
      simp only [cond_true, VR]
      exact ⟨L, a, by rw [b, d]⟩
  | func f =>
    simp only [ev, Frame.eval, VR]
    exact ⟨_, _, _, rfl, rfl, by simp [VRL], by simp [VRL]⟩

section steps
variable {P : Program} {fr : Frame} {cs : List Frame} {w : World} {k : List Item}

theorem st_skip (hm : fr.mode = .run) (ht : fr.todo = .code .skip :: k) : step P (lone fr cs w) = .next (lone { fr with todo := k } cs w) := step_lone_go (by simp [stepG, stepG.exec, hm, ht])
theorem st_label {l : Nat} (hm : fr.mode = .run) (ht : fr.todo = .code (.label l) :: k) : step P (lone fr cs w) = .next (lone { fr with todo := k } cs w) := step_lone_go (by simp [stepG, stepG.exec, hm, ht])
theorem st_inBlock {l : Nat} (hm : fr.mode = .run) (ht : fr.todo = .inBlock l :: k) : step P (lone fr cs w) = .next (lone { fr with todo := k } cs w) := step_lone_go (by simp [stepG, stepG.exec, hm, ht])
theorem st_inScope {c : Code} (hm : fr.mode = .run) (ht : fr.todo = .inScope c :: k) : step P (lone fr cs w) = .next (lone { fr with todo := k } cs w) := step_lone_go (by simp [stepG, stepG.exec, hm, ht])
theorem st_seq {a b : Code} (hm : fr.mode = .run) (ht : fr.todo = .code (.seq a b) :: k) : step P (lone fr cs w) = .next (lone { fr with todo := .code a :: .code b :: k } cs w) := step_lone_go (by simp [stepG, stepG.exec, hm, ht])
theorem st_cond {x : Operand} {a b : Code} {t : Bool} (hm : fr.mode = .run) (ht : fr.todo = .code (.cond x a b) :: k) (hx : fr.eval x = .bool t) :
    step P (lone fr cs w) = .next (lone { fr with todo := .code (if t then a else b) :: k } cs w) := step_lone_go (by simp [stepG, stepG.exec, hm, ht, hx])
theorem st_block {l : Nat} {c : Code} (hm : fr.mode = .run) (ht : fr.todo = .code (.block l c) :: k) : step P (lone fr cs w) = .next (lone { fr with todo := .code c :: .inBlock l :: k } cs w) := step_lone_go (by simp [stepG, stepG.exec, hm, ht])
theorem st_loop {c : Code} (hm : fr.mode = .run) (ht : fr.todo = .code (.loop c) :: k) : step P (lone fr cs w) = .next (lone { fr with todo := .code c :: .inLoop c :: k } cs w) := step_lone_go (by simp [stepG, stepG.exec, hm, ht])
theorem st_inLoop {c : Code} (hm : fr.mode = .run) (ht : fr.todo = .inLoop c :: k) : step P (lone fr cs w) = .next (lone { fr with todo := .code c :: .inLoop c :: k } cs w) := step_lone_go (by simp [stepG, stepG.exec, hm, ht])
theorem st_scope {c : Code} (hm : fr.mode = .run) (ht : fr.todo = .code (.scope c) :: k) : step P (lone fr cs w) = .next (lone { fr with todo := .code c :: .inScope c :: k } cs w) := step_lone_go (by simp [stepG, stepG.exec, hm, ht])
theorem st_exit {l : Nat} {k2 : List Item} (hm : fr.mode = .run) (ht : fr.todo = .code (.exit l) :: k) (he : Go.exitTo l k = some k2) : step P (lone fr cs w) = .next (lone { fr with todo := k2 } cs w) :=
  step_lone_go (by simp [stepG, stepG.exec, hm, ht, he])
theorem st_region {id : Nat} {ops : Array Oper} (hm : fr.mode = .run) (ht : fr.todo = .code (.region id ops false) :: k) :
    step P (lone fr cs w) = .next (lone { fr with todo := .inRegion ops (List.range ops.size) :: k } cs w) := step_lone_go (by simp [stepG, stepG.exec, hm, ht])
theorem st_draw {id : Nat} {ops : Array Oper} (hm : fr.mode = .run) (ht : fr.todo = .code (.region id ops true) :: k) :
    step P (lone fr cs w) = .next (lone { fr with todo := .inRegion ops (Region.schedule (P.follows .mixedOrders) ops (w.tape w.drawn (.order fr.fn id))) :: k } cs w.drew) :=
  step_lone_go (by simp [stepG, stepG.exec, hm, ht, choose, Sem.run, Question.forced, Question.cut])
theorem st_regEnd {ops : Array Oper} (hm : fr.mode = .run) (ht : fr.todo = .inRegion ops [] :: k) : step P (lone fr cs w) = .next (lone { fr with todo := k } cs w) := step_lone_go (by simp [stepG, stepG.exec, hm, ht])

theorem st_unwanted {ops : Array Oper} {i : Nat} {is : List Nat} {o : Oper} (hm : fr.mode = .run) (ht : fr.todo = .inRegion ops (i :: is) :: k) (ho : ops[i]? = some o) (hw : Region.wanted o (yielded ops fr.tmps) = false) :
    step P (lone fr cs w) = .next (lone (fr.finish undef) cs w) := step_lone_go (by simp [stepG, stepG.exec, hm, ht, ho, hw])

/-- What an applied computation makes of a frame. -/
inductive Applied (P : Program) (fr : Frame) (cs : List Frame) : Next → World → Machine → Prop where
  | value (v : Value) (w : World) : Applied P fr cs (.value v) w (lone (fr.finish v) cs w)
  | skip (w : World) : Applied P fr cs .skip w (lone (fr.finish undef) cs w)
  | enter (f : FuncId) (args : Array Value) (w : World) : Applied P fr cs (.enter f args) w (lone (Frame.enter P f args .normal) (fr :: cs) w)
  | round (l : Nat) (f : FuncId) (tmps : Array Value) (a b : Code) (w : World) : Applied P fr cs (.round l f tmps a b) w (lone (Frame.round l f tmps a b .normal) (fr :: cs) w)

theorem st_apply {fr₂ : Frame} {s : Sem Next} {n : Next} {w₁ w' : World} {m : Machine} (hk : ∀ a b c k, fr₂.todo ≠ .call a true b c :: k)
    (hst : (stepG P true { frame := fr, callers := cs, status := .running, dying := none } w).bare = (stepG.apply P true fr₂ cs none s w₁).bare) (hs : s.run P w₁ = .ok n w') (ha : Applied P fr₂ cs n w' m) :
    step P (lone fr cs w) = .next m := by
  cases ha with
  | value v => exact step_lone_go (by rw [hst]; simp [stepG.apply, hs])
  | skip => exact step_lone_go (by rw [hst]; simp [stepG.apply, hs])
  | enter f args =>
    refine step_lone_go ?_
    rw [hst]
    simp only [stepG.apply, Sem.runT_eq, hs, GStep.bare_after, if_true]
    rfl
  | round l f tmps a b => exact step_lone_go (by rw [hst]; simp [stepG.apply, hs])

theorem stG_op {ops : Array Oper} {i : Nat} {is : List Nat} {o : Oper} (hm : fr.mode = .run) (ht : fr.todo = .inRegion ops (i :: is) :: k) (ho : ops[i]? = some o) (hw : Region.wanted o (yielded ops fr.tmps) = true)
    (hd : ∀ c, o.op ≠ .defer c) : stepG P true { frame := fr, callers := cs, status := .running, dying := none } w = stepG.apply P true fr cs none (execOp fr.eval o) w := by
  have : stepG P true { frame := fr, callers := cs, status := .running, dying := none } w = stepG.oper P true fr cs none w := by
    simp [stepG, stepG.exec, hm, ht, ho, hw]
  rw [this]
  simp only [stepG.oper, Frame.oper?, ht, ho]
  split
  · rename_i h; exact absurd h (hd _)
  · rfl
end steps
end Go.Ev
