/- THE ABSTRACT MACHINE, made light for the kernel: the same machine, with its choices closed. Own work. -/
import Derived.Test.YtlainoonnnimiaaGreatDoorEvV
set_option linter.all false
set_option linter.unusedVariables false
set_option linter.constructorNameAsVariable false
set_option linter.unnecessarySimpa false
set_option linter.unusedSimpArgs false
set_option linter.unusedSimpArgs false
set_option linter.unusedVariables false
set_option linter.constructorNameAsVariable false
namespace Go.Ev

noncomputable def V.caseI {α : Type} (v : V) (on : IntKind → Int → α) (other : V → α) : α :=
  V.casesOn (motive_1 := fun _ => α) v (other .u) (fun x => other (.b x)) on (fun l => other (.s l)) (other .p0) (fun b o => other (.p b o)) (other .sl0) (fun b o n c => other (.sl b o n c)) (other .m0) (fun b => other (.m b))
    (fun f a c => other (.f f a c)) (other .nf) (other .ni) (fun t x => other (.if_ t x)) (fun l => other (.ag l)) (fun l => other (.tu l)) (fun k a b m r => other (.q k a b m r)) (fun b o x y => other (.slq b o x y))

noncomputable def intF (op : BinOp) : IntKind → Int → Int → (V → M) → M :=
  match op with
  | .add => fun k x y K => K (.i k (wrap k (Int.add x y)))
  | .sub => fun k x y K => K (.i k (wrap k (Int.sub x y)))
  | .mul => fun k x y K => K (.i k (wrap k (Int.mul x y)))
  | .eql => fun _ x y K => K (.b (ieq x y))
  | .neq => fun _ x y K => K (.b (!ieq x y))
  | .lss => fun _ x y K => K (.b (!ile y x))
  | .leq => fun _ x y K => K (.b (ile x y))
  | .gtr => fun _ x y K => K (.b (!ile x y))
  | .geq => fun _ x y K => K (.b (ile y x))
  | .shl => fun k x y K => shiftOp .shl k x y K
  | .shr => fun k x y K => shiftOp .shr k x y K
  | .quo => fun k x y K => intOp .quo k x y K
  | .rem => fun k x y K => intOp .rem k x y K
  | .and => fun k x y K => intOp .and k x y K
  | .or => fun k x y K => intOp .or k x y K
  | .xor => fun k x y K => intOp .xor k x y K
  | .andNot => fun _ _ _ _ => .fail

def isShift (op : BinOp) : Bool := match op with | .shl => true | .shr => true | _ => false

noncomputable def aBinF (T : Tr TI) (cst : Bool) (op : BinOp) (t : Nat) (x y : V) (K : V → M) : M :=
  x.caseI (fun k a => y.caseI (fun k' b => bif isShift op || ikEq k k' then intF op k a b K else .fail) (fun y => aBin T cst op t (.i k a) y K)) (fun x => aBin T cst op t x y K)

theorem aBinF_eq (T : Tr TI) (cst : Bool) (op : BinOp) (t : Nat) (x y : V) (K : V → M) : aBinF T cst op t x y K = aBin T cst op t x y K := by
  cases x <;> try rfl
  cases y <;> try rfl
  rename_i k a k' b
  cases op <;> first
    | rfl
    | (show (bif (false || ikEq k k') then _ else M.fail) = (bif ikEq k k' then _ else M.fail); rw [Bool.false_or]; cases ikEq k k' <;> rfl)

/-- A number's way into a tree. -/
noncomputable def pathOf (f : Nat) : Nat → List Bool := Nat.rec (motive := fun _ => Nat → List Bool) (fun _ => []) (fun _ ih k => Nat.rec [] (fun k _ => Nat.beq (Nat.mod k 2) 0 :: ih (Nat.div k 2)) k) f

noncomputable def Tr.getP {α : Type} (p : List Bool) : Tr α → Option α :=
  List.rec (motive := fun _ => Tr α → Option α) (fun t => Tr.casesOn (motive := fun _ => Option α) t none (fun v _ _ => v)) (fun b _ ih t => Tr.casesOn (motive := fun _ => Option α) t none (fun _ x y => ih (Bool.rec y x b))) p
noncomputable def Tr.setP {α : Type} (x : α) (p : List Bool) : Tr α → Tr α :=
  List.rec (motive := fun _ => Tr α → Tr α) (fun t => Tr.casesOn (motive := fun _ => Tr α) t (.n (some x) .l .l) (fun _ a b => .n (some x) a b))
    (fun b _ ih t => Tr.casesOn (motive := fun _ => Tr α) t (Bool.rec (.n none .l (ih .l)) (.n none (ih .l) .l) b) (fun v l r => Bool.rec (.n v l (ih r)) (.n v (ih l) r) b)) p

theorem pathOf_zero (f : Nat) : pathOf f 0 = [] := by cases f <;> rfl
theorem pathOf_succ (f k : Nat) : pathOf (f + 1) (k + 1) = (Nat.beq (k % 2) 0) :: pathOf f (k / 2) := rfl
theorem beq_mod (k : Nat) : Nat.beq (k % 2) 0 = decide (k % 2 = 0) := by rw [Bool.eq_iff_iff]; simp

theorem getP_eq {α : Type} : ∀ (f k : Nat) (t : Tr α), k ≤ f → Tr.getP (pathOf f k) t = t.get k
  | f, 0, t, _ => by rw [pathOf_zero]; cases t <;> rfl
  | 0, k + 1, _, h => by omega
  | f + 1, k + 1, t, h => by
    rw [pathOf_succ]
    cases t with
    | l => rfl
    | n v a b =>
      rw [Tr.get_ns]
      show Tr.getP (pathOf f (k / 2)) (Bool.rec b a (Nat.beq (k % 2) 0)) = _
      rw [getP_eq f (k / 2) _ (by omega), beq_mod]
      by_cases hk : k % 2 = 0
      · rw [decide_eq_true hk, if_pos hk]
      · rw [decide_eq_false hk, if_neg hk]

theorem setP_l {α : Type} (x : α) : ∀ (f k : Nat), k ≤ f → Tr.setP x (pathOf f k) .l = Tr.one k x k
  | f, 0, _ => by rw [pathOf_zero]; rfl
  | 0, k + 1, h => by omega
  | f + 1, k + 1, h => by
    have one_more : ∀ (g g' j : Nat), j ≤ g → j ≤ g' → Tr.one g x j = Tr.one g' x j := by
      intro g
      induction g with
      | zero =>
        intro g' j h1 h2
        have hj : j = 0 := by omega
        rw [hj, Tr.one_zero, Tr.one_zero]
      | succ g ih =>
        intro g' j h1 h2
        cases j with
        | zero => rw [Tr.one_zero, Tr.one_zero]
        | succ j =>
          cases g' with
          | zero => omega
          | succ g' => rw [Tr.one_succ, Tr.one_succ, ih g' (j / 2) (by omega) (by omega)]
    rw [pathOf_succ, Tr.one_succ]
    show (Bool.rec (.n none .l (Tr.setP x (pathOf f (k / 2)) .l)) (.n none (Tr.setP x (pathOf f (k / 2)) .l) .l) (Nat.beq (k % 2) 0) : Tr α) = _
    rw [setP_l x f (k / 2) (by omega), beq_mod, one_more (k / 2) k (k / 2) (Nat.le_refl _) (by omega)]
    by_cases hk : k % 2 = 0
    · rw [decide_eq_true hk, if_pos hk]
    · rw [decide_eq_false hk, if_neg hk]

theorem setP_eq {α : Type} (x : α) : ∀ (f k : Nat) (t : Tr α), k ≤ f → Tr.setP x (pathOf f k) t = t.set x k
  | f, k, .l, h => by rw [setP_l x f k h]; rfl
  | f, 0, .n v a b, _ => by rw [pathOf_zero]; rfl
  | 0, k + 1, .n _ _ _, h => by omega
  | f + 1, k + 1, .n v a b, h => by
    rw [pathOf_succ, Tr.set_ns]
    show (Bool.rec (.n v a (Tr.setP x (pathOf f (k / 2)) b)) (.n v (Tr.setP x (pathOf f (k / 2)) a) b) (Nat.beq (k % 2) 0) : Tr α) = _
    rw [setP_eq x f (k / 2) a (by omega), setP_eq x f (k / 2) b (by omega), beq_mod]
    by_cases hk : k % 2 = 0
    · rw [decide_eq_true hk, if_pos hk]
    · rw [decide_eq_false hk, if_neg hk]

structure EvW where
  fn : Nat → Tr V → V
noncomputable def evW (o : Operand) : EvW :=
  match o with
  | .tmp n => ⟨fun _ tm => Option.rec .u (fun v => v) (Tr.getP (pathOf n n) tm)⟩
  | .const v => ⟨fun _ _ => ofValue v⟩
  | .global g => ⟨fun ng _ => bif Nat.blt g ng then .p g 0 else .u⟩
  | .func f => ⟨fun _ _ => .f (.func f) [] []⟩
theorem evW_eq (o : Operand) (ng : Nat) (tm : Tr V) : (evW o).fn ng tm = ev ng tm o := by
  cases o <;> try rfl
  rename_i n
  show Option.rec V.u (fun v => v) (Tr.getP (pathOf n n) tm) = (tm.get n).getD .u
  rw [getP_eq n n tm (Nat.le_refl _)]
  cases tm.get n <;> rfl

structure OpW where
  fn : Tab → Go → (Operand → V) → List AF → (V → M) → M
noncomputable def opW (op : Op) : OpW :=
  match op with
  | .move x => ⟨fun _ _ ρ _ K => K (ρ x)⟩
  | .assign x => ⟨fun _ _ ρ _ K => K (ρ x)⟩
  | .load t a => ⟨fun T _ ρ _ K => aLoad T.ty t (ρ a) K⟩
  | .store t a x => ⟨fun T _ ρ _ K => aStore T.ty t (ρ a) (ρ x) K⟩
  | .binOp op t x y _ => ⟨fun T _ ρ _ K => aBinF T.ty (isC x || isC y) op t (ρ x) (ρ y) K⟩
  | .convert s d x => ⟨fun T _ ρ _ K => aConv T.ty s d (ρ x) K⟩
  | .slice t x lo hi mx => ⟨fun T _ ρ _ K => aSlice T.ty t (ρ x) (lo.map ρ) (hi.map ρ) (mx.map ρ) K⟩
  | .fieldAddr t x f => ⟨fun T _ ρ _ K => aFieldAddr T.ty t (ρ x) f K⟩
  | .indexAddr t x i => ⟨fun T _ ρ _ K => aIndexAddr T.ty t (ρ x) (ρ i) K⟩
  | .index t x i => ⟨fun T _ ρ _ K => aIndex T.ty t (ρ x) (ρ i) K⟩
  | .call c => ⟨fun T ih ρ cs K => callC T ih ρ c cs K⟩
  | .defer _ => ⟨fun _ _ _ _ _ => .fail⟩
  | op => ⟨fun T _ ρ _ K => aop T.ty ρ op K⟩
theorem opW_eq (op : Op) (T : Tab) (ih : Go) (ρ : Operand → V) (cs : List AF) (K : V → M) : (opW op).fn T ih ρ cs K = (match op with | .call c => callC T ih ρ c cs K | .defer _ => .fail | op => aop T.ty ρ op K) := by
  cases op <;> first | rfl | exact aBinF_eq _ _ _ _ _ _ _

structure PutW where
  fn : Go → Nat → Nat → Tr V → List It → List Nat → Option Nat → List AF → V → M
noncomputable def putW (dst : Option Nat) : PutW :=
  match dst with
  | some d => ⟨fun ih fn nt tm td df rd cs v => bif Nat.blt d nt then ih ⟨fn, nt, Tr.setP v (pathOf d d) tm, td, df, rd⟩ cs else .fail⟩
  | none => ⟨fun ih fn nt tm td df rd cs _ => ih ⟨fn, nt, tm, td, df, rd⟩ cs⟩
theorem putW_eq (dst : Option Nat) (ih : Go) (f : AF) (td : List It) (cs : List AF) (v : V) : (putW dst).fn ih f.fn f.nt f.tm td f.df f.rd cs v = f.put dst v td fun f => ih f cs := by
  cases dst with
  | none => rfl
  | some d =>
    show (bif Nat.blt d f.nt then ih ⟨f.fn, f.nt, Tr.setP v (pathOf d d) f.tm, td, f.df, f.rd⟩ cs else .fail) = (bif Nat.blt d f.nt then ih ⟨f.fn, f.nt, f.tm.set v d, td, f.df, f.rd⟩ cs else .fail)
    rw [setP_eq v d d f.tm (Nat.le_refl _)]

structure OperW where
  fn : Tab → Go → Nat → Nat → Tr V → List Nat → Option Nat → List It → List Oper → List Oper → List AF → M
noncomputable def operW (o : Oper) : OperW :=
  match o.guard with
  | none => ⟨fun T ih fn nt tm df rd k ops rest cs => (opW o.op).fn T ih (fun x => (evW x).fn T.ng tm) (⟨fn, nt, tm, .reg ops (o :: rest) :: k, df, rd⟩ :: cs) ((putW o.dst).fn ih fn nt tm (.reg ops rest :: k) df rd cs)⟩
  | some _ => ⟨fun T ih fn nt tm df rd k ops rest cs => stepO T ih ⟨fn, nt, tm, .reg ops (o :: rest) :: k, df, rd⟩ cs ops o rest k⟩
theorem operW_eq (o : Oper) (T : Tab) (ih : Go) (f : AF) (k : List It) (ops rest : List Oper) (cs : List AF) (h : f.td = .reg ops (o :: rest) :: k) : (operW o).fn T ih f.fn f.nt f.tm f.df f.rd k ops rest cs = stepO T ih f cs ops o rest k := by
  have hf : f = ⟨f.fn, f.nt, f.tm, .reg ops (o :: rest) :: k, f.df, f.rd⟩ := by rw [← h]
  unfold operW
  cases hg : o.guard with
  | some g => show stepO T ih _ cs ops o rest k = _; rw [← hf]
  | none =>
    show (opW o.op).fn T ih (fun x => (evW x).fn T.ng f.tm) (⟨f.fn, f.nt, f.tm, .reg ops (o :: rest) :: k, f.df, f.rd⟩ :: cs) ((putW o.dst).fn ih f.fn f.nt f.tm (.reg ops rest :: k) f.df f.rd cs) = _
    rw [← hf, opW_eq]
    have e1 : (fun x => (evW x).fn T.ng f.tm) = ev T.ng f.tm := funext fun x => evW_eq x _ _
    have e2 : (putW o.dst).fn ih f.fn f.nt f.tm (.reg ops rest :: k) f.df f.rd cs = fun v => f.put o.dst v (.reg ops rest :: k) fun f => ih f cs := funext fun v => putW_eq _ _ _ _ _ _
    rw [e1, e2]
    have hw : want ops f.tm o = some true := by unfold want; rw [hg]
    unfold stepO
    rw [hw]
    rfl

structure CW where
  fn : Tab → Go → Nat → Nat → Tr V → List Nat → Option Nat → List It → List AF → M
noncomputable def codeW (c : Code) : CW :=
  match c with
  | .skip => ⟨fun _ ih fn nt tm df rd k cs => ih ⟨fn, nt, tm, k, df, rd⟩ cs⟩
  | .seq a b => ⟨fun _ ih fn nt tm df rd k cs => ih ⟨fn, nt, tm, .code a :: .code b :: k, df, rd⟩ cs⟩
  | .cond c a b => ⟨fun T ih fn nt tm df rd k cs => match (evW c).fn T.ng tm with | .b x => ih ⟨fn, nt, tm, .code (bif x then a else b) :: k, df, rd⟩ cs | _ => .fail⟩
  | .block id c => ⟨fun _ ih fn nt tm df rd k cs => ih ⟨fn, nt, tm, .code c :: .inBlock id :: k, df, rd⟩ cs⟩
  | .loop c => ⟨fun _ ih fn nt tm df rd k cs => ih ⟨fn, nt, tm, .code c :: .inLoop c :: k, df, rd⟩ cs⟩
  | .scope c => ⟨fun _ ih fn nt tm df rd k cs => ih ⟨fn, nt, tm, .code c :: .inScope c :: k, df, rd⟩ cs⟩
  | .region i ops draw => bif draw then ⟨fun T ih fn nt tm df rd k cs => stepC T ih ⟨fn, nt, tm, .code (.region i ops true) :: k, df, rd⟩ cs (.region i ops true) k⟩
      else ⟨fun _ ih fn nt tm df rd k cs => ih ⟨fn, nt, tm, .reg ops.toList ops.toList :: k, df, rd⟩ cs⟩
  | c => ⟨fun T ih fn nt tm df rd k cs => stepC T ih ⟨fn, nt, tm, .code c :: k, df, rd⟩ cs c k⟩
theorem codeW_eq (c : Code) (T : Tab) (ih : Go) (f : AF) (k : List It) (cs : List AF) (h : f.td = .code c :: k) : (codeW c).fn T ih f.fn f.nt f.tm f.df f.rd k cs = stepC T ih f cs c k := by
  have hf : f = ⟨f.fn, f.nt, f.tm, .code c :: k, f.df, f.rd⟩ := by rw [← h]
  cases c <;> try rfl
  case cond c a b =>
    show (match (evW c).fn T.ng f.tm with | .b x => ih ⟨f.fn, f.nt, f.tm, .code (bif x then a else b) :: k, f.df, f.rd⟩ cs | _ => .fail) = _
    rw [evW_eq]
    rfl
  case region i ops draw =>
    cases draw
    · rfl
    · show stepC T ih ⟨f.fn, f.nt, f.tm, .code (.region i ops true) :: k, f.df, f.rd⟩ cs (.region i ops true) k = _
      rw [← hf]
  all_goals (show stepC T ih _ cs _ k = _; rw [← hf])

structure ItW where
  fn : Tab → Go → Nat → Nat → Tr V → List Nat → Option Nat → List It → List AF → M
noncomputable def itW (i : It) : ItW :=
  match i with
  | .code c => ⟨(codeW c).fn⟩
  | .inBlock _ => ⟨fun _ ih fn nt tm df rd k cs => ih ⟨fn, nt, tm, k, df, rd⟩ cs⟩
  | .inScope _ => ⟨fun _ ih fn nt tm df rd k cs => ih ⟨fn, nt, tm, k, df, rd⟩ cs⟩
  | .inLoop c => ⟨fun _ ih fn nt tm df rd k cs => ih ⟨fn, nt, tm, .code c :: .inLoop c :: k, df, rd⟩ cs⟩
  | .reg _ [] => ⟨fun _ ih fn nt tm df rd k cs => ih ⟨fn, nt, tm, k, df, rd⟩ cs⟩
  | .reg ops (o :: rest) => ⟨fun T ih fn nt tm df rd k cs => (operW o).fn T ih fn nt tm df rd k ops rest cs⟩
  | i => ⟨fun T ih fn nt tm df rd k cs => step1 T ih ⟨fn, nt, tm, i :: k, df, rd⟩ cs⟩

noncomputable def stepG (T : Tab) (ih : Go) (f : AF) (cs : List AF) : M :=
  AF.casesOn (motive := fun _ => M) f fun fn nt tm td df rd => List.rec (step1 T ih ⟨fn, nt, tm, [], df, rd⟩ cs) (fun i k _ => (itW i).fn T ih fn nt tm df rd k cs) td

theorem stepG_eq (T : Tab) (ih : Go) (f : AF) (cs : List AF) : stepG T ih f cs = step1 T ih f cs := by
  obtain ⟨fn, nt, tm, td, df, rd⟩ := f
  cases td with
  | nil => rfl
  | cons i k =>
    show (itW i).fn T ih fn nt tm df rd k cs = _
    cases i <;> try rfl
    case code c => exact codeW_eq c T ih ⟨fn, nt, tm, .code c :: k, df, rd⟩ k cs rfl
    case reg ops l =>
      cases l with
      | nil => rfl
      | cons o rest => exact operW_eq o T ih ⟨fn, nt, tm, .reg ops (o :: rest) :: k, df, rd⟩ k ops rest cs rfl

noncomputable def goF (T : Tab) (n : Nat) : Go := Nat.rec (motive := fun _ => Go) (fun _ _ => .fail) (fun _ ih => stepG T ih) n
theorem goF_eq (T : Tab) (n : Nat) : goF T n = go T n := by
  induction n with
  | zero => rfl
  | succ n ih =>
    funext f cs
    show stepG T (goF T n) f cs = step1 T (go T n) f cs
    rw [stepG_eq, ih]

/-- The run, with ways into the heap. -/
noncomputable def rdF (b : Nat) (ih : Blk → St) (h : Tr Blk) (c r w : Nat) : Option Out :=
  Option.rec none (fun x => Bool.rec (ih x h c (bit r b) w) none (Nat.beq (bit r b) 0)) (Tr.getP (pathOf b b) h)
noncomputable def wrF (b : Nat) (x : Blk) (ih : St) (h : Tr Blk) (c r w : Nat) : Option Out :=
  Option.rec none (fun _ => Bool.rec (ih (Tr.setP x (pathOf b b) h) c r (bit w b)) none (Nat.beq (bit w b) 0)) (Tr.getP (pathOf b b) h)
noncomputable def alF (x : Blk) (ih : Nat → St) (h : Tr Blk) (c r w : Nat) : Option Out :=
  Bool.rec (ih c (Tr.setP x (pathOf c c) h) (Nat.succ c) r w) none (Nat.beq (Nat.succ c) 0)
noncomputable def runF (m : M) : St :=
  M.rec (motive := fun _ => St) (fun v h c r w => some ⟨v, h, c, r, w⟩) (fun _ _ _ _ => none)
    (fun b _ ih => rdF b ih) (fun b x _ ih => wrF b x ih) (fun x _ ih => alF x ih) (fun _ _ ihm ihk => subStep ihm ihk) m
theorem runF_eq (m : M) : ∀ (h : Tr Blk) (c r w : Nat), runF m h c r w = run m h c r w := by
  induction m with
  | ret v => intro h c r w; rfl
  | fail => intro h c r w; rfl
  | rd b k ih =>
    intro h c r w
    show rdF b (fun x => runF (k x)) h c r w = rdStep b (fun x => run (k x)) h c r w
    unfold rdF rdStep
    rw [getP_eq b b h (Nat.le_refl _)]
    have : (fun x => runF (k x)) = fun x => run (k x) := by funext x h c r w; exact ih x h c r w
    rw [this]
  | wr b x k ih =>
    intro h c r w
    show wrF b x (runF k) h c r w = wrStep b x (run k) h c r w
    unfold wrF wrStep
    rw [getP_eq b b h (Nat.le_refl _), setP_eq x b b h (Nat.le_refl _)]
    have : runF k = run k := by funext h c r w; exact ih h c r w
    rw [this]
  | al x k ih =>
    intro h c r w
    show alF x (fun n => runF (k n)) h c r w = alStep x (fun n => run (k n)) h c r w
    unfold alF alStep
    rw [setP_eq x c c h (Nat.le_refl _)]
    have : (fun n => runF (k n)) = fun n => run (k n) := by funext n h c r w; exact ih n h c r w
    rw [this]
  | sub m k ihm ihk =>
    intro h c r w
    show subStep (runF m) (fun v a b => runF (k v a b)) h c r w = subStep (run m) (fun v a b => run (k v a b)) h c r w
    have e1 : runF m = run m := by funext h c r w; exact ihm h c r w
    have e2 : (fun v a b => runF (k v a b)) = fun v a b => run (k v a b) := by funext v a b h c r w; exact ihk v a b h c r w
    rw [e1, e2]

theorem run_light (T : Tab) (n : Nat) (f : AF) (cs : List AF) (h : Tr Blk) (c r w : Nat) : runF (goF T n f cs) h c r w = run (go T n f cs) h c r w := by rw [runF_eq, goF_eq]
end Go.Ev
