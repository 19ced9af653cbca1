/- THE ABSTRACT MACHINE, its frames. Own work. -/
import Derived.Test.YtlainoonnnimiaaGreatDoorEv2
set_option linter.all false
set_option linter.unusedVariables false
set_option linter.constructorNameAsVariable false
set_option linter.unnecessarySimpa false
set_option linter.unusedSimpArgs false
namespace Go.Ev

inductive It where
  | code (c : Code)
  | inBlock (id : Nat)
  | inLoop (c : Code)
  | inScope (c : Code)
  | reg (ops rest : List Oper)
  | inRF (l : Nat)
  | endRF (l : Nat)
  | begR

structure AF where
  fn : Nat
  nt : Nat
  tm : Tr V
  td : List It
  df : List Nat
  rd : Option Nat

def AF.at_ (f : AF) (td : List It) : AF := ⟨f.fn, f.nt, f.tm, td, f.df, f.rd⟩

noncomputable def AF.put (f : AF) (dst : Option Nat) (v : V) (td : List It) (K : AF → M) : M :=
  match dst with
  | some d => bif Nat.blt d f.nt then K ⟨f.fn, f.nt, f.tm.set v d, td, f.df, f.rd⟩ else .fail
  | none => K ⟨f.fn, f.nt, f.tm, td, f.df, f.rd⟩

/-- A frame that waits for a call's result has it. -/
noncomputable def AF.fin (f : AF) (v : V) (K : AF → M) : M :=
  match f.td with
  | .reg ops (o :: rest) :: k => f.put o.dst v (.reg ops rest :: k) K
  | .inRF l :: k => K (f.at_ (.endRF l :: k))
  | _ => .fail

/-- Is an operation wanted? 'none': it can't be told. -/
noncomputable def want (ops : List Oper) (tm : Tr V) (o : Oper) : Option Bool :=
  match o.guard with
  | none => some true
  | some (j, w) => match ops[j]? with
    | none => none
    | some g => match g.dst with
      | none => none
      | some d => match tm.get d with
        | some (.b x) => some (x == w)
        | some (.tu _) => some false
        | _ => none

noncomputable def exitTo (id : Nat) (l : List It) : Option (List It) :=
  List.rec none (fun i k r => match i with | .inBlock id' => bif Nat.beq id' id then some k else r | _ => r) l

def Exit0 (j : Option Code) : Bool := match j with | none => true | some .ret => true | _ => false

abbrev Go := AF → List AF → M

/-- Back to whoever called. -/
noncomputable def back (ih : Go) (v : V) (cs : List AF) : M :=
  match cs with
  | [] => .ret v
  | c :: cs => c.fin v fun c => ih c cs

noncomputable def resV (T : Tab) (tm : Tr V) (rs : List ResultVar) : List V → (List V → M) → M :=
  List.rec (motive := fun _ => List V → (List V → M) → M) (fun acc K => K acc) (fun r _ ih acc K => match r with
    | .tmp t => ih (acc ++ [(tm.get t).getD .u]) K
    | .cell a t => aLoad T.ty t ((tm.get a).getD .u) fun v => ih (acc ++ [v]) K) rs

noncomputable def shut (ds : List Nat) (K : M) : M :=
  List.rec K (fun d _ r => .rd d fun q => match q with | .defs true => .wr d (.defs false) r | _ => .fail) ds

noncomputable def leave (T : Tab) (ih : Go) (j : Option Code) (f : AF) (cs : List AF) : M :=
  match f.rd with
  | none => bif Exit0 j then shut f.df (match T.fn.get f.fn with
      | none => .fail
      | some fi => resV T f.tm fi.res [] fun l => match l with
          | [v] => back ih v cs
          | l => back ih (.tu l) cs) else .fail
  | some l => .rd l fun q => match q with
      | .loop _ _ fn nt tm ps a b d => .wr l (.loop (match j with | none => .ready | some _ => .done) j fn nt tm ps a b d) (back ih (.b (match j with | none => true | some _ => false)) cs)
      | _ => .fail

noncomputable def enter (T : Tab) (ih : Go) (f : Nat) (args : List V) (cs : List AF) (K : V → M) : M :=
  match T.orc f with
  | some o => o args K
  | none => match T.xf f with
    | some x => (match x args with | some v => K v | none => .fail)
    | none => match T.fn.get f with
      | some fi => bif Nat.ble args.length fi.nt then ih ⟨f, fi.nt, Tr.lay args 0 .l, [.code fi.code], [], none⟩ cs else .fail
      | none => .fail

noncomputable def zipSet (nt : Nat) (K : Tr V → M) (ps : List Nat) : List V → Tr V → M :=
  List.rec (motive := fun _ => List V → Tr V → M) (fun _ t => K t) (fun p _ ih vs t => match vs with | v :: vs => bif Nat.blt p nt then ih vs (t.set v p) else .fail | [] => .fail) ps

/-- A function value is called: 'cs': with the caller ahead; K: what is done where it is answered at once. -/
noncomputable def callV (T : Tab) (ih : Go) (g : V) (args : List V) (cs : List AF) (K : V → M) : M :=
  match g with
  | .f (.func f) first cap => enter T ih f (first ++ args ++ cap) cs K
  | .f (.yield l) first _ => .rd l fun q => match q with
      | .loop _ _ fn nt tm ps a b _ => bif Nat.beq (first ++ args).length ps.length then
          zipSet nt (fun tm => ih ⟨fn, nt, tm, [.code a, .begR, .code b], [], some l⟩ cs) ps (first ++ args) tm else .fail
      | _ => .fail
  | .f (.method name) first _ => (match first ++ args with
      | .if_ t x :: rest => (match T.mt t name with | some f => enter T ih f (x :: rest) cs K | none => .fail)
      | _ => .fail)
  | _ => .fail

noncomputable def callC (T : Tab) (ih : Go) (ρ : Operand → V) (c : Call) (cs : List AF) (K : V → M) : M :=
  match c.callee with
  | .value g => callV T ih (ρ g) (c.args.toList.map ρ) cs K
  | .invoke r name => (match ρ r with
      | .if_ t x => (match T.mt t name with | some f => enter T ih f (x :: c.args.toList.map ρ) cs K | none => .fail)
      | _ => .fail)
  | .builtin b => aBuiltin T.ty b c.argTypes.toList (c.args.toList.map ρ) K

/-- One operation of a region that draws, by itself. -/
noncomputable def opM (T : Tab) (ih : Go) (ops : List Oper) (tm : Tr V) (o : Oper) : M :=
  match want ops tm o with
  | none => .fail
  | some false => .ret (.tu [])
  | some true => match o.op with
    | .call c => callC T ih (ev T.ng tm) c [] .ret
    | .defer _ => .fail
    | op => aop T.ty (ev T.ng tm) op .ret

/-- Which operations stand ahead, as bits. -/
def ahead (o : Oper) (acc : List Nat) : Nat :=
  o.after.toList.foldl (fun s e => match e.ground with
    | .textOnly _ | .gcOnly _ => s
    | _ => s ||| (1 <<< e.on) ||| acc.getD e.on 0) 0

def aheads (ops : List Oper) : List Nat := ops.foldl (fun acc o => acc ++ [ahead o acc]) []

/-- Do two masks meet? -/
def apartM (a b : Nat × Nat) : Bool := Nat.beq (a.2 &&& (b.1 ||| b.2)) 0 && Nat.beq (a.1 &&& b.2) 0

def okPair (bf : List Nat) (ms : List (Nat × Nat)) (j i : Nat) : Bool :=
  Nat.ble j i || (bf.getD j 0).testBit i || apartM (ms.getD i (0, 0)) (ms.getD j (0, 0))

def okMasks (ops : List Oper) (ms : List (Nat × Nat)) : Bool :=
  Nat.beq (ms.foldl (fun s m => s ||| m.2) 0) 0 ||
    (let bf := aheads ops; (List.range ops.length).all fun j => (List.range ops.length).all fun i => okPair bf ms j i)

/-- The operands of an operation that is covered. -/
def opers (op : Op) : List Operand :=
  match op with
  | .move x | .assign x => [x]
  | .pick c a b => [c, a, b]
  | .box _ x => [x]
  | .build _ ps => ps.toList.map (·.2)
  | .buildSlice _ _ ps => ps.toList.map (·.2)
  | .load _ a => [a]
  | .store _ a x => [a, x]
  | .nilCheck x => [x]
  | .binOp _ _ x y _ => [x, y]
  | .unOp _ _ x => [x]
  | .convert _ _ x => [x]
  | .makeInterface _ x => [x]
  | .makeFunc _ a c => a.toList ++ c.toList
  | .makeSlice _ l c => [l, c]
  | .slice _ x lo hi mx => x :: (lo.toList ++ (hi.toList ++ mx.toList))
  | .fieldAddr _ x _ => [x]
  | .field _ x _ => [x]
  | .indexAddr _ x i => [x, i]
  | .index _ x i => [x, i]
  | .lookup _ x i _ => [x, i]
  | .mapUpdate _ m k x => [m, k, x]
  | .insert _ m k x => [m, k, x]
  | .mapEntry _ m k => [m, k]
  | .entryStore _ m s x => [m, s, x]
  | .range _ x => [x]
  | .next x _ => [x]
  | .entry x => [x]
  | .extract x _ => [x]
  | .call c => (match c.callee with | .value g => [g] | .invoke r _ => [r] | .builtin _ => []) ++ c.args.toList
  | _ => []

def tmpsOf (l : List Operand) : List Nat := l.filterMap fun x => match x with | .tmp t => some t | _ => none

/-- The temporaries that an operation of a region looks at. -/
def looks (ops : List Oper) (o : Oper) : List Nat :=
  tmpsOf (opers o.op) ++ (match o.guard with | some (g, _) => (match ops[g]? with | some o' => o'.dst.toList | none => []) | none => [])

def bindsAny (e : Edge) : Bool := match e.ground with | .textOnly _ | .gcOnly _ => false | _ => true

def tmpApart (ops : List Oper) (a b : Oper) : Bool :=
  (match a.dst with | some d => !(looks ops b).contains d && b.dst != some d | none => true) && (match b.dst with | some d => !(looks ops a).contains d | none => true)

/-- What can be listed behind what is listed, once through the text. -/
def fillStep (m : Region.Mode) (ops : List Oper) (s : Nat) : Nat :=
  (ops.foldl (fun (p : Nat × Nat) o => (p.1 + 1, bif o.after.toList.all (fun e => !Region.binds m e || p.2.testBit e.on) then p.2 ||| (1 <<< p.1) else p.2)) (0, s)).2
/-- Does each operation get its turn? -/
def fills (m : Region.Mode) (ops : List Oper) : Bool :=
  let s := fillStep m ops (fillStep m ops (fillStep m ops 0))
  (List.range ops.length).all fun j => s.testBit j

/-- A region's own words: its edges that bind go back; temporaries are handed on along edges. -/
def regOk (ops : List Oper) : Bool :=
  (fills .any ops && (fills .text ops && fills .gc ops)) && (List.range ops.length).all fun j => match ops[j]? with
    | none => false
    | some o => o.after.toList.all (fun e => !bindsAny e || Nat.blt e.on j) &&
      (List.range j).all fun i => match ops[i]? with
        | none => false
        | some o' => ((aheads ops).getD j 0).testBit i || tmpApart ops o' o

/-- The regions of a code are all in order. -/
noncomputable def codeOk (c : Code) : Bool :=
  Code.rec (motive := fun _ => Bool) true (fun _ ops d => bif d then regOk ops.toList else true) (fun _ _ a b => bif a then b else false) (fun _ _ _ a b => bif a then b else false)
    (fun _ _ a => a) (fun _ a => a) (fun _ _ _ _ a b => bif a then b else false) (fun _ => true) (fun _ a => a) (fun _ => true) (fun _ => true) true (fun _ => true) c

noncomputable def drawn (T : Tab) (ih : Go) (nt : Nat) (ops : List Oper) (K : Tr V → M) (rest : List Oper) : Tr V → List (Nat × Nat) → M :=
  List.rec (motive := fun _ => Tr V → List (Nat × Nat) → M) (fun tm ms => bif okMasks ops ms then K tm else .fail)
    (fun o _ r tm ms => .sub (opM T ih ops tm o) fun v a b => match o.dst with
      | some d => bif Nat.blt d nt then r (tm.set v d) (ms ++ [(a, b)]) else .fail
      | none => r tm (ms ++ [(a, b)])) rest

noncomputable def stepC (T : Tab) (ih : Go) (f : AF) (cs : List AF) (c : Code) (k : List It) : M :=
  match c with
  | .skip => ih (f.at_ k) cs
  | .label _ => ih (f.at_ k) cs
  | .ret => leave T ih (some .ret) f cs
  | .seq a b => ih (f.at_ (.code a :: .code b :: k)) cs
  | .cond c a b => (match ev T.ng f.tm c with | .b x => ih (f.at_ (.code (bif x then a else b) :: k)) cs | _ => .fail)
  | .block id c => ih (f.at_ (.code c :: .inBlock id :: k)) cs
  | .loop c => ih (f.at_ (.code c :: .inLoop c :: k)) cs
  | .scope c => ih (f.at_ (.code c :: .inScope c :: k)) cs
  | .exit id => (match exitTo id k with | some k' => ih (f.at_ k') cs | none => leave T ih (some (.exit id)) f cs)
  | .region _ ops draw => bif draw
      then drawn T ih f.nt ops.toList (fun tm => ih ⟨f.fn, f.nt, tm, k, f.df, f.rd⟩ cs) ops.toList f.tm []
      else ih (f.at_ (.reg ops.toList ops.toList :: k)) cs
  | .rangeFunc g ps a b => (match f.rd with
      | none => .al (.defs true) fun d => .al (.loop .ready none f.fn f.nt f.tm ps.toList a b d) fun l =>
          callV T ih (ev T.ng f.tm g) [.f (.yield l) [] []] (⟨f.fn, f.nt, f.tm, .inRF l :: k, d :: f.df, f.rd⟩ :: cs) (fun v => back ih v (⟨f.fn, f.nt, f.tm, .inRF l :: k, d :: f.df, f.rd⟩ :: cs))
      | some l0 => .rd l0 fun q => match q with
          | .loop _ _ _ _ _ _ _ _ d => .al (.loop .ready none f.fn f.nt f.tm ps.toList a b d) fun l =>
              callV T ih (ev T.ng f.tm g) [.f (.yield l) [] []] (⟨f.fn, f.nt, f.tm, .inRF l :: k, f.df, f.rd⟩ :: cs) (fun v => back ih v (⟨f.fn, f.nt, f.tm, .inRF l :: k, f.df, f.rd⟩ :: cs))
          | _ => .fail)
  | _ => .fail

noncomputable def stepO (T : Tab) (ih : Go) (f : AF) (cs : List AF) (ops : List Oper) (o : Oper) (rest : List Oper) (k : List It) : M :=
  match want ops f.tm o with
  | none => .fail
  | some false => f.put o.dst (.tu []) (.reg ops rest :: k) fun f => ih f cs
  | some true => match o.op with
    | .call c => callC T ih (ev T.ng f.tm) c (f :: cs) (fun v => f.put o.dst v (.reg ops rest :: k) fun f => ih f cs)
    | .defer _ => .fail
    | op => aop T.ty (ev T.ng f.tm) op fun v => f.put o.dst v (.reg ops rest :: k) fun f => ih f cs

noncomputable def step1 (T : Tab) (ih : Go) (f : AF) (cs : List AF) : M :=
  match f.td with
  | [] => leave T ih none f cs
  | .code c :: k => stepC T ih f cs c k
  | .inBlock _ :: k => ih (f.at_ k) cs
  | .inScope _ :: k => ih (f.at_ k) cs
  | .inLoop c :: k => ih (f.at_ (.code c :: .inLoop c :: k)) cs
  | .reg _ [] :: k => ih (f.at_ k) cs
  | .reg ops (o :: rest) :: k => stepO T ih f cs ops o rest k
  | .inRF _ :: _ => .fail
  | .begR :: k => (match f.rd with
      | none => .fail
      | some l => .rd l fun q => match q with
          | .loop .ready p fn nt tm ps a b d => .wr l (.loop .busy p fn nt tm ps a b d) (ih (f.at_ k) cs)
          | _ => .fail)
  | .endRF l :: k => .rd l fun q => match q with
      | .loop .busy _ _ _ _ _ _ _ _ => .fail
      | .loop _ p fn nt tm ps a b d => .wr l (.loop .exhausted p fn nt tm ps a b d) (ih (f.at_ (match p with | some c => .code c :: k | none => k)) cs)
      | _ => .fail

noncomputable def go (T : Tab) (n : Nat) : Go := Nat.rec (motive := fun _ => Go) (fun _ _ => .fail) (fun _ ih => step1 T ih) n

theorem go_zero (T : Tab) (f cs) : go T 0 f cs = .fail := rfl
theorem go_succ (T : Tab) (n f cs) : go T (n + 1) f cs = step1 T (go T n) f cs := rfl

noncomputable def top (T : Tab) (n f : Nat) (args : List V) : M := enter T (go T n) f args [] .ret
end Go.Ev
