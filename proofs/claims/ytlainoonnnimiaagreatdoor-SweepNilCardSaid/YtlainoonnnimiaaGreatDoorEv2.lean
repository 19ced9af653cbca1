/- THE ABSTRACT MACHINE, its operations. Own work. -/
import Derived.Test.YtlainoonnnimiaaGreatDoorEv1
set_option linter.all false
set_option linter.unusedVariables false
set_option linter.constructorNameAsVariable false
set_option linter.unnecessarySimpa false
set_option linter.unusedSimpArgs false
namespace Go.Ev

/-- What is known of a type: elements' sizes stand beside them. -/
inductive TD where
  | bool | int (k : IntKind) | str
  | ptr (e : Nat)
  | slice (e esz ebytes : Nat)
  | arr (n e esz : Nat)
  | map (k e : Nat)
  | struct (fs : List (Nat × Nat))   -- offset, type
  | func
  | iface
  | other

structure TI where
  d : TD
  agg : Bool
  size : Nat
  zero : List V
  eqg : Bool       -- may '==' at it meet interfaces?

structure FI where
  code : Code
  nt : Nat
  res : List ResultVar

/-- The tables that a run goes by. -/
structure Tab where
  ty : Tr TI
  fn : Tr FI
  mt : Nat → String → Option Nat
  xf : Nat → Option (List V → Option V)
  orc : Nat → Option (List V → (V → M) → M)
  ng : Nat   -- so many globals

noncomputable def bytes (s : ByteArray) : List Nat := s.data.toList.map UInt8.toNat

/-- A constant of the code. -/
noncomputable def ofValue (v : Value) : V :=
  match v with
  | .bool b => .b b
  | .int k n => .i k n
  | .string s => .s (bytes s)
  | .pointer none => .p0
  | .slice none 0 0 => .sl0
  | .map none => .m0
  | .nilFunc => .nf
  | .nilIface => .ni
  | .tuple ⟨[]⟩ => .tu []
  | _ => .u

noncomputable def ev (ng : Nat) (t : Tr V) (o : Operand) : V :=
  match o with
  | .tmp n => (t.get n).getD .u
  | .const v => ofValue v
  | .global g => bif Nat.blt g ng then .p g 0 else .u
  | .func f => .f (.func f) [] []

/-- A value's cells; of what isn't known, and of several results: none. -/
def V.cells (v : V) (K : List V → M) : M := match v with | .ag l => K l | .u => .fail | .tu _ => .fail | v => K [v]

/-- What stands where nothing was laid. -/
noncomputable def zat (z : List V) (j : Nat) : V := match z with | [v] => v | z => z.getD (j % z.length) .u

noncomputable def cell (z : List V) (c : Tr V) (j : Nat) : V := Option.rec (zat z j) (fun v => v) (c.get j)

def sameZ (a b : V) : Bool :=
  match a, b with
  | .b x, .b y => x == y
  | .i .u8 (.ofNat 0), .i .u8 (.ofNat 0) => true
  | .i .i64 (.ofNat 0), .i .i64 (.ofNat 0) => true
  | .i .u32 (.ofNat 0), .i .u32 (.ofNat 0) => true
  | .p0, .p0 => true
  | _, _ => false

/-- Zeros that are all one, as one. -/
def zp (l : List V) : List V := match l with | v :: r => bif r.all (sameZ v) then [v] else v :: r | [] => []

/-- So many cells from one on. -/
noncomputable def cellsFrom (z : List V) (c : Tr V) (m : Nat) : Nat → List V :=
  Nat.rec (motive := fun _ => Nat → List V) (fun _ => []) (fun _ ih j => cell z c j :: ih (j + 1)) m

theorem cellsFrom_zero (z c j) : cellsFrom z c 0 j = [] := rfl
theorem cellsFrom_succ (z c m j) : cellsFrom z c (m + 1) j = cell z c j :: cellsFrom z c m (j + 1) := rfl

/-- wrap, with its numbers written out. -/
def wrapS (half all : Nat) (n : Int) : Int :=
  match n with
  | .ofNat a => bif Nat.blt a half then .ofNat a else
    let m := a % all
    bif Nat.blt m half then .ofNat m else Int.subNatNat m all
  | .negSucc a => bif Nat.blt a half then .negSucc a else
    let m := all - 1 - a % all
    bif Nat.blt m half then .ofNat m else Int.subNatNat m all
def wrapU (all : Nat) (n : Int) : Int :=
  match n with
  | .ofNat a => bif Nat.blt a all then .ofNat a else .ofNat (a % all)
  | .negSucc a => .ofNat (all - 1 - a % all)
def wrap (k : IntKind) (n : Int) : Int :=
  match k with
  | .i64 => wrapS 9223372036854775808 18446744073709551616 n
  | .u8 => wrapU 256 n
  | .u32 => wrapU 4294967296 n
  | .u64 => wrapU 18446744073709551616 n
  | .i32 => wrapS 2147483648 4294967296 n
  | .i8 => wrapS 128 256 n
  | .i16 => wrapS 32768 65536 n
  | .u16 => wrapU 65536 n
def bitsOf (k : IntKind) : Nat := match k with | .i8 | .u8 => 8 | .i16 | .u16 => 16 | .i32 | .u32 => 32 | .i64 | .u64 => 64
/-- A number's bits. -/
def nat (k : IntKind) (n : Int) : Nat :=
  match n with
  | .ofNat a => a % (1 <<< bitsOf k)
  | .negSucc a => (1 <<< bitsOf k) - 1 - a % (1 <<< bitsOf k)

def ikEq (a b : IntKind) : Bool :=
  match a, b with
  | .i64, .i64 | .u8, .u8 | .u32, .u32 | .i32, .i32 | .u64, .u64 | .i8, .i8 | .i16, .i16 | .u16, .u16 => true
  | _, _ => false

def ile (x y : Int) : Bool :=
  match x, y with
  | .ofNat a, .ofNat b => Nat.ble a b
  | .negSucc a, .negSucc b => Nat.ble b a
  | .ofNat _, .negSucc _ => false
  | .negSucc _, .ofNat _ => true
def ieq (x y : Int) : Bool :=
  match x, y with
  | .ofNat a, .ofNat b => Nat.beq a b
  | .negSucc a, .negSucc b => Nat.beq a b
  | _, _ => false

noncomputable def intOp (op : BinOp) (k : IntKind) (x y : Int) (K : V → M) : M :=
  match op with
  | .add => K (.i k (wrap k (x + y)))
  | .sub => K (.i k (wrap k (x - y)))
  | .mul => K (.i k (wrap k (x * y)))
  | .quo => bif ieq y 0 then .fail else K (.i k (wrap k (x.tdiv y)))
  | .rem => bif ieq y 0 then .fail else K (.i k (x.tmod y))
  | .and => K (.i k (wrap k (.ofNat (nat k x &&& nat k y))))
  | .or => K (.i k (wrap k (.ofNat (nat k x ||| nat k y))))
  | .xor => K (.i k (wrap k (.ofNat (nat k x ^^^ nat k y))))
  | .eql => K (.b (ieq x y))
  | .neq => K (.b (!ieq x y))
  | .lss => K (.b (!ile y x))
  | .leq => K (.b (ile x y))
  | .gtr => K (.b (!ile x y))
  | .geq => K (.b (ile y x))
  | _ => .fail

noncomputable def shiftOp (op : BinOp) (k : IntKind) (x y : Int) (K : V → M) : M :=
  match op, y with
  | .shl, .ofNat n => K (.i k (wrap k (x * .ofNat (1 <<< (Nat.min n (bitsOf k))))))
  | .shr, .ofNat n => K (.i k (x.fdiv (.ofNat (1 <<< (Nat.min n (bitsOf k))))))
  | _, _ => .fail

/-- Texts held against one another: 0: one; 1: the first is ahead; 2: behind. -/
noncomputable def cmpL (a : List Nat) : List Nat → Nat :=
  List.rec (motive := fun _ => List Nat → Nat) (fun b => List.rec 0 (fun _ _ _ => 1) b)
    (fun x _ ih b => List.rec 2 (fun y b _ => Bool.rec (Bool.rec 2 1 (Nat.blt x y)) (ih b) (Nat.beq x y)) b) a
theorem cmpL_nil_nil : cmpL [] [] = 0 := rfl
theorem cmpL_nil_cons (y b) : cmpL [] (y :: b) = 1 := rfl
theorem cmpL_cons_nil (x a) : cmpL (x :: a) [] = 2 := rfl
theorem cmpL_cons_cons (x a y b) : cmpL (x :: a) (y :: b) = bif Nat.beq x y then cmpL a b else bif Nat.blt x y then 1 else 2 := by
  show (Bool.rec (Bool.rec 2 1 (Nat.blt x y)) (cmpL a b) (Nat.beq x y) : Nat) = _
  cases Nat.beq x y <;> cases Nat.blt x y <;> rfl

noncomputable def strOp (op : BinOp) (a b : List Nat) (K : V → M) : M :=
  match op with
  | .add => bif Nat.ble (a.length + b.length) 1073741824 then K (.s (a ++ b)) else .fail
  | .eql => K (.b (Nat.beq (cmpL a b) 0))
  | .neq => K (.b (!Nat.beq (cmpL a b) 0))
  | .lss => K (.b (Nat.beq (cmpL a b) 1))
  | .leq => K (.b (!Nat.beq (cmpL a b) 2))
  | .gtr => K (.b (Nat.beq (cmpL a b) 2))
  | .geq => K (.b (!Nat.beq (cmpL a b) 1))
  | _ => .fail

/-- A part of cells. -/
def partV (fi : TI) (l : List V) (o : Nat) : V := bif fi.agg then .ag ((l.drop o).take fi.size) else l.getD o .u

def both (a b : Option Bool) : Option Bool := match a with | some true => b | x => x

/-- '==' of two values of a type, a level. -/
noncomputable def aeqStep (T : Tr TI) (ih : Nat → V → V → Option Bool) (t : Nat) (x y : V) : Option Bool :=
    match T.get t with
    | none => none
    | some ti => match ti.d, x, y with
      | .bool, .b a, .b b => some (a == b)
      | .int _, .i k a, .i k' b => bif ikEq k k' then some (ieq a b) else none
      | .str, .s a, .s b => some (Nat.beq (cmpL a b) 0)
      | .ptr _, .p0, .p0 => some true
      | .ptr _, .p0, .p _ _ => some false
      | .ptr _, .p _ _, .p0 => some false
      | .slice _ _ _, .sl0, .sl0 => some true
      | .slice _ _ _, .sl0, .sl _ _ _ _ => some false
      | .slice _ _ _, .sl _ _ _ _, .sl0 => some false
      | .map _ _, .m0, .m0 => some true
      | .map _ _, .m0, .m _ => some false
      | .map _ _, .m _, .m0 => some false
      | .func, .nf, .nf => some true
      | .func, .nf, .f _ _ _ => some false
      | .func, .f _ _ _, .nf => some false
      | .iface, .ni, .ni => some true
      | .iface, .ni, .if_ _ _ => some false
      | .iface, .if_ _ _, .ni => some false
      | .struct fs, .ag a, .ag b => List.rec (some true) (fun f _ r => match T.get f.2 with
          | none => none
          | some fi => both (ih f.2 (partV fi a f.1) (partV fi b f.1)) r) fs
      | .arr n e sz, .ag a, .ag b => match T.get e with
          | none => none
          | some fi => Nat.rec (motive := fun _ => Nat → Option Bool) (fun _ => some true) (fun _ r o =>
              both (ih e (partV fi a o) (partV fi b o)) (r (o + sz))) n 0
      | _, _, _ => none

noncomputable def aeq (T : Tr TI) (fuel : Nat) : Nat → V → V → Option Bool :=
  Nat.rec (motive := fun _ => Nat → V → V → Option Bool) (fun _ _ _ => none) (fun _ ih => aeqStep T ih) fuel
theorem aeq_zero (T t x y) : aeq T 0 t x y = none := rfl
theorem aeq_succ (T f t x y) : aeq T (f + 1) t x y = aeqStep T (aeq T f) t x y := rfl

/-- Does '==' of such values ask nothing of interfaces? -/
noncomputable def eqFree (T : Tr TI) (t : Nat) (x : V) : Bool :=
  match x with
  | .ag _ => (match T.get t with | some ti => !ti.eqg | none => false)
  | _ => true

def kmin (k : IntKind) : Int := match k with | .i64 => -9223372036854775808 | .i32 => -2147483648 | .i16 => -32768 | .i8 => -128 | _ => 0
def kmax (k : IntKind) : Int := match k with | .i64 => 9223372036854775807 | .i32 => 2147483647 | .i16 => 32767 | .i8 => 127 | .u64 => 18446744073709551615 | .u32 => 4294967295 | .u16 => 65535 | .u8 => 255
noncomputable def qFit (k : IntKind) (lo hi : Int) (K : V → M) : M := bif ile (kmin k) lo && ile hi (kmax k) then K (.q k lo hi 1 0) else .fail

/-- Numbers between a and b (of rest r by m), and between c and d. -/
noncomputable def qOp (op : BinOp) (k : IntKind) (a b c d : Int) (m r : Nat) (K : V → M) : M :=
  match op with
  | .add => qFit k (a + c) (b + d) K
  | .sub => qFit k (a - d) (b - c) K
  | .rem => bif ieq c d && (ile 1 c && ile 0 a) then (bif ieq c (.ofNat m) then K (.i k (.ofNat r)) else K (.q k 0 c 1 0)) else .fail
  | .eql => bif !ile a d || !ile c b then K (.b false) else .fail
  | .neq => bif !ile a d || !ile c b then K (.b true) else .fail
  | .lss => bif !ile c b then K (.b true) else bif ile d a then K (.b false) else .fail
  | .leq => bif ile b c then K (.b true) else bif !ile a d then K (.b false) else .fail
  | .gtr => bif !ile a d then K (.b true) else bif ile b c then K (.b false) else .fail
  | .geq => bif ile d a then K (.b true) else bif !ile c b then K (.b false) else .fail
  | _ => .fail

def isC (o : Operand) : Bool := match o with | .const _ => true | _ => false
def notNi (x y : V) : Bool := match x, y with | .ni, .ni => false | _, _ => true

noncomputable def aBin (T : Tr TI) (cst : Bool) (op : BinOp) (t : Nat) (x y : V) (K : V → M) : M :=
  match x, y with
  | .i k a, .i k' b => (match op with
      | .shl => shiftOp .shl k a b K
      | .shr => shiftOp .shr k a b K
      | op => bif ikEq k k' then intOp op k a b K else .fail)
  | .s a, .s b => strOp op a b K
  | .q k a b m r, .i k' c => bif ikEq k k' then qOp op k a b c c m r K else .fail
  | .i k a, .q k' c d _ _ => bif ikEq k k' then qOp op k a a c d 1 0 K else .fail
  | .q k a b m r, .q k' c d _ _ => bif ikEq k k' then qOp op k a b c d m r K else .fail
  | x, y => bif eqFree T t x && (cst || notNi x y) then (match op with
      | .eql => (match aeq T 100 t x y with | some r => K (.b r) | none => .fail)
      | .neq => (match aeq T 100 t x y with | some r => K (.b (!r)) | none => .fail)
      | _ => .fail) else .fail

noncomputable def aUn (op : UnOp) (x : V) (K : V → M) : M :=
  match op, x with
  | .not, .b x => K (.b (!x))
  | .neg, .i k n => K (.i k (wrap k (0 - n)))
  | .xor, .i k n => K (.i k (wrap k (.ofNat (((1 <<< bitsOf k) - 1) ^^^ nat k n))))
  | _, _ => .fail

/-- The bytes of cells. -/
noncomputable def asBytes (l : List V) : Option (List Nat) :=
  List.rec (some []) (fun v _ r => match v, r with
    | .i .u8 (.ofNat n), some l => bif Nat.blt n 256 then some (n :: l) else none
    | _, _ => none) l

noncomputable def aConv (T : Tr TI) (src dst : Nat) (x : V) (K : V → M) : M :=
  match T.get src, T.get dst with
  | some s, some d => (match s.d, d.d, x with
      | .slice _ _ _, .slice e 1 _, .sl b o n cap => bif Nat.beq src dst then (match T.get e with
          | some ⟨.int .u8, _, _, _, _⟩ => .rd b fun q => (match q with | .cells _ _ _ _ _ _ => .wr b q (K (.sl b o n cap)) | _ => .fail)
          | _ => .fail) else .fail
      | _, .int k, .i _ n => K (.i k (wrap k n))
      | _, .int k, .q _ lo hi m r => bif ile (kmin k) lo && ile hi (kmax k) then K (.q k lo hi m r) else .fail
      | .str, .str, .s l => K (.s l)
      | .str, .slice e 1 _, .s l => (match T.get e with
          | some ⟨.int .u8, _, _, _, _⟩ => .al (.cells e l.length 1 false [.i .u8 0] (Tr.lay (l.map fun n => V.i .u8 (.ofNat n)) 0 .l)) fun b => K (.sl b 0 l.length none)
          | _ => .fail)
      | .slice e 1 _, .str, x => (match T.get e with
          | some ⟨.int .u8, _, _, _, _⟩ => (match x with
              | .sl0 => K (.s [])
              | .sl b o n _ => .rd b fun q => (match q with
                  | .cells _ m _ _ z c => bif Nat.ble (o + n) m then (match asBytes (cellsFrom z c n o) with | some l => K (.s l) | none => .fail) else .fail
                  | _ => .fail)
              | _ => .fail)
          | _ => .fail)
      | _, _, _ => .fail)
  | _, _ => .fail

/-- A value of cells laid into others. -/
def over (cs : List V) (off : Nat) (x : List V) : List V := cs.take off ++ (x ++ cs.drop (off + x.length))

noncomputable def fill (place : Nat → Option (Nat × Nat)) (K : List V → M) (parts : List (Nat × V)) : List V → M :=
  List.rec (motive := fun _ => List V → M) (fun cs => K cs) (fun p _ ih cs =>
    match place p.1 with
    | none => .fail
    | some (off, size) => p.2.cells fun l => bif Nat.beq l.length size && Nat.ble (off + size) cs.length then ih (over cs off l) else .fail) parts

def mkV (agg : Bool) (l : List V) : V := bif agg then .ag l else (match l with | v :: _ => v | [] => .u)

noncomputable def aBuild (T : Tr TI) (t : Nat) (parts : List (Nat × V)) (K : V → M) : M :=
  match T.get t with
  | none => .fail
  | some ti => match ti.d with
    | .struct fs => fill (fun i => match fs[i]? with
          | some (o, ft) => (match T.get ft with | some fi => some (o, fi.size) | none => none)
          | none => none) (fun l => K (.ag l)) parts ti.zero
    | .arr _ _ sz => fill (fun i => some (i * sz, sz)) (fun l => K (.ag l)) parts ti.zero
    | _ => .fail

noncomputable def aBuildSlice (T : Tr TI) (t len : Nat) (parts : List (Nat × V)) (K : V → M) : M :=
  match T.get t with
  | none => .fail
  | some ti => match ti.d with
    | .slice e sz _ => (match T.get e with
        | none => .fail
        | some ei => bif Nat.ble (len * sz) 16777216 then
            fill (fun i => some (i * sz, sz)) (fun l => .al (.cells e (len * sz) sz true ei.zero (Tr.lay l 0 .l)) fun b => K (.sl b 0 len (some len))) parts (List.replicate len ei.zero).flatten else .fail)
    | _ => .fail

noncomputable def aLoad (T : Tr TI) (t : Nat) (a : V) (K : V → M) : M :=
  match a, T.get t with
  | .p b o, some ti => .rd b fun q => (match q with
      | .cells _ n _ _ z c => bif Nat.ble (o + ti.size) n then K (bif ti.agg then .ag (cellsFrom z c ti.size o) else cell z c o) else .fail
      | _ => .fail)
  | _, _ => .fail

noncomputable def aStore (T : Tr TI) (t : Nat) (a x : V) (K : V → M) : M :=
  match a, T.get t with
  | .p b o, some ti => .rd b fun q => (match q with
      | .cells e n sz ex z c => x.cells fun l => bif Nat.ble (o + ti.size) n && Nat.beq l.length ti.size then .wr b (.cells e n sz ex z (Tr.lay l o c)) (K (.tu [])) else .fail
      | _ => .fail)
  | _, _ => .fail

noncomputable def aField (T : Tr TI) (t : Nat) (x : V) (f : Nat) (K : V → M) : M :=
  match x, T.get t with
  | .ag l, some ⟨.struct fs, _, _, _, _⟩ => (match fs[f]? with
      | some (o, ft) => (match T.get ft with
          | some fi => bif Nat.ble (o + fi.size) l.length then K (partV fi l o) else .fail
          | none => .fail)
      | none => .fail)
  | _, _ => .fail

noncomputable def aFieldAddr (T : Tr TI) (t : Nat) (x : V) (f : Nat) (K : V → M) : M :=
  match x, T.get t with
  | .p b o, some ⟨.struct fs, _, _, _, _⟩ => (match fs[f]? with
      | some (off, ft) => (match T.get ft with
          | some fi => bif Nat.beq fi.size 0 then .fail else K (.p b (o + off))
          | none => .fail)
      | none => .fail)
  | _, _ => .fail

noncomputable def aIndexAddr (T : Tr TI) (t : Nat) (x ix : V) (K : V → M) : M :=
  match x, ix, T.get t with
  | .sl b o len _, .i _ (.ofNat i), some ⟨.slice _ sz _, _, _, _, _⟩ => bif Nat.blt i len then K (.p b (o + i * sz)) else .fail
  | .slq b o lo _, .i _ (.ofNat i), some ⟨.slice _ sz _, _, _, _, _⟩ => bif Nat.blt i lo then K (.p b (o + i * sz)) else .fail
  | .p b o, .i _ (.ofNat i), some ⟨.arr n _ sz, _, _, _, _⟩ => bif Nat.blt i n then K (.p b (o + i * sz)) else .fail
  | _, _, _ => .fail

noncomputable def aIndex (T : Tr TI) (t : Nat) (x ix : V) (K : V → M) : M :=
  match x, ix, T.get t with
  | .s l, .i _ (.ofNat i), some ⟨.str, _, _, _, _⟩ => (match l[i]? with | some n => K (.i .u8 (.ofNat n)) | none => .fail)
  | .ag l, .i _ (.ofNat i), some ⟨.arr n e sz, _, _, _, _⟩ => bif Nat.blt i n && Nat.ble (i * sz + sz) l.length then (match T.get e with
      | some ei => K (partV ei l (i * sz))
      | none => .fail) else .fail
  | _, _, _ => .fail

noncomputable def aMakeSlice (T : Tr TI) (t : Nat) (l c : V) (K : V → M) : M :=
  match l, c, T.get t with
  | .i _ (.ofNat l), .i _ (.ofNat c), some ⟨.slice e sz eb, _, _, _, _⟩ => (match T.get e with
      | some ei => bif Nat.ble l c && Nat.ble (c * eb) 1099511627776 && Nat.ble c 1099511627776 then .al (.cells e (c * sz) sz true (zp ei.zero) .l) fun b => K (.sl b 0 l (some c)) else .fail
      | none => .fail)
  | _, _, _ => .fail

/-- A row of so many as isn't known. -/
noncomputable def aMakeSliceQ (T : Tr TI) (t : Nat) (x : V) (K : V → M) : M :=
  match x, T.get t with
  | .q _ (.ofNat lo) (.ofNat hi) _ _, some ⟨.slice e sz eb, _, _, _, _⟩ => (match T.get e with
      | some ei => bif Nat.ble (hi * eb) 1099511627776 && Nat.ble hi 1099511627776 then .al (.cells e (lo * sz) sz false (zp ei.zero) .l) fun b => K (.slq b 0 lo hi) else .fail
      | none => .fail)
  | _, _ => .fail

def sameTmp (a b : Operand) : Bool := match a, b with | .tmp m, .tmp n => Nat.beq m n | _, _ => false
def isQ (x : V) : Bool := match x with | .q _ _ _ _ _ => true | .slq _ _ _ _ => true | _ => false

def natOf (v : Option V) (d : Nat) (K : Nat → M) : M :=
  match v with
  | none => K d
  | some (.i _ (.ofNat n)) => K n
  | _ => .fail

/-- A block's elements have so many cells. -/
noncomputable def ofSize (b sz : Nat) (K : M) : M := .rd b fun q => match q with | .cells _ _ sz' _ _ _ => bif Nat.beq sz sz' then K else .fail | _ => .fail

noncomputable def aSliceL (T : Tr TI) (t : Nat) (x : V) (l : Nat) (hi mx : Option V) (K : V → M) : M :=
  match x, T.get t with
  | .s s, some ⟨.str, _, _, _, _⟩ => (match mx with
      | some _ => .fail
      | none => natOf hi s.length fun h => bif Nat.ble l h && Nat.ble h s.length then K (.s ((s.drop l).take (h - l))) else .fail)
  | .sl0, some ⟨.slice _ _ _, _, _, _, _⟩ => natOf hi 0 fun h => natOf mx 0 fun m => bif Nat.beq l 0 && (Nat.beq h 0 && Nat.beq m 0) then K .sl0 else .fail
  | .sl b o len cap, some ⟨.slice _ sz _, _, _, _, _⟩ => (match cap with
      | some c => natOf hi len fun h => natOf mx c fun m => bif Nat.ble l h && (Nat.ble h m && Nat.ble m c) then K (.sl b (bif Nat.beq m l then o else o + l * sz) (h - l) (some (m - l))) else .fail
      | none => (match mx with
          | none => natOf hi len fun h => bif Nat.ble l h && Nat.ble h len then ofSize b sz (K (.sl b (o + l * sz) (h - l) none)) else .fail
          | some m => natOf hi len fun h => natOf (some m) 0 fun m => bif Nat.ble l h && (Nat.ble h m && (Nat.ble m len && Nat.blt 0 len)) then K (.sl b (bif Nat.beq m l then o else o + l * sz) (h - l) (some (m - l))) else .fail))
  | .p b o, some ⟨.arr n _ sz, _, _, _, _⟩ => natOf hi n fun h => natOf mx n fun m => bif Nat.ble l h && (Nat.ble h m && Nat.ble m n) then K (.sl b (bif Nat.beq m l then o else o + l * sz) (h - l) (some (m - l))) else .fail
  | _, _ => .fail

noncomputable def aSlice (T : Tr TI) (t : Nat) (x : V) (lo hi mx : Option V) (K : V → M) : M :=
  bif mx.isSome && hi.isNone then .fail else natOf lo 0 fun l => aSliceL T t x l hi mx K

/-- Is a type one of whose values '==' asks nothing but numbers, texts, bools? -/
noncomputable def keyOk (T : Tr TI) (t : Nat) (key : V) : Bool :=
  match T.get t with
  | some ⟨.int _, _, _, _, _⟩ | some ⟨.str, _, _, _, _⟩ => true
  | some ⟨.arr n e sz, _, _, _, _⟩ => (match T.get e, key with
      | some ⟨.int _, _, _, _, _⟩, .ag l => Nat.beq sz 1 && Nat.ble n l.length
      | _, _ => false)
  | _ => false

noncomputable def sameB (a b : V) : Bool :=
  match a, b with
  | .i k x, .i k' y => ikEq k k' && ieq x y
  | .s l, .s m => Nat.beq (cmpL l m) 0
  | _, _ => false

noncomputable def sameL (l : List V) : List V → Bool :=
  List.rec (motive := fun _ => List V → Bool) (fun m => match m with | [] => true | _ => false)
    (fun a _ ih m => match m with | b :: m => bif sameB a b then ih m else false | [] => false) l

noncomputable def sameV (a b : V) : Bool :=
  match a, b with
  | .ag l, .ag m => sameL l m
  | a, b => sameB a b

/-- The place of a key, and what stands there; 'none': it can't be told. -/
noncomputable def findE (T : Tr TI) (kt : Nat) (key : V) (es : List (V × V × Nat)) : Nat → Option (Option (Nat × V × Nat)) :=
  List.rec (motive := fun _ => Nat → Option (Option (Nat × V × Nat))) (fun _ => some none)
    (fun e _ ih i => match aeq T 100 kt key e.1 with
      | some true => bif sameV key e.1 then some (some (i, e.2)) else none
      | some false => ih (i + 1)
      | none => none) es

noncomputable def onMap (T : Tr TI) (t : Nat) (m key : V) (K : Nat → Nat → TI → Nat → List (V × V × Nat) → Nat → M) : M :=
  match m, T.get t with
  | .m b, some ⟨.map kt et, _, _, _, _⟩ => (match T.get et with
      | some ei => bif keyOk T kt key then .rd b fun q => (match q with | .map es clock => K b kt ei et es clock | _ => .fail) else .fail
      | none => .fail)
  | _, _ => .fail

noncomputable def aLookup (T : Tr TI) (t : Nat) (x key : V) (ok : Bool) (K : V → M) : M :=
  match x with
  | .m0 => (match T.get t with
      | some ⟨.map kt et, _, _, _, _⟩ => (match T.get et with
          | some ei => bif keyOk T kt key then K (bif ok then .tu [mkV ei.agg ei.zero, .b false] else mkV ei.agg ei.zero) else .fail
          | none => .fail)
      | _ => .fail)
  | x => onMap T t x key fun _ kt ei _ es _ => match findE T kt key es 0 with
      | none => .fail
      | some (some (_, v, _)) => K (bif ok then .tu [v, .b true] else v)
      | some none => K (bif ok then .tu [mkV ei.agg ei.zero, .b false] else mkV ei.agg ei.zero)

noncomputable def aMapUpdate (T : Tr TI) (t : Nat) (m key v : V) (K : V → M) : M :=
  onMap T t m key fun b kt _ _ es clock => match findE T kt key es 0 with
    | none => .fail
    | some (some (i, _, born)) => .wr b (.map (es.set i (key, v, born)) clock) (K (.tu []))
    | some none => .wr b (.map (es ++ [(key, v, clock)]) (clock + 1)) (K (.tu []))

noncomputable def aMapEntry (T : Tr TI) (t : Nat) (m key : V) (K : V → M) : M :=
  onMap T t m key fun b kt ei _ es clock => match findE T kt key es 0 with
    | none => .fail
    | some (some (i, v, born)) => .wr b (.map (es.set i (key, v, born)) clock) (K (.tu [v, .i .i64 (.ofNat born)]))
    | some none => .wr b (.map (es ++ [(key, mkV ei.agg ei.zero, clock)]) (clock + 1)) (K (.tu [mkV ei.agg ei.zero, .i .i64 (.ofNat clock)]))

noncomputable def putBorn (es : List (V × V × Nat)) (n : Nat) (v : V) : Option (List (V × V × Nat)) :=
  List.rec none (fun e l r => bif Nat.beq e.2.2 n then some ((e.1, v, n) :: l) else r.map (e :: ·)) es

noncomputable def aEntryStore (m stamp v : V) (K : V → M) : M :=
  match m, stamp with
  | .m b, .i _ (.ofNat n) => .rd b fun q => (match q with
      | .map es clock => (match putBorn es n v with | some es => .wr b (.map es clock) (K (.tu [])) | none => .fail)
      | _ => .fail)
  | _, _ => .fail

noncomputable def aDelete (T : Tr TI) (t : Nat) (m key : V) (K : V → M) : M :=
  onMap T t m key fun b kt _ _ es clock => match findE T kt key es 0 with
    | none => .fail
    | some (some (i, _)) => .wr b (.map (es.eraseIdx i) clock) (K (.tu []))
    | some none => K (.tu [])

noncomputable def aRange (T : Tr TI) (t : Nat) (x : V) (K : V → M) : M :=
  match x, T.get t with
  | .s l, some ⟨.str, _, _, _, _⟩ => .al (.siter l 0) fun b => K (.p b 0)
  | .m m, some ⟨.map _ _, _, _, _, _⟩ => .rd m fun q => (match q with | .map _ clock => .al (.miter (some m) clock [] clock) fun b => K (.p b 0) | _ => .fail)
  | .m0, some ⟨.map _ _, _, _, _, _⟩ => .al (.miter none 0 [] 0) fun b => K (.p b 0)
  | _, _ => .fail

def unseen (seen : List Nat) (es : List (V × V × Nat)) : List (V × V × Nat) := es.filter fun e => !seen.contains e.2.2

noncomputable def aNext (x : V) (str : Bool) (K : V → M) : M :=
  match x with
  | .p r 0 => .rd r fun q => (match q, str with
      | .siter s pos, true => (match s[pos]? with
          | none => K (.tu [.b false])
          | some c => bif Nat.blt c 128 then .wr r (.siter s (pos + 1)) (K (.tu [.b true, .i .i64 (.ofNat pos), .i .i32 (.ofNat c)])) else .fail)
      | .miter none _ _ _, false => K (.tu [.b false])
      | .miter (some m) since seen last, false => .rd m fun q => (match q with
          | .map es clock => bif !seen.isEmpty && !es.isEmpty && es.all (fun e => Nat.ble last e.2.2) then .fail else
            (match unseen seen es with
            | [] => K (.tu [.b false])
            | [e] => bif Nat.blt e.2.2 since then .wr r (.miter (some m) since (seen ++ [e.2.2]) clock) (K (.tu [.b true, e.1, e.2.1])) else .fail
            | _ => .fail)
          | _ => .fail)
      | _, _ => .fail)
  | _ => .fail

noncomputable def aEntry (x : V) (K : V → M) : M :=
  match x with
  | .p r 0 => .rd r fun q => (match q with
      | .miter (some m) _ seen stepped => (match seen.getLast? with
          | none => .fail
          | some st => .rd m fun q => (match q with
              | .map es clock => bif Nat.beq clock stepped then (match es.find? (fun e => Nat.beq e.2.2 st) with | some e => K (.tu [e.1, e.2.1]) | none => .fail) else .fail
              | _ => .fail))
      | _ => .fail)
  | _ => .fail

/-- The first cells of a slice, or a text. -/
noncomputable def firstC (sz n : Nat) (x : V) (K : List V → M) : M :=
  match x with
  | .sl0 => K []
  | .sl b o _ _ => bif Nat.beq n 0 then K [] else .rd b fun q => (match q with
      | .cells _ m _ _ z c => bif Nat.ble (o + n * sz) m then K (cellsFrom z c (n * sz) o) else .fail
      | _ => .fail)
  | .s l => bif Nat.beq sz 1 then K ((l.take n).map fun n => V.i .u8 (.ofNat n)) else .fail
  | _ => .fail

def lenV (x : V) : Option Nat := match x with | .sl0 => some 0 | .sl _ _ n _ => some n | .s l => some l.length | _ => none

noncomputable def appendC (e sz : Nat) (z : List V) (s : V) (n : Nat) (new : List V) (K : V → M) : M :=
  match s with
  | .sl0 => bif Nat.beq n 0 then K .sl0 else .al (.cells e (n * sz) sz false z (Tr.lay new 0 .l)) fun b => K (.sl b 0 n none)
  | .sl b o len cap => bif Nat.beq n 0 then K (.sl b o len cap) else .rd b fun q => (match q with
      | .cells e' m sz' ex z' c =>
        bif Nat.beq sz sz' && Nat.beq e e' then
        (match cap with
        | some cap => bif Nat.ble (len + n) cap
            then (bif Nat.ble (o + (len + n) * sz) m then .wr b (.cells e' m sz' ex z' (Tr.lay new (o + len * sz) c)) (K (.sl b o (len + n) (some cap))) else .fail)
            else (bif Nat.ble (o + len * sz) m then .al (.cells e ((len + n) * sz) sz false z (Tr.lay (cellsFrom z' c (len * sz) o ++ new) 0 .l)) fun b => K (.sl b 0 (len + n) none) else .fail)
        | none => bif Nat.ble (o + (len + n) * sz) m
            then (bif Nat.beq len 0 then .fail else .wr b (.cells e' m sz' ex z' (Tr.lay new (o + len * sz) c)) (K (.sl b o (len + n) none)))
            else (bif Nat.ble (o + len * sz) m then .wr b .dead (.al (.cells e ((len + n) * sz) sz false z (Tr.lay (cellsFrom z' c (len * sz) o ++ new) 0 .l)) fun b => K (.sl b 0 (len + n) none)) else .fail))
        else .fail
      | _ => .fail)
  | _ => .fail

noncomputable def aAppend (T : Tr TI) (ts : List Nat) (s x : V) (K : V → M) : M :=
  match ts with
  | t :: xt :: _ => (match T.get t, T.get xt with
      | some ⟨.slice e sz eb, _, _, _, _⟩, some xi => (match T.get e with
          | none => .fail
          | some ei => bif Nat.beq sz 0 || !Nat.ble eb 65536 || !Nat.ble 1 eb then .fail else (match xi.d, x with
              | .int _, .i _ (.ofNat n) => bif Nat.ble n 536870912 && Nat.ble ((lenV s).getD 0) 536870912 then
                  appendC e sz ei.zero s n (List.replicate n ei.zero).flatten K else .fail
              | .int _, _ => .fail
              | _, x => (match lenV x with
                  | none => .fail
                  | some n => bif Nat.ble n 536870912 && Nat.ble ((lenV s).getD 0) 536870912 then firstC sz n x fun new => appendC e sz ei.zero s n new K else .fail)))
      | _, _ => .fail)
  | _ => .fail

noncomputable def aCopy (T : Tr TI) (ts : List Nat) (d x : V) (K : V → M) : M :=
  match ts with
  | t :: _ => (match T.get t, lenV x, lenV d with
      | some ⟨.slice _ sz _, _, _, _, _⟩, some n, some m =>
        let n := Nat.min n m
        firstC sz n x fun new => (match d with
          | .sl0 => K (.i .i64 0)
          | .sl b o _ _ => bif Nat.beq n 0 then K (.i .i64 0) else .rd b fun q => (match q with
              | .cells e mm sz' ex z c => bif Nat.ble (o + n * sz) mm then .wr b (.cells e mm sz' ex z (Tr.lay new o c)) (K (.i .i64 (.ofNat n))) else .fail
              | _ => .fail)
          | _ => .fail)
      | _, _, _ => .fail)
  | _ => .fail

noncomputable def aLen (T : Tr TI) (ts : List Nat) (x : V) (K : V → M) : M :=
  match ts with
  | t :: _ => (match T.get t with
      | some ti => (match ti.d, x with
          | .str, .s l => K (.i .i64 (.ofNat l.length))
          | .arr n _ _, _ => K (.i .i64 (.ofNat n))
          | .slice _ _ _, .sl0 => K (.i .i64 0)
          | .slice _ _ _, .sl _ _ n _ => K (.i .i64 (.ofNat n))
          | .slice _ _ _, .slq _ _ lo hi => K (.q .i64 (.ofNat lo) (.ofNat hi) 1 0)
          | .map _ _, .m0 => K (.i .i64 0)
          | .map _ _, .m b => .rd b fun q => (match q with | .map es _ => K (.i .i64 (.ofNat es.length)) | _ => .fail)
          | _, _ => .fail)
      | none => .fail)
  | _ => .fail

noncomputable def aClear (T : Tr TI) (ts : List Nat) (x : V) (K : V → M) : M :=
  match ts with
  | t :: _ => (match T.get t, x with
      | some ⟨.slice _ _ _, _, _, _, _⟩, .sl0 => K (.tu [])
      | some ⟨.slice e sz _, _, _, _, _⟩, .sl b o n _ => bif Nat.beq n 0 then K (.tu []) else (match T.get e with
          | some ei => .rd b fun q => (match q with
              | .cells e mm sz' ex z c => bif Nat.ble (o + n * sz) mm then .wr b (.cells e mm sz' ex z (Tr.lay (List.replicate n ei.zero).flatten o c)) (K (.tu [])) else .fail
              | _ => .fail)
          | none => .fail)
      | _, _ => .fail)
  | _ => .fail

noncomputable def aMinMax (min : Bool) (l : List V) (K : V → M) : M :=
  match l with
  | [.i k x, .i _ y] => K (.i k (bif min then (bif ile x y then x else y) else (bif ile y x then x else y)))
  | [.q k a b _ _, .i _ y] => (bif min
      then (bif ile y a then K (.i k y) else bif ile b y then K (.q k a b 1 0) else K (.q k a y 1 0))
      else (bif ile b y then K (.i k y) else bif ile y a then K (.q k a b 1 0) else K (.q k y b 1 0)))
  | _ => .fail

noncomputable def aBuiltin (T : Tr TI) (b : Builtin) (ts : List Nat) (args : List V) (K : V → M) : M :=
  match b, args with
  | .len, x :: _ => aLen T ts x K
  | .append, s :: x :: _ => aAppend T ts s x K
  | .copy, d :: x :: _ => aCopy T ts d x K
  | .min, l => aMinMax true l K
  | .max, l => aMinMax false l K
  | .clear, x :: _ => aClear T ts x K
  | .delete, m :: k :: _ => (match ts with | t :: _ => aDelete T t m k K | [] => .fail)
  | _, _ => .fail

/-- An operation that calls nothing. -/
noncomputable def aop (T : Tr TI) (ρ : Operand → V) (op : Op) (K : V → M) : M :=
  match op with
  | .move x => K (ρ x)
  | .assign x => K (ρ x)
  | .pick c a b => (match ρ c with | .b x => K (bif x then ρ a else ρ b) | _ => .fail)
  | .alloc t => (match T.get t with
      | some ti => .al (.cells t ti.size ti.size true (zp ti.zero) .l) fun b => K (.p b 0)
      | none => .fail)
  | .box t x => (ρ x).cells fun l => .al (.cells t l.length l.length true [] (Tr.lay l 0 .l)) fun b => K (.p b 0)
  | .build t parts => aBuild T t (parts.toList.map fun p => (p.1, ρ p.2)) K
  | .buildSlice t n parts => aBuildSlice T t n (parts.toList.map fun p => (p.1, ρ p.2)) K
  | .load t a => aLoad T t (ρ a) K
  | .store t a x => aStore T t (ρ a) (ρ x) K
  | .nilCheck x => (match ρ x with | .p b o => K (.p b o) | _ => .fail)
  | .binOp op t x y _ => aBin T (isC x || isC y) op t (ρ x) (ρ y) K
  | .unOp op _ x => aUn op (ρ x) K
  | .convert s d x => aConv T s d (ρ x) K
  | .makeInterface t x => (match T.get t with
      | some ⟨.iface, _, _, _, _⟩ => .fail
      | some _ => K (.if_ t (ρ x))
      | none => .fail)
  | .makeFunc fn a c => (match fn with | .yield _ => .fail | fn => K (.f fn (a.toList.map ρ) (c.toList.map ρ)))
  | .makeMap t r => (match T.get t, r with
      | some ⟨.map _ _, _, _, _, _⟩, none => .al (.map [] 0) fun b => K (.m b)
      | _, _ => .fail)
  | .makeSlice t l c => bif isQ (ρ l) && sameTmp l c then aMakeSliceQ T t (ρ l) K else aMakeSlice T t (ρ l) (ρ c) K
  | .slice t x lo hi mx => aSlice T t (ρ x) (lo.map ρ) (hi.map ρ) (mx.map ρ) K
  | .fieldAddr t x f => aFieldAddr T t (ρ x) f K
  | .field t x f => aField T t (ρ x) f K
  | .indexAddr t x i => aIndexAddr T t (ρ x) (ρ i) K
  | .index t x i => aIndex T t (ρ x) (ρ i) K
  | .lookup t x i ok => aLookup T t (ρ x) (ρ i) ok K
  | .mapUpdate t m k x => aMapUpdate T t (ρ m) (ρ k) (ρ x) K
  | .insert t m k x => aMapUpdate T t (ρ m) (ρ k) (ρ x) K
  | .mapEntry t m k => aMapEntry T t (ρ m) (ρ k) K
  | .entryStore _ m s x => aEntryStore (ρ m) (ρ s) (ρ x) K
  | .range t x => aRange T t (ρ x) K
  | .next x str => aNext (ρ x) str K
  | .entry x => aEntry (ρ x) K
  | .extract x i => (match ρ x with | .tu l => (match l[i]? with | some v => K v | none => .fail) | _ => .fail)
  | .call ⟨.builtin b, args, ts⟩ => aBuiltin T b ts.toList (args.toList.map ρ) K
  | _ => .fail
end Go.Ev
