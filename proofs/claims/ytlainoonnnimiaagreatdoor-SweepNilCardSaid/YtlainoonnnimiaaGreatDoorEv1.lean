/- THE ABSTRACT MACHINE, its data: values, blocks, computations over an abstract heap. Own work. -/
import GoSem.Step
set_option linter.all false
set_option linter.unusedVariables false
set_option linter.constructorNameAsVariable false
set_option linter.unnecessarySimpa false
set_option linter.unusedSimpArgs false
namespace Go.Ev

/-- Values of the abstract machine. 'u': nothing is known. Texts are lists of numbers below 256. A slice whose capacity is 'none': it isn't known. 'q': a number between two, of which the rest by m is known. 'slq': a slice whose length lies between two. -/
inductive V where
  | u
  | b (x : Bool)
  | i (k : IntKind) (n : Int)
  | s (l : List Nat)
  | p0
  | p (b o : Nat)
  | sl0
  | sl (b o len : Nat) (cap : Option Nat)
  | m0
  | m (b : Nat)
  | f (fn : Fn) (first cap : List V)
  | nf
  | ni
  | if_ (t : Nat) (x : V)
  | ag (l : List V)
  | tu (l : List V)
  | q (k : IntKind) (lo hi : Int) (m r : Nat)
  | slq (b o lo hi : Nat)

/-- A tree of things by numbers. -/
inductive Tr (α : Type) where
  | l
  | n (v : Option α) (a b : Tr α)

namespace Tr
variable {α : Type}

noncomputable def get (t : Tr α) : Nat → Option α :=
  Tr.rec (motive := fun _ => Nat → Option α) (fun _ => none)
    (fun v _ _ ga gb k => Nat.rec v (fun k _ => Bool.rec (gb (k / 2)) (ga (k / 2)) (Nat.beq (k % 2) 0)) k) t

noncomputable def one (f : Nat) (x : α) : Nat → Tr α :=
  Nat.rec (motive := fun _ => Nat → Tr α) (fun _ => .n (some x) .l .l)
    (fun _ ih k => Nat.rec (.n (some x) .l .l) (fun k _ => Bool.rec (.n none .l (ih (k / 2))) (.n none (ih (k / 2)) .l) (Nat.beq (k % 2) 0)) k) f

noncomputable def set (t : Tr α) (x : α) : Nat → Tr α :=
  Tr.rec (motive := fun _ => Nat → Tr α) (fun k => one k x k)
    (fun v a b sa sb k => Nat.rec (.n (some x) a b) (fun k _ => Bool.rec (.n v a (sb (k / 2))) (.n v (sa (k / 2)) b) (Nat.beq (k % 2) 0)) k) t

theorem get_l (k : Nat) : (Tr.l : Tr α).get k = none := rfl
theorem get_n0 (v : Option α) (a b : Tr α) : (Tr.n v a b).get 0 = v := rfl
theorem get_ns (v : Option α) (a b : Tr α) (k : Nat) : (Tr.n v a b).get (k + 1) = if k % 2 = 0 then a.get (k / 2) else b.get (k / 2) := by
  show (Bool.rec (b.get (k / 2)) (a.get (k / 2)) (Nat.beq (k % 2) 0) : Option α) = _
  by_cases h : k % 2 = 0
  · rw [h, if_pos rfl]; rfl
  · rw [if_neg h, show Nat.beq (k % 2) 0 = false from by rcases hb : Nat.beq (k % 2) 0 with _ | _; rfl; exact absurd (Nat.eq_of_beq_eq_true hb) h]

theorem one_zero (f : Nat) (x : α) : one f x 0 = .n (some x) .l .l := by cases f <;> rfl
theorem one_succ (f : Nat) (x : α) (k : Nat) : one (f + 1) x (k + 1) = if k % 2 = 0 then .n none (one f x (k / 2)) .l else .n none .l (one f x (k / 2)) := by
  show (Bool.rec (.n none .l (one f x (k / 2))) (.n none (one f x (k / 2)) .l) (Nat.beq (k % 2) 0) : Tr α) = _
  by_cases h : k % 2 = 0
  · rw [h, if_pos rfl]; rfl
  · rw [if_neg h, show Nat.beq (k % 2) 0 = false from by rcases hb : Nat.beq (k % 2) 0 with _ | _; rfl; exact absurd (Nat.eq_of_beq_eq_true hb) h]

theorem get_one (x : α) : ∀ (f k j : Nat), k ≤ f → (one f x k).get j = if j = k then some x else none := by
  intro f
  induction f with
  | zero =>
    intro k j h
    obtain rfl : k = 0 := by omega
    rw [one_zero]
    cases j with
    | zero => rfl
    | succ j => rw [get_ns]; simp [get_l]
  | succ f ih =>
    intro k j h
    cases k with
    | zero =>
      rw [one_zero]
      cases j with
      | zero => rfl
      | succ j => rw [get_ns]; simp [get_l]
    | succ k =>
      rw [one_succ]
      by_cases hk : k % 2 = 0
      · rw [if_pos hk]
        cases j with
        | zero => rw [get_n0, if_neg (by omega)]
        | succ j =>
          rw [get_ns]
          by_cases hj : j % 2 = 0
          · rw [if_pos hj, ih _ _ (by omega)]
            by_cases e : j = k
            · subst e; simp
            · rw [if_neg (by omega), if_neg (by omega)]
          · rw [if_neg hj, get_l, if_neg (by omega)]
      · rw [if_neg hk]
        cases j with
        | zero => rw [get_n0, if_neg (by omega)]
        | succ j =>
          rw [get_ns]
          by_cases hj : j % 2 = 0
          · rw [if_pos hj, get_l, if_neg (by omega)]
          · rw [if_neg hj, ih _ _ (by omega)]
            by_cases e : j = k
            · subst e; simp
            · rw [if_neg (by omega), if_neg (by omega)]

theorem set_l (x : α) (k : Nat) : (Tr.l : Tr α).set x k = one k x k := rfl
theorem set_n0 (v : Option α) (a b : Tr α) (x : α) : (Tr.n v a b).set x 0 = .n (some x) a b := rfl
theorem set_ns (v : Option α) (a b : Tr α) (x : α) (k : Nat) : (Tr.n v a b).set x (k + 1) = if k % 2 = 0 then .n v (a.set x (k / 2)) b else .n v a (b.set x (k / 2)) := by
  show (Bool.rec (.n v a (b.set x (k / 2))) (.n v (a.set x (k / 2)) b) (Nat.beq (k % 2) 0) : Tr α) = _
  by_cases h : k % 2 = 0
  · rw [h, if_pos rfl]; rfl
  · rw [if_neg h, show Nat.beq (k % 2) 0 = false from by rcases hb : Nat.beq (k % 2) 0 with _ | _; rfl; exact absurd (Nat.eq_of_beq_eq_true hb) h]

theorem get_set (t : Tr α) (x : α) : ∀ (k j : Nat), (t.set x k).get j = if j = k then some x else t.get j := by
  induction t with
  | l => intro k j; rw [set_l, get_one x k k j (Nat.le_refl _)]; simp [get_l]
  | n v a b iha ihb =>
    intro k j
    cases k with
    | zero =>
      rw [set_n0]
      cases j with
      | zero => rfl
      | succ j => rw [get_ns, get_ns, if_neg (by omega : ¬ j + 1 = 0)]
    | succ k =>
      rw [set_ns]
      cases j with
      | zero =>
        rw [if_neg (by omega : ¬ 0 = k + 1)]
        split <;> rfl
      | succ j =>
        rw [get_ns v a b]
        by_cases hk : k % 2 = 0
        · rw [if_pos hk, get_ns]
          by_cases hj : j % 2 = 0
          · rw [if_pos hj, if_pos hj, iha]
            by_cases e : j = k
            · subst e; simp
            · rw [if_neg (by omega), if_neg (by omega)]
          · rw [if_neg hj, if_neg hj, if_neg (by omega)]
        · rw [if_neg hk, get_ns]
          by_cases hj : j % 2 = 0
          · rw [if_pos hj, if_pos hj, if_neg (by omega)]
          · rw [if_neg hj, if_neg hj, ihb]
            by_cases e : j = k
            · subst e; simp
            · rw [if_neg (by omega), if_neg (by omega)]

/-- A list's things, from a number on. -/
noncomputable def lay (l : List α) : Nat → Tr α → Tr α :=
  List.rec (motive := fun _ => Nat → Tr α → Tr α) (fun _ t => t) (fun x _ ih k t => ih (k + 1) (t.set x k)) l

theorem lay_nil (k : Nat) (t : Tr α) : lay [] k t = t := rfl
theorem lay_cons (x : α) (l : List α) (k : Nat) (t : Tr α) : lay (x :: l) k t = lay l (k + 1) (t.set x k) := rfl
theorem get_lay (l : List α) : ∀ (k : Nat) (t : Tr α) (j : Nat), (lay l k t).get j = if k ≤ j ∧ j < k + l.length then l[j - k]? else t.get j := by
  induction l with
  | nil => intro k t j; rw [lay_nil, if_neg (by simp only [List.length_nil]; omega)]
  | cons x l ih =>
    intro k t j
    rw [lay_cons, ih, get_set]
    simp only [List.length_cons]
    by_cases h1 : k + 1 ≤ j ∧ j < k + 1 + l.length
    · rw [if_pos h1, if_pos (by omega), show j - k = (j - (k + 1)) + 1 from by omega, List.getElem?_cons_succ]
    · rw [if_neg h1]
      by_cases h2 : j = k
      · subst h2; rw [if_pos rfl, if_pos ⟨Nat.le_refl _, by omega⟩]; simp
      · rw [if_neg h2, if_neg (by omega)]
end Tr

/-- Blocks. 'cells': of an element type, so many cells known, so many cells an element; is nothing behind them? what stands where nothing was laid, again and again; what was laid. -/
inductive Blk where
  | dead
  | cells (t n sz : Nat) (ex : Bool) (z : List V) (c : Tr V)
  | map (es : List (V × V × Nat)) (clock : Nat)
  | siter (s : List Nat) (pos : Nat)
  | miter (m : Option Nat) (since : Nat) (seen : List Nat) (stepped : Nat)
  | loop (st : LoopState) (pend : Option Code) (fn nt : Nat) (tmps : Tr V) (params : List Nat) (assign body : Code) (defs : Nat)
  | defs (open_ : Bool)

/-- Computations. -/
inductive M where
  | ret (v : V)
  | fail
  | rd (b : Nat) (k : Blk → M)
  | wr (b : Nat) (x : Blk) (k : M)
  | al (x : Blk) (k : Nat → M)
  | sub (m : M) (k : V → Nat → Nat → M)

/-- What a computation comes to: a value, the heap, the next number; which blocks were read, which were written (bits). -/
structure Out where
  v : V
  h : Tr Blk
  c : Nat
  r : Nat
  w : Nat

/-- 'x or 2^b', and it is worked out at once. -/
def bit (x b : Nat) : Nat := x ||| (1 <<< b)

abbrev St := Tr Blk → Nat → Nat → Nat → Option Out

noncomputable def rdStep (b : Nat) (ih : Blk → St) (h : Tr Blk) (c r w : Nat) : Option Out :=
  Option.rec none (fun x => Bool.rec (ih x h c (bit r b) w) none (Nat.beq (bit r b) 0)) (h.get b)
noncomputable def wrStep (b : Nat) (x : Blk) (ih : St) (h : Tr Blk) (c r w : Nat) : Option Out :=
  Option.rec none (fun _ => Bool.rec (ih (h.set x b) c r (bit w b)) none (Nat.beq (bit w b) 0)) (h.get b)
noncomputable def alStep (x : Blk) (ih : Nat → St) (h : Tr Blk) (c r w : Nat) : Option Out :=
  Bool.rec (ih c (h.set x c) (c + 1) r w) none (Nat.beq (c + 1) 0)
/-- The bits from one on below another. -/
def span (a b : Nat) : Nat := ((1 <<< (b - a)) - 1) <<< a
noncomputable def subEnd (ih : V → Nat → Nat → St) (c₀ r w : Nat) (o : Option Out) : Option Out :=
  Option.rec none (fun o => Out.rec (fun v h c r' w' => Bool.rec (ih v r' (w' ||| span c₀ c) h c (r ||| r') (w ||| w')) none (Nat.beq ((w' ||| span c₀ c) + 1) 0)) o) o
noncomputable def subStep (m : St) (ih : V → Nat → Nat → St) (h : Tr Blk) (c r w : Nat) : Option Out := subEnd ih c r w (m h c 0 0)

noncomputable def run (m : M) : St :=
  M.rec (motive := fun _ => St) (fun v h c r w => some ⟨v, h, c, r, w⟩) (fun _ _ _ _ => none)
    (fun b _ ih => rdStep b ih) (fun b x _ ih => wrStep b x ih) (fun x _ ih => alStep x ih) (fun _ _ ihm ihk => subStep ihm ihk) m

theorem bit_ne (x b : Nat) : bit x b ≠ 0 := by
  intro h
  have : (bit x b).testBit b = false := by rw [h]; simp
  simp [bit, Nat.testBit_or, Nat.testBit_shiftLeft] at this
theorem bit_beq (x b : Nat) : Nat.beq (bit x b) 0 = false := by
  rcases hb : Nat.beq (bit x b) 0 with _ | _
  · rfl
  · exact absurd (Nat.eq_of_beq_eq_true hb) (bit_ne x b)
theorem bit_test (x b j : Nat) : (bit x b).testBit j = (x.testBit j || decide (j = b)) := by
  simp only [bit, Nat.testBit_or, Nat.testBit_shiftLeft]
  by_cases h : j = b
  · subst h; simp
  · rw [decide_eq_false h]
    by_cases hb : b ≤ j
    · have : Nat.testBit 1 (j - b) = false := by
        have h1 : j - b ≠ 0 := by omega
        rw [show (1 : Nat) = 2 ^ 0 from rfl, Nat.testBit_two_pow]; simp; omega
      simp [this]
    · simp [hb]

theorem span_test (a b j : Nat) : (span a b).testBit j = (decide (a ≤ j) && decide (j < b)) := by
  unfold span
  rw [Nat.testBit_shiftLeft, Nat.one_shiftLeft, Nat.testBit_two_pow_sub_one, Bool.eq_iff_iff]
  simp only [Bool.and_eq_true, decide_eq_true_eq]
  omega

theorem run_ret (v : V) (h c r w) : run (.ret v) h c r w = some ⟨v, h, c, r, w⟩ := rfl
theorem run_fail (h c r w) : run .fail h c r w = none := rfl
theorem run_rd (b k h c r w) : run (.rd b k) h c r w = match h.get b with | some x => run (k x) h c (bit r b) w | none => none := by
  show (Option.rec none (fun x => Bool.rec (run (k x) h c (bit r b) w) none (Nat.beq (bit r b) 0)) (h.get b) : Option Out) = _
  cases h.get b with
  | none => rfl
  | some x => simp only [bit_beq]
theorem run_wr (b x k h c r w) : run (.wr b x k) h c r w = match h.get b with | some _ => run k (h.set x b) c r (bit w b) | none => none := by
  show (Option.rec none (fun _ => Bool.rec (run k (h.set x b) c r (bit w b)) none (Nat.beq (bit w b) 0)) (h.get b) : Option Out) = _
  cases h.get b with
  | none => rfl
  | some x => simp only [bit_beq]
theorem run_al (x k h c r w) : run (.al x k) h c r w = run (k c) (h.set x c) (c + 1) r w := rfl
theorem run_sub (m k h c r w) : run (.sub m k) h c r w = match run m h c 0 0 with
    | some o => run (k o.v o.r (o.w ||| span c o.c)) o.h o.c (r ||| o.r) (w ||| o.w)
    | none => none := by
  show subEnd (fun v a b => run (k v a b)) c r w (run m h c 0 0) = _
  cases run m h c 0 0 with
  | none => rfl
  | some o => rfl
end Go.Ev
