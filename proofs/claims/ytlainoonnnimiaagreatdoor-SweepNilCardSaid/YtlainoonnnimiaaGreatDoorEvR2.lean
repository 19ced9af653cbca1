/- THE ABSTRACT MACHINE AND THE MODEL: a region whose operations come in any order, run. Own work. -/
import Derived.Test.YtlainoonnnimiaaGreatDoorEvR
set_option linter.all false
set_option linter.unusedVariables false
set_option linter.constructorNameAsVariable false
set_option linter.unnecessarySimpa false
set_option linter.unusedSimpArgs false
set_option linter.unusedSimpArgs false
set_option linter.unusedVariables false
namespace Go.Ev

theorem Way.widen {ι h c W w ι' h' c' W' w'} (p : Way ι h c W w ι' h' c' W' w') {c0 cn W0 Wn : Nat} (h1 : c0 ≤ c) (h2 : c' ≤ cn) (hW : ∀ b, W'.testBit b = true → Wn.testBit b = true) (h0 : ∀ b, W0.testBit b = true → Wn.testBit b = true) :
    Way ι h c0 W0 w ι' h' cn Wn w' where
  sim := p.sim
  le := p.le
  cle := by have := p.cle; omega
  new b e n := by have := p.new b e n; omega
  hnew b hb e := p.hnew b (by omega) e
  os := p.os
  tape := p.tape
  output := p.output
  size := p.size
  newblk b L e f := by
    rcases p.newblk b L e f with g | ⟨b0, L0, g1, g2, g3⟩
    · exact .inl g
    · exact .inr ⟨b0, L0, g1, g2, hW _ g3⟩
  keep k hk := by
    rcases p.keep k hk with g | ⟨b, L, g1, g2, g3⟩
    · exact .inl g
    · exact .inr ⟨b, L, g1, g2, hW _ g3⟩
  mono := h0

theorem Way.comp {ι h c0 W0 w ι1 h1 cn Wn w1 ι2 h2 w2} (p : Way ι h c0 W0 w ι1 h1 cn Wn w1) (q : Way ι1 h1 c0 W0 w1 ι2 h2 cn Wn w2) : Way ι h c0 W0 w ι2 h2 cn Wn w2 where
  sim := q.sim
  le := Ren.le_trans p.le q.le
  cle := p.cle
  new b e n := by
    cases h : ι1 b with
    | none => exact q.new b h n
    | some L => exact p.new b e (by rw [h]; simp)
  hnew b hb e := q.hnew b hb (p.hnew b hb e)
  os := q.os.trans p.os
  tape := q.tape.trans p.tape
  output := q.output.trans p.output
  size := Nat.le_trans p.size q.size
  newblk b L e f := by
    have hs := p.size
    cases h : ι1 b with
    | some L1 =>
      have := q.le b L1 h
      rw [f] at this; cases this
      exact p.newblk b L e h
    | none =>
      rcases q.newblk b L h f with g | ⟨b0, L0, g1, g2, g3⟩
      · exact .inl (by omega)
      · cases h0 : ι b0 with
        | some L0' =>
          have := p.le b0 L0' h0
          rw [g1] at this; cases this
          exact .inr ⟨b0, L0, h0, g2, g3⟩
        | none =>
          rcases p.newblk b0 L0 h0 g1 with k | ⟨b1, L1, k1, k2, k3⟩
          · exact .inl (by rw [← g2]; exact k)
          · exact .inr ⟨b1, L1, k1, k2.trans g2, k3⟩
  keep k hk := by
    have hs := p.size
    rcases q.keep k (by omega) with g | ⟨b, L, g1, g2, g3⟩
    · rcases p.keep k hk with g' | g'
      · exact .inl (g.trans g')
      · exact .inr g'
    · cases h : ι b with
      | some L' =>
        have := p.le b L' h
        rw [g1] at this; cases this
        exact .inr ⟨b, L, h, g2, g3⟩
      | none =>
        rcases p.newblk b L h g1 with g' | ⟨b0, L0, k1, k2, k3⟩
        · omega
        · exact .inr ⟨b0, L0, k1, k2.trans g2, k3⟩
  mono := p.mono

theorem Sim.ext {ι h h₂ w} (S : Sim ι h w) (e : ∀ b, h₂.get b = h.get b) : Sim ι h₂ w :=
  ⟨fun b x hx => S.blk b x (by rw [← e]; exact hx), fun b b' x x' L h1 h2 => S.inj b b' x x' L (by rw [← e]; exact h1) (by rw [← e]; exact h2)⟩

theorem Way.ext {ι h c W w ι' h' c' W' w'} (p : Way ι h c W w ι' h' c' W' w') {h₂ : Tr Blk} (e : ∀ b, h₂.get b = h'.get b) : Way ι h c W w ι' h₂ c' W' w' :=
  { p with sim := p.sim.ext e, hnew := fun b hb hn => by rw [e]; exact p.hnew b hb hn }

/-- The globals' names. -/
def Glob (ng : Nat) (ι : Ren) : Prop := ∀ g, g < ng → ∃ L, ι g = some L ∧ L.blk = g ∧ L.off = 0
theorem Glob.le {ng : Nat} {ι κ : Ren} (g : Glob ng ι) (h : ι.le κ) : Glob ng κ := fun b hb => let ⟨L, h1, h2⟩ := g b hb; ⟨L, h _ _ h1, h2⟩

/-- Temporaries, alike. -/
def TmR (ι : Ren) (tm : Tr V) (tmps : Array Value) : Prop := ∀ t v, tm.get t = some v → VR ι v (tmps.getD t undef)
theorem TmR.le {ι κ : Ren} {tm tmps} (h : TmR ι tm tmps) (k : ι.le κ) : TmR κ tm tmps := fun t v e => VR.le k _ _ (h t v e)

noncomputable def putT (dst : Option Nat) (v : V) (tm : Tr V) : Tr V := match dst with | some d => tm.set v d | none => tm
def putA (dst : Option Nat) (v : Value) (tmps : Array Value) : Array Value := match dst with | some d => tmps.setIfInBounds d v | none => tmps

theorem putA_size (dst v) (tmps : Array Value) : (putA dst v tmps).size = tmps.size := by cases dst <;> simp [putA]

def atReg (fr : Frame) (tmps : Array Value) (ops : Array Oper) (l : List Nat) (k : List Item) : Frame := { fr with tmps := tmps, todo := .inRegion ops l :: k }

theorem finish_atReg (fr : Frame) (tmps : Array Value) (ops : Array Oper) (i : Nat) (l : List Nat) (k : List Item) (v : Value) {o : Oper} (ho : ops[i]? = some o) :
    (atReg fr tmps ops (i :: l) k).finish v = atReg fr (putA o.dst v tmps) ops l k := by
  cases h : o.dst <;> simp [Frame.finish, atReg, putA, ho, h]

/-- One operation of a region by itself, and what the model does there. -/
def OpStep (P : Program) (T : Tab) (ih : Go) (ops : Array Oper) (nt : Nat) (fr : Frame) (k : List Item) (crs : List Frame) : Prop :=
  ∀ (i : Nat) (o : Oper) (rest : List Nat) (tmps : Array Value) (tm : Tr V) (ι : Ren) (h : Tr Blk) (c : Nat) (w : World) (out : Out), ops[i]? = some o → run (opM T ih ops.toList tm o) h c 0 0 = some out →
    Sim ι h w → Glob T.ng ι → Fresh ι h c out → TmR ι tm tmps → tmps.size = nt →
    ∃ v' ι' w', Steps P (lone (atReg fr tmps ops (i :: rest) k) crs w) (lone ((atReg fr tmps ops (i :: rest) k).finish v') crs w') ∧ VR ι' out.v v' ∧ Way ι h c 0 w ι' out.h out.c out.w w'

/-- A region's operations, one by one in the order of the text. -/
structure Text (T : Tab) (ih : Go) (ops : List Oper) (nt : Nat) where
  tmS : Nat → Tr V
  hS : Nat → Tr Blk
  cS : Nat → Nat
  oS : Nat → Out
  run_ : ∀ (j : Nat) (o : Oper), ops[j]? = some o → run (opM T ih ops (tmS j) o) (hS j) (cS j) 0 0 = some (oS j)
  h_ : ∀ j, j < ops.length → hS (j + 1) = (oS j).h
  c_ : ∀ j, j < ops.length → cS (j + 1) = (oS j).c
  t_ : ∀ (j : Nat) (o : Oper), ops[j]? = some o → tmS (j + 1) = putT o.dst (oS j).v (tmS j)
  d_ : ∀ (j : Nat) (o : Oper), ops[j]? = some o → ∀ d, o.dst = some d → d < nt
  m_ : okMasks ops ((List.range ops.length).map fun j => ((oS j).r, (oS j).w ||| span (cS j) (oS j).c)) = true

section
variable {P : Program} {T : Tab} {ih : Go} {ops : Array Oper} {nt : Nat}

def Text.rd (X : Text T ih ops.toList nt) (j b : Nat) : Prop := (X.oS j).r.testBit b = true
def Text.wr (X : Text T ih ops.toList nt) (j b : Nat) : Prop := (X.oS j).w.testBit b = true ∨ (X.cS j ≤ b ∧ b < (X.oS j).c)

theorem Text.mono (X : Text T ih ops.toList nt) : ∀ i j, i ≤ j → j ≤ ops.size → X.cS i ≤ X.cS j := by
  intro i j hij hj
  induction j with
  | zero => have : i = 0 := by omega
            subst this; exact Nat.le_refl _
  | succ j ihj =>
    rcases Nat.lt_or_ge i (j + 1) with h | h
    · have h1 := ihj (by omega) (by omega)
      have hjl : j < ops.toList.length := by simp; omega
      have := run_c_le _ (X.run_ j _ (List.getElem?_eq_getElem hjl))
      rw [X.c_ j hjl]; omega
    · have : i = j + 1 := by omega
      subst this; exact Nat.le_refl _

/-- What stays from one operation to a later one. -/
theorem Text.keep (X : Text T ih ops.toList nt) {i k : Nat} (hik : i ≤ k) (hk : k ≤ ops.size) {b : Nat} (hn : ∀ j, i ≤ j → j < k → ¬ X.wr j b) : (X.hS k).get b = (X.hS i).get b := by
  induction k with
  | zero => have : i = 0 := by omega
            subst this; rfl
  | succ k ihk =>
    rcases Nat.lt_or_ge i (k + 1) with h | h
    · have hkl : k < ops.toList.length := by simp; omega
      rw [X.h_ k hkl]
      have hw := hn k (by omega) (by omega)
      unfold Text.wr at hw
      rw [not_or] at hw
      rw [run_frame _ (X.run_ k _ (List.getElem?_eq_getElem hkl)) b (by simpa using hw.1) hw.2]
      exact ihk (by omega) (by omega) fun j h1 h2 => hn j h1 (by omega)
    · have : i = k + 1 := by omega
      subst this; rfl

theorem Text.keepT (X : Text T ih ops.toList nt) {i k : Nat} (hik : i ≤ k) (hk : k ≤ ops.size) {t : Nat} (hn : ∀ (j : Nat) (o : Oper), ops.toList[j]? = some o → i ≤ j → j < k → o.dst ≠ some t) : (X.tmS k).get t = (X.tmS i).get t := by
  induction k with
  | zero => have : i = 0 := by omega
            subst this; rfl
  | succ k ihk =>
    rcases Nat.lt_or_ge i (k + 1) with h | h
    · have hkl : k < ops.toList.length := by simp; omega
      have ho := List.getElem?_eq_getElem hkl
      have hd := hn k _ ho (by omega) (by omega)
      rw [X.t_ k _ ho, ← ihk (by omega) (by omega) fun j o h0 h1 h2 => hn j o h0 h1 (by omega)]
      cases hdd : (ops.toList[k]).dst with
      | none => rfl
      | some d =>
        simp only [putT]
        rw [Tr.get_set, if_neg]
        intro e
        exact hd (by rw [hdd, e])
    · have : i = k + 1 := by omega
      subst this; rfl

theorem Text.apart (X : Text T ih ops.toList nt) {i j : Nat} (hij : i < j) (hj : j < ops.size) (ha : ((aheads ops.toList).getD j 0).testBit i = false) (b : Nat) :
    ¬ (X.wr i b ∧ (X.rd j b ∨ X.wr j b)) ∧ ¬ (X.rd i b ∧ X.wr j b) := by
  have hjl : j < ops.toList.length := by simpa using hj
  rcases masks_apart X.m_ hij hjl with h | h
  · rw [h] at ha; cases ha
  · have hget : ∀ q, q < ops.toList.length → (((List.range ops.toList.length).map fun j => ((X.oS j).r, (X.oS j).w ||| span (X.cS j) (X.oS j).c)).getD q (0, 0)) = ((X.oS q).r, (X.oS q).w ||| span (X.cS q) (X.oS q).c) := by
      intro q hq
      have hq' : q < ops.size := by simpa using hq
      simp [List.getD, hq']
    have hb := h b
    rw [hget i (by omega), hget j hjl] at hb
    simp only [Nat.testBit_or, Bool.or_eq_true, span_test, Bool.and_eq_true, decide_eq_true_eq] at hb
    unfold Text.wr Text.rd
    exact hb
end
end Go.Ev
