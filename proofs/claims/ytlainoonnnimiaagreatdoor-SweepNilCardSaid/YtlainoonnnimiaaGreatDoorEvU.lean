/- THE ABSTRACT MACHINE AND THE MODEL: oracles. Own work. -/
import Derived.Test.YtlainoonnnimiaaGreatDoorEvT
set_option linter.all false
set_option linter.unusedVariables false
set_option linter.constructorNameAsVariable false
set_option linter.unnecessarySimpa false
set_option linter.unusedSimpArgs false
set_option linter.unusedSimpArgs false
set_option linter.unusedVariables false
set_option linter.constructorNameAsVariable false
namespace Go.Ev

/-- Values that name no block. -/
def flat1 (x : V) : Bool := match x with | .u | .b _ | .i _ _ | .s _ | .p0 | .sl0 | .m0 | .nf | .ni | .q _ _ _ _ _ => true | _ => false
def flat (x : V) : Bool := match x with | .ag l => l.all flat1 | .tu l => l.all flat1 | x => flat1 x

theorem VR.flat1 {ι κ : Ren} {x : V} {v : Value} (hf : Ev.flat1 x = true) (h : VR ι x v) : VR κ x v := by
  cases x <;> first | (simp [Ev.flat1] at hf; done) | (simpa only [VR] using h)

theorem VRL.flat {ι κ : Ren} : ∀ {l : List V} {vs : List Value}, l.all Ev.flat1 = true → VRL ι l vs → VRL κ l vs
  | [], [], _, _ => by simp [VRL]
  | [], _ :: _, _, h => by simp [VRL] at h
  | _ :: _, [], _, h => by simp [VRL] at h
  | x :: l, v :: vs, hf, h => by
    simp only [List.all_cons, Bool.and_eq_true] at hf
    simp only [VRL] at h ⊢
    exact ⟨h.1.flat1 hf.1, VRL.flat hf.2 h.2⟩

theorem VR.flat {ι κ : Ren} {x : V} {v : Value} (hf : Ev.flat x = true) (h : VR ι x v) : VR κ x v := by
  cases x <;> first
    | (exact VR.flat1 (by simpa [Ev.flat] using hf) h)
    | (simp only [VR] at h ⊢; obtain ⟨cs, e, hl, h1⟩ := h; exact ⟨cs, e, VRL.flat (by simpa [Ev.flat] using hf) hl, h1⟩)
    | (simp only [VR] at h ⊢; obtain ⟨cs, e, hl⟩ := h; exact ⟨cs, e, VRL.flat (by simpa [Ev.flat] using hf) hl⟩)

section
variable {P : Program} {T : Tab} {ι ι₀ ι' : Ren} {h h₀ h' : Tr Blk} {c c₀ c' W W' r : Nat} {w w' : World} {out : Out}

theorem answers_go (O : Ok P T) (B : List Frame) {n f : Nat} {fi : FI} {args : List V} {args' : Array Value} (hfi : T.fn.get f = some fi) (hle : args.length ≤ fi.nt) (hr : run (go T n (begun f fi args) []) h c 0 0 = some out)
    (S : Sim ι h w) (G : Glob T.ng ι) (F : Fresh ι h c out) (ha : VRL ι args args'.toList) :
    ∃ v' ι' w', VR ι' out.v v' ∧ Way ι h c 0 w ι' out.h out.c out.w w' ∧ Answers P B (callFunc f args') w v' w' := by
  obtain ⟨fn, e1, e2, e3, e4, e5, e6⟩ := O.fn f fi hfi
  have hlen := ha.length
  have hf : FR ι (begun f fi args) (Frame.enter P f args' .normal) := by
    refine ⟨rfl, rfl, rfl, rfl, ?_, lay_args ha _, ?_, trivial⟩
    · simp only [Frame.enter, e1, Option.map_some, Option.getD_some, Array.size_append, Array.size_replicate, e3, begun]
      simp at hlen
      omega
    · simp only [Frame.enter, e1, Option.bind_some, e2, Option.getD_some, TdR, begun]
      exact ⟨⟨trivial, e6⟩, trivial⟩
  obtain ⟨v', ι', w', d, hv, q⟩ := go_ok O n (begun f fi args) [] _ [] B ι h c 0 0 w out hr S G F hf trivial
  obtain ⟨fr₁, d1, d2, d3⟩ := d
  exact ⟨v', ι', w', hv, q, .inr ⟨f, args', callFunc_go e1 e2 e5, fr₁, d1, d3⟩⟩

/-- A way on which nothing named is written leaves every other heap as it was. -/
theorem Way.quiet (p : Way ι₀ h₀ c₀ 0 w ι' h' c' W' w') (hW : ∀ b L, ι₀ b = some L → W'.testBit b = false) (S : Sim ι h w) : Way ι h c W w ι h c W w' := by
  have hk : ∀ k, k < w.heap.size → w'.heap[k]? = w.heap[k]? := fun k hk => by
    rcases p.keep k hk with e | ⟨b, L, h1, _, h3⟩
    · exact e
    · rw [hW b L h1] at h3; cases h3
  exact {
    sim := ⟨fun b x e => let ⟨L, a, l, q⟩ := S.blk b x e; ⟨L, a, by have := p.size; omega, q.congr (hk _ l)⟩, S.inj⟩
    le := Ren.le_refl _
    cle := Nat.le_refl _
    new := fun _ e n => absurd e n
    hnew := fun _ _ e => e
    os := p.os
    tape := p.tape
    output := p.output
    size := p.size
    newblk := fun _ _ e f => by rw [e] at f; cases f
    keep := fun k hk' => .inl (hk k hk')
    mono := fun _ e => e }

/-- An oracle that only tells a value, by a run on a small heap. -/
theorem orc_quiet (O : Ok P T) (B : List Frame) {n f : Nat} {fi : FI} {args : List V} {args' : Array Value} (hfi : T.fn.get f = some fi) (hle : args.length ≤ fi.nt) (hr : run (go T n (begun f fi args) []) h₀ c₀ 0 0 = some out)
    (S₀ : Sim ι₀ h₀ w) (G₀ : Glob T.ng ι₀) (F₀ : Fresh ι₀ h₀ c₀ out) (ha : VRL ι₀ args args'.toList) (hW : ∀ b L, ι₀ b = some L → out.w.testBit b = false) (hf : flat out.v = true) (S : Sim ι h w) :
    ∃ v' w', VR ι out.v v' ∧ Way ι h c W w ι h c W w' ∧ Answers P B (callFunc f args') w v' w' := by
  obtain ⟨v', ι', w', hv, p, a⟩ := answers_go O B hfi hle hr S₀ G₀ F₀ ha
  exact ⟨v', w', hv.flat hf, p.quiet hW S, a⟩
end
end Go.Ev
