/- THE ABSTRACT MACHINE AND THE MODEL: a call, whole. Own work. -/
import Derived.Test.YtlainoonnnimiaaGreatDoorEvG6
import Derived.Below
set_option linter.all false
set_option linter.unusedVariables false
set_option linter.constructorNameAsVariable false
set_option linter.unnecessarySimpa false
set_option linter.unusedSimpArgs false
set_option linter.unusedSimpArgs false
set_option linter.unusedVariables false
set_option linter.constructorNameAsVariable false
namespace Go.Ev

section
variable {P : Program} {T : Tab} {ι : Ren} {h : Tr Blk} {c : Nat} {w : World} {out : Out}

/-- A function of the program, begun. -/
noncomputable def begun (f : Nat) (fi : FI) (args : List V) : AF := ⟨f, fi.nt, Tr.lay args 0 .l, [.code fi.code], [], none⟩

theorem calls_go (O : Ok P T) {n f : Nat} {fi : FI} {args : List V} {args' : Array Value} (hfi : T.fn.get f = some fi) (hle : args.length ≤ fi.nt) (hr : run (go T n (begun f fi args) []) h c 0 0 = some out)
    (S : Sim ι h w) (G : Glob T.ng ι) (F : Fresh ι h c out) (ha : VRL ι args args'.toList) :
    Calls P f args' w fun e w' => ∃ v' ι', e = .returned v' ∧ VR ι' out.v v' ∧ Way ι h c 0 w ι' out.h out.c out.w w' := by
  intro base
  obtain ⟨fn, e1, e2, e3, e4, e5, e6⟩ := O.fn f fi hfi
  have hlen := ha.length
  have hf : FR ι (begun f fi args) (Frame.enter P f args' .normal) := by
    refine ⟨rfl, rfl, rfl, rfl, ?_, lay_args ha _, ?_, trivial⟩
    · simp only [Frame.enter, e1, Option.map_some, Option.getD_some, Array.size_append, Array.size_replicate, e3, begun]
      simp at hlen
      omega
    · simp only [Frame.enter, e1, Option.bind_some, e2, Option.getD_some, TdR, begun]
      exact ⟨⟨trivial, e6⟩, trivial⟩
  obtain ⟨v', ι', w', d, hv, q⟩ := go_ok O n (begun f fi args) [] _ [] base ι h c 0 0 w out hr S G F hf trivial
  obtain ⟨fr₁, d1, d2, d3⟩ := d
  exact ⟨.returned v', w', fr₁, ⟨v', ι', rfl, hv, q⟩, d1, d2, d3⟩

/-- Where nothing that was there is written, all stays. -/
theorem Way.below {W' : Nat} {ι' h' c' w'} (p : Way ι h c 0 w ι' h' c' W' w') (hW : ∀ b L, ι b = some L → W'.testBit b = false) : RowKit.Below w.heap.size w w' :=
  ⟨p.os, p.tape, p.output, p.size, fun k hk => by
    rcases p.keep k hk with e | ⟨b, L, h1, _, h3⟩
    · exact e
    · rw [hW b L h1] at h3; cases h3⟩

/-- A row of cells of the memory, as a block. -/
theorem BR.ofCells {L : Loc} {t sz n : Nat} {ex : Bool} {vs : List Value} {fz : Nat × Nat} (hk : L.off = 0) (hl : L.len = vs.length) (hs : L.sz = sz) (hz : fz.1 = fz.2 ∨ vs.length ≤ fz.1) (h1 : ∀ v ∈ vs, v.oneCell' = true)
    (hb : w.heap[L.blk]? = some (.cells vs.toArray t fz)) {l : List V} (hv : VRL ι l vs) (hn : n = l.length) : BR ι w L (.cells t n sz ex [] (Tr.lay l 0 .l)) := by
  subst hn
  have hlen := hv.length
  refine ⟨vs.toArray, fz, hb, by simp [hk, hl], by omega, hs, by simpa using hz, fun j hj => ?_⟩
  rw [cell_lay, if_pos (by omega), Nat.sub_zero, hk, Nat.zero_add]
  obtain ⟨v, hv', hr⟩ := hv.get j (l.getD j .u) (by simp [List.getD, List.getElem?_eq_getElem hj])
  exact ⟨v, by simpa using hv', hr, h1 v (List.mem_of_getElem? hv')⟩
end
end Go.Ev
