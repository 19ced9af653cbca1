/- THE ABSTRACT MACHINE AND THE MODEL: structs, arrays and slices that are made; indexes. Own work. -/
import Derived.Test.YtlainoonnnimiaaGreatDoorEvO4
set_option linter.all false
set_option linter.unusedVariables false
set_option linter.constructorNameAsVariable false
set_option linter.unnecessarySimpa false
set_option linter.unusedSimpArgs false
set_option linter.unusedSimpArgs false
namespace Go.Ev

theorem over_get (cs : List V) (off : Nat) (x : List V) (h : off + x.length ≤ cs.length) (j : Nat) : (over cs off x)[j]? = if off ≤ j ∧ j < off + x.length then x[j - off]? else cs[j]? := by
  unfold over
  rw [List.getElem?_append, List.getElem?_append, List.length_take]
  have hm : min off cs.length = off := by omega
  rw [hm]
  by_cases h1 : j < off
  · rw [if_pos h1, if_neg (by omega), List.getElem?_take, if_pos h1]
  · rw [if_neg h1]
    by_cases h2 : j - off < x.length
    · rw [if_pos h2, if_pos (by omega)]
    · rw [if_neg h2, if_neg (by omega), List.getElem?_drop]
      congr 1
      omega

theorem over_length (cs : List V) (off : Nat) (x : List V) (h : off + x.length ≤ cs.length) : (over cs off x).length = cs.length := by
  unfold over
  simp only [List.length_append, List.length_take, List.length_drop]
  omega

/-- How 'fill' lays cells. -/
theorem fold_set (off : Nat) : ∀ (l : List Value) (k : Nat) (cells : Array Value) (j : Nat), off + k + l.length ≤ cells.size →
    ((l.zipIdx k).foldl (fun cs x => cs.setIfInBounds (off + x.2) x.1) cells)[j]? = (if off + k ≤ j ∧ j < off + k + l.length then l[j - (off + k)]? else cells[j]?) ∧
    ((l.zipIdx k).foldl (fun cs x => cs.setIfInBounds (off + x.2) x.1) cells).size = cells.size
  | [], k, cells, j, _ => by simp only [List.zipIdx_nil, List.foldl_nil, List.length_nil]; rw [if_neg (by omega)]; exact ⟨rfl, trivial⟩
  | v :: l, k, cells, j, h => by
    simp only [List.length_cons] at h
    rw [List.zipIdx_cons, List.foldl_cons]
    obtain ⟨e1, e2⟩ := fold_set off l (k + 1) (cells.setIfInBounds (off + k) v) j (by simp; omega)
    rw [e1, e2]
    refine ⟨?_, by simp⟩
    simp only [List.length_cons]
    by_cases h1 : off + (k + 1) ≤ j ∧ j < off + (k + 1) + l.length
    · rw [if_pos h1, if_pos (by omega), show j - (off + k) = (j - (off + (k + 1))) + 1 from by omega, List.getElem?_cons_succ]
    · rw [if_neg h1]
      by_cases h2 : j = off + k
      · subst h2
        rw [if_pos (by omega), Nat.sub_self]
        simp [Array.getElem?_setIfInBounds]
        omega
      · rw [if_neg (by omega), Array.getElem?_setIfInBounds_ne (Ne.symm h2)]

section
variable {P : Program} {T : Tr TI} {ι : Ren} {h : Tr Blk} {c r W : Nat} {w : World} {out : Out} {K : V → M}

theorem fill_ok {place : Nat → Option (Nat × Nat)} {place' : Nat → Option (Nat × Nat)} {K : List V → M} : ∀ (ps : List (Nat × V)) (ps' : List (Nat × Value)) (cs : List V) (cells : Array Value),
    ps.length = ps'.length → (∀ (j : Nat) (a : Nat × V) (b : Nat × Value), ps[j]? = some a → ps'[j]? = some b → a.1 = b.1 ∧ VR ι a.2 b.2) → (∀ i q, place i = some q → place' i = some q) →
    VRL ι cs cells.toList → (∀ v ∈ cells.toList, v.oneCell' = true) → run (fill place K ps cs) h c r W = some out →
    ∃ l cells', run (K l) h c r W = some out ∧ Instr.fill place' cells ps' = some cells' ∧ VRL ι l cells'.toList ∧ (∀ v ∈ cells'.toList, v.oneCell' = true) ∧ cells'.size = cells.size
  | [], [], cs, cells, _, _, _, hc, h1, hr => ⟨cs, cells, hr, rfl, hc, h1, rfl⟩
  | [], _ :: _, _, _, hl, _, _, _, _, _ => by simp at hl
  | _ :: _, [], _, _, hl, _, _, _, _, _ => by simp at hl
  | p :: ps, p' :: ps', cs, cells, hl, hp, hpl, hc, h1, hr => by
    obtain ⟨i, x⟩ := p
    obtain ⟨i', v⟩ := p'
    obtain ⟨rfl, hv⟩ := hp 0 (i, x) (i', v) rfl rfl
    have hr' : run (match place i with
      | none => M.fail
      | some (off, size) => x.cells fun l => bif Nat.beq l.length size && Nat.ble (off + size) cs.length then fill place K ps (over cs off l) else .fail) h c r W = some out := hr
    cases hpi : place i with
    | none => rw [hpi] at hr'; simp [run_fail] at hr'
    | some q =>
      obtain ⟨off, size⟩ := q
      rw [hpi] at hr'
      simp only at hr'
      obtain ⟨l, hr', hl', h1', _⟩ := hv.cells hr'
      obtain ⟨hle, hr'⟩ := run_bif hr'
      rw [Bool.and_eq_true, ble_iff, nbeq_iff, decide_eq_true_eq, decide_eq_true_eq] at hle
      obtain ⟨hsz, hle⟩ := hle
      have hcl := hc.length
      have hll := hl'.length
      have hcs : cells.size = cs.length := by simpa using hcl.symm
      have hvs : v.cells.size = size := by rw [← hsz]; simpa using hll.symm
      let cells₁ := v.cells.zipIdx.foldl (fun cs (c, j) => cs.setIfInBounds (off + j) c) cells
      have hce : cells₁ = (v.cells.toList.zipIdx 0).foldl (fun cs x => cs.setIfInBounds (off + x.2) x.1) cells := by
        show Array.foldl _ _ _ = _
        rw [← Array.foldl_toList, Array.toList_zipIdx]
      have hg : ∀ j, cells₁[j]? = (if off ≤ j ∧ j < off + v.cells.size then v.cells.toList[j - off]? else cells[j]?) ∧ cells₁.size = cells.size := by
        intro j
        have := fold_set off v.cells.toList 0 cells j (by simp; omega)
        rw [hce]
        simpa using this
      have hlen₁ : (over cs off l).length = cells₁.toList.length := by
        rw [over_length _ _ _ (by omega)]
        simp only [Array.length_toList, (hg 0).2, hcs]
      have hc₁ : VRL ι (over cs off l) cells₁.toList := by
        refine VRL.of_get hlen₁ fun j y u hy hu => ?_
        rw [over_get _ _ _ (by omega)] at hy
        have hu' : cells₁[j]? = some u := by simpa using hu
        rw [(hg j).1] at hu'
        by_cases hj : off ≤ j ∧ j < off + l.length
        · rw [if_pos hj] at hy
          rw [if_pos (by omega)] at hu'
          obtain ⟨u', hu'', hru⟩ := hl'.get _ _ hy
          rw [hu'] at hu''; cases hu''
          exact hru
        · rw [if_neg hj] at hy
          rw [if_neg (by omega)] at hu'
          obtain ⟨u', hu'', hru⟩ := hc.get _ _ hy
          have : cells[j]? = some u' := by simpa using hu''
          rw [hu'] at this; cases this
          exact hru
      have h1₁ : ∀ u ∈ cells₁.toList, u.oneCell' = true := by
        intro u hu
        obtain ⟨j, hj⟩ := List.mem_iff_getElem?.1 hu
        have hu' : cells₁[j]? = some u := by simpa using hj
        rw [(hg j).1] at hu'
        split at hu'
        · exact h1' u (List.mem_of_getElem? hu')
        · exact h1 u (List.mem_of_getElem? (by simpa using hu'))
      obtain ⟨l₂, cells₂, g1, g2, g3, g4, g5⟩ := fill_ok ps ps' (over cs off l) cells₁ (by simpa using hl) (fun j a b ha hb => hp (j + 1) a b (by simpa using ha) (by simpa using hb)) hpl hc₁ h1₁ hr'
      refine ⟨l₂, cells₂, g1, ?_, g3, g4, by rw [g5, (hg 0).2]⟩
      simp only [Instr.fill, hpl i _ hpi]
      rw [if_neg (by simp [hvs]; omega)]
      exact g2

theorem mapM_places (fs : List Field) (hfs : ∀ f ∈ fs, ∃ i, P.info? f.type = some i) : (fs.mapM (m := Sem) fun f => do pure (f.offset, ← sizeOf f.type)).run P w = .ok (fs.map fun f => (f.offset, P.cellsOf f.type)) w := by
  induction fs with
  | nil => rfl
  | cons f fs ih =>
    obtain ⟨i, hi⟩ := hfs f (by simp)
    rw [List.mapM_cons]
    simp only [Sem.run_bind, run_sizeOf_info _ hi, Result.andThen_ok, Sem.run_pure, ih (fun g hg => hfs g (by simp [hg])), List.map_cons]
    simp [Program.cellsOf, hi]
end
end Go.Ev
