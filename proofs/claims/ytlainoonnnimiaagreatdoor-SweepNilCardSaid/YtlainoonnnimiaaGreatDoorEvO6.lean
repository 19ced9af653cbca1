/- THE ABSTRACT MACHINE AND THE MODEL: what is built; indexes; slices. Own work. -/
import Derived.Test.YtlainoonnnimiaaGreatDoorEvO5
set_option linter.all false
set_option linter.unusedVariables false
set_option linter.constructorNameAsVariable false
set_option linter.unnecessarySimpa false
set_option linter.unusedSimpArgs false
set_option linter.unusedSimpArgs false
namespace Go.Ev

section
variable {P : Program} {T : Tr TI} {ι : Ren} {h : Tr Blk} {c r W : Nat} {w : World} {out : Out} {K : V → M}

theorem zero_cells {t : Nat} {ti : TI} {d : TypeDesc} (hd : TyV P t ti d) (ι : Ren) (w : World) : ∃ z, (zeroValue t).run P w = .ok z w ∧ VRL ι ti.zero z.cells.toList ∧ (∀ v ∈ z.cells.toList, v.oneCell' = true) ∧ z.cells.size = ti.size := by
  obtain ⟨z, e1, e2, e3, e4, _⟩ := hd.zero w ι
  exact ⟨z, e1, e2, e3, by simpa using e4⟩

theorem aBuild_ok (hT : TyOk P T) (S : Sim ι h w) {t : Nat} {ps : List (Nat × V)} {ps' : Array (Nat × Value)} (hl : ps.length = ps'.toList.length)
    (hp : ∀ (j : Nat) (a : Nat × V) (b : Nat × Value), ps[j]? = some a → ps'.toList[j]? = some b → a.1 = b.1 ∧ VR ι a.2 b.2) (hr : run (aBuild T t ps K) h c r W = some out) :
    Good P (Instr.build t ps') ι h c W w out K := by
  unfold aBuild at hr
  split at hr
  · simp [run_fail] at hr
  · rename_i ti ht
    obtain ⟨d, hd⟩ := hT.at ht
    obtain ⟨z, z1, z2, z3, z4⟩ := zero_cells hd ι w
    split at hr
    · rename_i fs hfs
      obtain ⟨fields, rfl, rfl, _, hfi⟩ := hd.struct hfs
      obtain ⟨l, cells, g1, g2, g3, g4, g5⟩ := fill_ok (place' := (fun i => (fields.toList.map fun f => (f.offset, P.cellsOf f.type)).toArray[i]?)) ps ps'.toList ti.zero z.cells hl hp (by
        intro i q hq
        split at hq
        · rename_i o ft hf
          split at hq
          · rename_i fi hft
            cases hq
            simp only [List.getElem?_map, Option.map_eq_some_iff] at hf
            obtain ⟨fd, hfd, he⟩ := hf
            cases he
            obtain ⟨d', hd'⟩ := hT.at hft
            obtain ⟨i', _, q1, q2, _⟩ := hd'.rest
            simp [hfd, Program.cellsOf, q1, q2]
          · cases hq
        · cases hq) z2 z3 hr
      refine Good.now S g1 (v' := .agg cells) ?_ (by simp only [VR]; exact ⟨_, rfl, g3, g4⟩)
      have hm := mapM_places (P := P) (w := w) fields.toList (fun f hf => (hfi f hf).2)
      simp only [Instr.build, Sem.run_bind, z1, Result.andThen_ok, hd.run_und]
      rw [Array.mapM_eq_mapM_toList, Sem.run_map, hm]
      simp only [Result.andThen_ok, g2, Sem.run_pure]
    · rename_i n e sz hfs
      obtain ⟨rfl, i, hi, hsz⟩ := hd.arr hfs
      obtain ⟨l, cells, g1, g2, g3, g4, g5⟩ := fill_ok (place' := fun i => some (i * sz, sz)) ps ps'.toList ti.zero z.cells hl hp (fun i q hq => hq) z2 z3 hr
      refine Good.now S g1 (v' := .agg cells) ?_ (by simp only [VR]; exact ⟨_, rfl, g3, g4⟩)
      simp only [Instr.build, Sem.run_bind, z1, Result.andThen_ok, hd.run_und, run_sizeOf_info _ hi, hsz, g2, Sem.run_pure]
    · simp [run_fail] at hr

theorem replicate_get {α : Type} (z : List α) : ∀ (n j : Nat), j < n * z.length → (List.replicate n z).flatten[j]? = z[j % z.length]?
  | 0, j, h => by simp at h
  | n + 1, j, h => by
    rw [List.replicate_succ, List.flatten_cons, List.getElem?_append]
    by_cases hj : j < z.length
    · rw [if_pos hj, Nat.mod_eq_of_lt hj]
    · rw [if_neg hj, replicate_get z n (j - z.length) (by rw [Nat.add_mul, Nat.one_mul] at h; omega)]
      have : j % z.length = (j - z.length) % z.length := by rw [Nat.mod_eq_sub_mod (by omega)]
      rw [this]

theorem replicate_len {α : Type} (z : List α) (n : Nat) : (List.replicate n z).flatten.length = n * z.length := by simp

/-- Zeros, so often, in the model's words. -/
theorem zeros_rel {ι : Ren} {z : List V} {zs : Array Value} (hz : VRL ι z zs.toList) (h1 : ∀ v ∈ zs.toList, v.oneCell' = true) (n : Nat) :
    VRL ι (List.replicate n z).flatten ((Array.range (n * zs.size)).map (fun i => zs[i % zs.size]!)).toList ∧ (∀ v ∈ ((Array.range (n * zs.size)).map (fun i => zs[i % zs.size]!)).toList, v.oneCell' = true) := by
  have hl := hz.length
  have hl' : zs.size = z.length := by simpa using hl.symm
  have hget : ∀ (j : Nat) v, ((Array.range (n * zs.size)).map (fun i => zs[i % zs.size]!)).toList[j]? = some v → j < n * zs.size ∧ zs.toList[j % zs.size]? = some v := by
    intro j v hv
    have hv' : ((Array.range (n * zs.size)).map (fun i => zs[i % zs.size]!))[j]? = some v := by rw [← Array.getElem?_toList]; exact hv
    have hj : j < n * zs.size := by
      rcases Nat.lt_or_ge j (n * zs.size) with h | h
      · exact h
      · rw [Array.getElem?_eq_none (by simp; exact h)] at hv'; cases hv'
    refine ⟨hj, ?_⟩
    have hpos : 0 < zs.size := by
      rcases Nat.eq_zero_or_pos zs.size with h | h
      · rw [h] at hj; simp at hj
      · exact h
    have hlt := Nat.mod_lt j hpos
    rw [Array.getElem?_map, Array.getElem?_range, if_pos hj, Option.map_some] at hv'
    rw [← hv']
    simp [getElem!_pos, hlt]
  refine ⟨VRL.of_get (by simp [hl']) fun j y v hy hv => ?_, fun v hv => ?_⟩
  · obtain ⟨hj, hv'⟩ := hget j v hv
    rw [replicate_get z n j (by rw [← hl']; exact hj), ← hl'] at hy
    obtain ⟨v'', g1, g2⟩ := hz.get _ _ hy
    rw [hv'] at g1; cases g1
    exact g2
  · obtain ⟨j, hj⟩ := List.mem_iff_getElem?.1 hv
    exact h1 v (List.mem_of_getElem? (hget j v hj).2)

/-- A slice of a new row that is all known. -/
theorem Good.rowS (S : Sim ι h w) (F : Fresh ι h c out) {e sz len n : Nat} {ex : Bool} {z : List V} {l : List V} {vs : List Value} (hl : VRL ι l vs) (h1 : ∀ v ∈ vs, v.oneCell' = true) (hn : l.length = n)
    (hr : run (K (.sl c 0 len (some len))) (h.set (.cells e n sz ex z (Tr.lay l 0 .l)) c) (c + 1) r W = some out) {s : Sem Value}
    (hs : ∀ (a : Addr) (w' : World), (newRow e vs.toArray).run P w = .ok a w' → s.run P w = .ok (.slice (some a) len len) w') : Good P s ι h c W w out K := by
  subst hn
  obtain ⟨ι', w', g1, g2, g3⟩ := Good.row (P := P) (K := fun _ => K (.sl c 0 len (some len))) (tl := []) S F hl h1 hr
  rw [List.append_nil] at g2
  exact ⟨_, _, ι', _, _, _, _, w', hr, hs _ _ g2, by simp only [VR]; exact ⟨_, len, g3, Nat.le_refl _, rfl, rfl⟩, g1⟩

theorem aBuildSlice_ok (hT : TyOk P T) (S : Sim ι h w) (F : Fresh ι h c out) {t len : Nat} {ps : List (Nat × V)} {ps' : Array (Nat × Value)} (hl : ps.length = ps'.toList.length)
    (hp : ∀ (j : Nat) (a : Nat × V) (b : Nat × Value), ps[j]? = some a → ps'.toList[j]? = some b → a.1 = b.1 ∧ VR ι a.2 b.2) (hr : run (aBuildSlice T t len ps K) h c r W = some out) :
    Good P (Instr.buildSlice t len ps') ι h c W w out K := by
  unfold aBuildSlice at hr
  split at hr
  · simp [run_fail] at hr
  · rename_i ti ht
    obtain ⟨d, hd⟩ := hT.at ht
    split at hr
    · rename_i ee sz eb hfs
      obtain ⟨rfl, inf, hinf, hsz, _⟩ := hd.slice hfs
      split at hr
      · simp [run_fail] at hr
      · rename_i ei hei
        obtain ⟨d', hd'⟩ := hT.at hei
        obtain ⟨hle, hr⟩ := run_bif hr
        rw [ble_iff, decide_eq_true_eq] at hle
        obtain ⟨z, z1, z2, z3, z4⟩ := zero_cells hd' ι w
        have hes : ei.size = sz := by
          obtain ⟨i, _, q1, q2, _⟩ := hd'.rest
          rw [hinf] at q1; cases q1
          rw [← q2, hsz]
        have hzs : z.cells.size = sz := by rw [z4, hes]
        obtain ⟨zr, zr1⟩ := zeros_rel z2 z3 len
        rw [hzs] at zr zr1
        obtain ⟨l, cells, g1, g2, g3, g4, g5⟩ := fill_ok (place' := fun i => some (i * sz, sz)) ps ps'.toList _ _ hl hp (fun i q hq => hq) zr zr1 hr
        have g5' : cells.size = len * sz := by rw [g5]; simp
        have hll : l.length = len * sz := by have := g3.length; rw [this]; simpa using g5'
        refine Good.rowS S F g3 g4 hll (run_al_some g1) fun a w' e => ?_
        have e' : (newRow ee cells).run P w = .ok a w' := by simpa using e
        simp only [Instr.buildSlice, Sem.run_bind, hd.run_und, Result.andThen_ok, run_sizeOf_info _ hinf, hsz]
        rw [if_neg (by omega)]
        by_cases h0 : len * sz = 0
        · have hm : ∀ f : Nat → Value, Array.map f (Array.range 0) = #[] := fun f => by apply Array.ext'; simp
          have g2' : Instr.fill (fun i => some (i * sz, sz)) #[] ps'.toList = some cells := by rw [h0, hm] at g2; exact g2
          simp [h0, hm, g2', e']
        · simp only [h0, if_false, Sem.run_bind, z1, Sem.run_pure, Result.andThen_ok, hzs, g2, e']
    · simp [run_fail] at hr
end
end Go.Ev
