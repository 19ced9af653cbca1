/- THE ABSTRACT MACHINE AND THE MODEL: reading, writing, making blocks. Own work. -/
import Derived.Test.YtlainoonnnimiaaGreatDoorEvS1
set_option linter.all false
set_option linter.unusedVariables false
set_option linter.constructorNameAsVariable false
set_option linter.unnecessarySimpa false
set_option linter.unusedSimpArgs false
namespace Go.Ev

theorem addr_add (b o i : Nat) : (⟨b, o, none⟩ : Addr).add i = ⟨b, o + i, none⟩ := by unfold Addr.add; split <;> simp_all

theorem BR.congr {ι w w' L x} (h : w'.heap[L.blk]? = w.heap[L.blk]?) (hx : BR ι w L x) : BR ι w' L x := by
  cases x <;> simp only [BR, h] at hx ⊢ <;> exact hx

theorem BR.le {ι κ w L x} (h : Ren.le ι κ) (hx : BR ι w L x) : BR κ w L x := by
  cases x with
  | dead => trivial
  | cells t n sz ex z c =>
    obtain ⟨arr, fz, h1, h2, h3, h4, h5, h6⟩ := hx
    exact ⟨arr, fz, h1, h2, h3, h4, h5, fun j hj => let ⟨v, a, b, c⟩ := h6 j hj; ⟨v, a, VR.le h _ _ b, c⟩⟩
  | map es clock =>
    obtain ⟨arr, h1, h2, h3⟩ := hx
    exact ⟨arr, h1, h2, fun j e he => let ⟨m, a, b, c, d⟩ := h3 j e he; ⟨m, a, VR.le h _ _ b, VR.le h _ _ c, d⟩⟩
  | siter s pos => exact hx
  | miter m since seen stepped =>
    obtain ⟨h0, m', h1, h2⟩ := hx
    refine ⟨h0, m', h1, ?_⟩
    cases m with
    | none => exact h2
    | some b => obtain ⟨K, a, e⟩ := h2; exact ⟨K, h _ _ a, e⟩
  | loop st pend fn nt tm ps a b d =>
    obtain ⟨h0, tmps, D, h1, h2, h3, h4⟩ := hx
    exact ⟨h0, tmps, D, h1, h _ _ h2, h3, fun t v e => VR.le h _ _ (h4 t v e)⟩
  | defs o => exact hx

/-- A block that is there is written. -/
theorem Way.write {ι h c W w b x x' L} {w' : World} (S : Sim ι h w) (hb : h.get b = some x) (hx : live x) (hL : ι b = some L)
    (hh : ∀ k, k ≠ L.blk → w'.heap[k]? = w.heap[k]?) (hs : w'.heap.size = w.heap.size) (ho : w'.os = w.os) (ht : w'.tape = w.tape) (hp : w'.output = w.output)
    (hr : BR ι w' L x') : Way ι h c W w ι (h.set x' b) c (bit W b) w' where
  sim := by
    refine ⟨fun b' y hy => ?_, fun b₁ b₂ x₁ x₂ L₁ h1 h2 l1 l2 e1 e2 => ?_⟩
    · rw [Tr.get_set] at hy
      by_cases e : b' = b
      · rw [if_pos e] at hy
        cases hy
        subst e
        obtain ⟨L', hL', hlt, _⟩ := S.blk _ _ hb
        rw [hL] at hL'; cases hL'
        exact ⟨L, hL, by omega, hr⟩
      · rw [if_neg e] at hy
        obtain ⟨L', hL', hlt, hbr⟩ := S.blk _ _ hy
        refine ⟨L', hL', by omega, ?_⟩
        by_cases hl : live y
        · refine BR.congr (hh _ ?_) hbr
          intro hk
          exact e (S.inj _ _ _ _ L' hy hb hl hx hL' ⟨L, hL, hk.symm⟩)
        · cases y <;> first | exact absurd trivial hl | trivial
    · rw [Tr.get_set] at h1 h2
      by_cases i1 : b₁ = b <;> by_cases i2 : b₂ = b
      · rw [i1, i2]
      · rw [if_neg i2] at h2
        exact S.inj _ _ x x₂ L₁ (i1 ▸ hb) h2 hx l2 e1 e2
      · rw [if_neg i1] at h1
        exact S.inj _ _ x₁ x L₁ h1 (i2 ▸ hb) l1 hx e1 e2
      · rw [if_neg i1] at h1; rw [if_neg i2] at h2
        exact S.inj _ _ _ _ _ h1 h2 l1 l2 e1 e2
  le := Ren.le_refl _
  cle := Nat.le_refl _
  new _ e n := absurd e n
  hnew b' _ e := by
    rw [Tr.get_set]
    split
    · rename_i hbb; rw [hbb, hb] at e; cases e
    · exact e
  os := ho
  tape := ht
  output := hp
  size := by omega
  newblk _ _ e f := by rw [e] at f; cases f
  keep k hk := by
    by_cases e : k = L.blk
    · exact .inr ⟨b, L, hL, e.symm, by rw [bit_test]; simp⟩
    · exact .inl (hh k e)
  mono b' e := by rw [bit_test, e]; rfl

/-- One name more. -/
def Ren.put (ι : Ren) (c : Nat) (L : Loc) : Ren := fun b => if b = c then some L else ι b
theorem Ren.put_same (ι : Ren) (c L) : ι.put c L c = some L := by simp [Ren.put]
theorem Ren.put_le {ι : Ren} {c L} (h : ι c = none) : ι.le (ι.put c L) := fun b M e => by
  unfold Ren.put
  split
  · rename_i hb; rw [hb, h] at e; cases e
  · exact e

/-- A new block. -/
theorem Way.alloc {ι h c W w x L} {w' : World} (S : Sim ι h w) (hc : h.get c = none) (hi : ι c = none) (hk : L.blk = w.heap.size) (hs : w.heap.size < w'.heap.size)
    (hh : ∀ k, k < w.heap.size → w'.heap[k]? = w.heap[k]?) (ho : w'.os = w.os) (ht : w'.tape = w.tape) (hp : w'.output = w.output)
    (hr : BR (ι.put c L) w' L x) : Way ι h c W w (ι.put c L) (h.set x c) (c + 1) W w' where
  sim := by
    refine ⟨fun b' y hy => ?_, fun b₁ b₂ x₁ x₂ L₁ h1 h2 l1 l2 e1 e2 => ?_⟩
    · rw [Tr.get_set] at hy
      by_cases e : b' = c
      · rw [if_pos e] at hy
        cases hy
        subst e
        exact ⟨L, Ren.put_same _ _ _, by omega, hr⟩
      · rw [if_neg e] at hy
        obtain ⟨L', hL', hlt, hbr⟩ := S.blk _ _ hy
        exact ⟨L', by simp [Ren.put, e, hL'], by omega, (hbr.le (Ren.put_le hi)).congr (hh _ hlt)⟩
    · have old : ∀ b y K, b ≠ c → (h.set x c).get b = some y → ι.put c L b = some K → h.get b = some y ∧ ι b = some K ∧ K.blk < w.heap.size := by
        intro b y K hne hy hK
        rw [Tr.get_set, if_neg hne] at hy
        simp only [Ren.put, if_neg hne] at hK
        obtain ⟨L', hL', hlt, _⟩ := S.blk _ _ hy
        rw [hK] at hL'; cases hL'
        exact ⟨hy, hK, hlt⟩
      obtain ⟨L₂, e2, e3⟩ := e2
      by_cases i1 : b₁ = c <;> by_cases i2 : b₂ = c
      · rw [i1, i2]
      · obtain ⟨_, _, hlt⟩ := old _ _ _ i2 h2 e2
        subst i1
        rw [Ren.put_same] at e1; cases e1
        omega
      · obtain ⟨_, _, hlt⟩ := old _ _ _ i1 h1 e1
        subst i2
        rw [Ren.put_same] at e2; cases e2
        omega
      · obtain ⟨a1, a2, _⟩ := old _ _ _ i1 h1 e1
        obtain ⟨c1, c2, _⟩ := old _ _ _ i2 h2 e2
        exact S.inj _ _ _ _ _ a1 c1 l1 l2 a2 ⟨L₂, c2, e3⟩
  le := Ren.put_le hi
  cle := by omega
  new b e n := by
    simp only [Ren.put] at n
    split at n
    · omega
    · exact absurd e n
  hnew b' hb' e := by rw [Tr.get_set, if_neg (by omega)]; exact e
  os := ho
  tape := ht
  output := hp
  size := by omega
  newblk b K e f := by
    simp only [Ren.put] at f
    split at f
    · cases f; exact .inl (by omega)
    · rw [e] at f; cases f
  keep k hk := .inl (hh k hk)
  mono _ e := e

/-- Only how much was drawn has turned. -/
theorem Sim.world {ι h w w'} (S : Sim ι h w) (hh : w'.heap = w.heap) : Sim ι h w' :=
  ⟨fun b x e => let ⟨L, a, l, r⟩ := S.blk b x e; ⟨L, a, by rw [hh]; exact l, r.congr (by rw [hh])⟩, S.inj⟩

theorem Way.draw {ι h c W w} (w' : World) (S : Sim ι h w) (hh : w'.heap = w.heap) (ho : w'.os = w.os) (ht : w'.tape = w.tape) (hp : w'.output = w.output) : Way ι h c W w ι h c W w' where
  sim := S.world hh
  le := Ren.le_refl _
  cle := Nat.le_refl _
  new _ e n := absurd e n
  hnew _ _ e := e
  os := ho
  tape := ht
  output := hp
  size := by rw [hh]; exact Nat.le_refl _
  newblk _ _ e f := by rw [e] at f; cases f
  keep k _ := .inl (by rw [hh])
  mono _ e := e

theorem zat_eq (z : List V) (j : Nat) : zat z j = z.getD (j % z.length) .u := by
  match z with
  | [] => rfl
  | [v] => simp [zat, Nat.mod_one]
  | _ :: _ :: _ => rfl
theorem cell_eq (z c j) : cell z c j = (c.get j).getD (z.getD (j % z.length) .u) := by unfold cell; rw [zat_eq]; cases c.get j <;> rfl

theorem sameZ_eq {a b : V} (h : sameZ a b = true) : a = b := by
  unfold sameZ at h
  split at h <;> first | rfl | (simp at h; subst h; rfl) | cases h

theorem zp_cell (z : List V) (c : Tr V) (j : Nat) : cell (zp z) c j = cell z c j := by
  cases z with
  | nil => rfl
  | cons v r =>
    cases hb : r.all (sameZ v) with
    | false => simp only [zp, hb, cond_false]
    | true =>
      simp only [zp, hb, cond_true]
      rw [cell_eq, cell_eq]
      congr 1
      have hall : ∀ x ∈ v :: r, x = v := by
        intro x hx
        rcases List.mem_cons.1 hx with rfl | hx
        · rfl
        · exact (sameZ_eq (List.all_eq_true.1 hb x hx)).symm
      have hlt : j % (v :: r).length < (v :: r).length := Nat.mod_lt _ (by simp)
      have e : (v :: r).getD (j % (v :: r).length) .u = v := by
        rw [List.getD, List.getElem?_eq_getElem hlt, Option.getD_some]
        exact hall _ (List.getElem_mem hlt)
      rw [e]
      simp [Nat.mod_one]

theorem BR.zp {ι w L t n sz ex z c} (h : BR ι w L (.cells t n sz ex z c)) : BR ι w L (.cells t n sz ex (Ev.zp z) c) := by
  obtain ⟨arr, fz, h1, h2, h3, h4, h5, h6⟩ := h
  exact ⟨arr, fz, h1, h2, h3, h4, h5, fun j hj => by rw [zp_cell]; exact h6 j hj⟩

theorem cell_lay (z : List V) (l : List V) (o : Nat) (c : Tr V) (j : Nat) : cell z (Tr.lay l o c) j = if o ≤ j ∧ j < o + l.length then l.getD (j - o) .u else cell z c j := by
  rw [cell_eq, cell_eq, Tr.get_lay]
  split
  · rename_i h
    have : j - o < l.length := by omega
    simp [List.getD, List.getElem?_eq_getElem this]
  · rfl

theorem cellsFrom_length (z c) : ∀ (m j : Nat), (cellsFrom z c m j).length = m
  | 0, _ => rfl
  | m + 1, j => by rw [cellsFrom_succ]; simp [cellsFrom_length z c m]

theorem cellsFrom_get (z c) : ∀ (m o j : Nat), j < m → (cellsFrom z c m o)[j]? = some (cell z c (o + j))
  | 0, _, _, h => by omega
  | m + 1, o, 0, _ => by rw [cellsFrom_succ]; simp
  | m + 1, o, j + 1, h => by rw [cellsFrom_succ]; simp [cellsFrom_get z c m (o + 1) j (by omega)]; congr 1; omega

section
variable {P : Program} {ι : Ren} {w : World} {L : Loc} {t n sz : Nat} {ex : Bool} {z : List V} {c : Tr V}

theorem BR.cell (h : BR ι w L (.cells t n sz ex z c)) {j : Nat} (hj : j < n) : ∃ v, w.cell? ⟨L.blk, L.off + j, none⟩ = some v ∧ VR ι (cell z c j) v ∧ v.oneCell' = true := by
  obtain ⟨arr, fz, h1, h2, h3, h4, h5, h6⟩ := h
  obtain ⟨v, a, b, d⟩ := h6 j hj
  exact ⟨v, by simp [World.cell?, h1, a], b, d⟩

theorem BR.free (h : BR ι w L (.cells t n sz ex z c)) {j : Nat} (hj : j < L.len) : w.frozen? ⟨L.blk, L.off + j, none⟩ = false := by
  obtain ⟨arr, fz, h1, h2, h3, h4, h5, h6⟩ := h
  obtain ⟨lo, hi⟩ := fz
  simp only [World.frozen?, h1]
  rcases h5 with h5 | h5
  · simp at h5; subst h5; simp; try omega
  · simp at h5; simp; try omega

theorem BR.there (h : BR ι w L (.cells t n sz ex z c)) {j : Nat} (hj : j < L.len) : (w.cell? ⟨L.blk, L.off + j, none⟩).isSome = true := by
  obtain ⟨arr, fz, h1, h2, h3, h4, h5, h6⟩ := h
  have : L.off + j < arr.size := by omega
  simp [World.cell?, h1, this]

/-- So many cells are read. -/
theorem run_cells (h : BR ι w L (.cells t n sz ex z c)) {m o : Nat} (hm : o + m ≤ n) :
    ∃ vs : List Value, (loadCells ⟨L.blk, L.off + o, none⟩ m).run P w = .ok vs.toArray w ∧ VRL ι (cellsFrom z c m o) vs ∧ (∀ v ∈ vs, v.oneCell' = true) ∧ vs.length = m := by
  let f : Nat → Value := fun j => (w.cell? ⟨L.blk, L.off + o + j, none⟩).getD undef
  have hf : ∀ j, j < m → w.cell? ((⟨L.blk, L.off + o, none⟩ : Addr).add j) = some (f j) ∧ VR ι (cell z c (o + j)) (f j) ∧ (f j).oneCell' = true := by
    intro j hj
    obtain ⟨v, a, b, d⟩ := h.cell (j := o + j) (by omega)
    rw [← Nat.add_assoc] at a
    rw [addr_add]
    simp only [f, a, Option.getD_some]
    exact ⟨trivial, b, d⟩
  refine ⟨(List.range m).map f, ?_, ?_, ?_, by simp⟩
  · rw [run_loadCells w _ m f (fun j hj => (hf j hj).1)]
  · refine VRL.of_get (by simp [cellsFrom_length]) fun j x v hx hv => ?_
    have hj : j < m := by
      rcases Nat.lt_or_ge j m with h | h
      · exact h
      · rw [List.getElem?_eq_none (by simp [cellsFrom_length]; omega)] at hx; cases hx
    rw [cellsFrom_get z c m o j hj] at hx
    cases hx
    simp [hj] at hv
    subst hv
    exact (hf j hj).2.1
  · intro v hv
    simp only [List.mem_map, List.mem_range] at hv
    obtain ⟨j, hj, rfl⟩ := hv
    exact (hf j hj).2.2

/-- A world with a block's cells from one on other ones. -/
def setW (w : World) (b o : Nat) (vs : List Value) : World := w.setCells b o vs

theorem setCells_heap (b : Nat) : ∀ (vs : List Value) (o : Nat) (w : World) (arr : Array Value) (t : Nat) (fz : Nat × Nat), w.heap[b]? = some (.cells arr t fz) → o + vs.length ≤ arr.size →
    ∃ arr', (w.setCells b o vs).heap[b]? = some (.cells arr' t fz) ∧ arr'.size = arr.size ∧ (∀ j, arr'[j]? = if o ≤ j ∧ j < o + vs.length then vs[j - o]? else arr[j]?) ∧
      (∀ k, k ≠ b → (w.setCells b o vs).heap[k]? = w.heap[k]?) ∧ (w.setCells b o vs).heap.size = w.heap.size ∧ (w.setCells b o vs).os = w.os ∧ (w.setCells b o vs).tape = w.tape ∧ (w.setCells b o vs).output = w.output
  | [], o, w, arr, t, fz, h, _ => ⟨arr, h, rfl, fun j => by rw [if_neg (by simp only [List.length_nil]; omega)], fun _ _ => rfl, rfl, rfl, rfl, rfl⟩
  | v :: vs, o, w, arr, t, fz, h, hl => by
    simp only [List.length_cons] at hl
    have hb : b < w.heap.size := by
      rcases Nat.lt_or_ge b w.heap.size with h' | h'
      · exact h'
      · rw [Array.getElem?_eq_none h'] at h; cases h
    have h' : (w.setCell ⟨b, o, none⟩ v).heap[b]? = some (.cells (arr.setIfInBounds o v) t fz) := by
      simp [World.setCell, Array.getElem?_modify, h]
    obtain ⟨arr', g1, g2, g3, g4, g5, g6, g7, g8⟩ := setCells_heap b vs (o + 1) (w.setCell ⟨b, o, none⟩ v) (arr.setIfInBounds o v) t fz h' (by simp; omega)
    refine ⟨arr', g1, by rw [g2]; simp, fun j => ?_, fun k hk => ?_, ?_, g6, g7, g8⟩
    · rw [g3]
      simp only [List.length_cons]
      by_cases h1 : o + 1 ≤ j ∧ j < o + 1 + vs.length
      · rw [if_pos h1, if_pos (by omega), show j - o = (j - (o + 1)) + 1 from by omega]; simp
      · rw [if_neg h1]
        by_cases h2 : j = o
        · subst h2
          rw [if_pos (by omega)]
          simp [Array.getElem?_setIfInBounds]; omega
        · rw [if_neg (by omega), Array.getElem?_setIfInBounds_ne (Ne.symm h2)]
    · rw [show w.setCells b o (v :: vs) = (w.setCell ⟨b, o, none⟩ v).setCells b (o + 1) vs from rfl, g4 k hk]
      simp [World.setCell, Array.getElem?_modify, Ne.symm hk]
    · rw [show w.setCells b o (v :: vs) = (w.setCell ⟨b, o, none⟩ v).setCells b (o + 1) vs from rfl, g5]
      simp
end
end Go.Ev
namespace Go.Ev
section
variable {P : Program} {ι : Ren} {w : World} {L : Loc} {t n sz : Nat} {ex : Bool} {z : List V} {c : Tr V}

/-- Cells are written: those that are known may be more then. -/
theorem run_put (h : BR ι w L (.cells t n sz ex z c)) {xs : List V} {vs : List Value} {o : Nat} (hx : VRL ι xs vs) (h1 : ∀ v ∈ vs, v.oneCell' = true) (ho : o + xs.length ≤ L.len) :
    ∃ w' : World, (storeCells ⟨L.blk, L.off + o, none⟩ vs).run P w = .ok () w' ∧ (∀ k, k ≠ L.blk → w'.heap[k]? = w.heap[k]?) ∧ w'.heap.size = w.heap.size ∧ w'.os = w.os ∧ w'.tape = w.tape ∧ w'.output = w.output ∧
      (o + xs.length ≤ n → BR ι w' L (.cells t n sz ex z (Tr.lay xs o c))) ∧
      (∀ z', BR ι w' ⟨L.blk, L.off + o, L.len - o, L.sz⟩ (.cells t xs.length sz false z' (Tr.lay xs 0 .l))) ∧
      (∀ z' (q : Nat), q ≤ o → o ≤ n → BR ι w' ⟨L.blk, L.off + q, L.len - q, L.sz⟩ (.cells t (o - q + xs.length) sz false z' (Tr.lay (cellsFrom z c (o - q) q ++ xs) 0 .l))) := by
  have hlen := hx.length
  have hrun : (storeCells ⟨L.blk, L.off + o, none⟩ vs).run P w = .ok () (w.setCells L.blk (L.off + o) vs) := by
    have := run_storeCells_cells (P := P) L.blk (L.off + o) vs 0 w (fun j hj => by
      have := h.there (j := o + j) (by omega); simpa [Nat.add_assoc] using this) (fun j hj => by
      have := h.free (j := o + j) (by omega); simpa [Nat.add_assoc] using this) h1
    simpa using this
  obtain ⟨arr, fz, g1, g2, g3, g4, g5, g6⟩ := h
  obtain ⟨arr', e1, e2, e3, e4, e5, e6, e7, e8⟩ := setCells_heap L.blk vs (L.off + o) w arr t fz g1 (by omega)
  refine ⟨_, hrun, e4, e5, e6, e7, e8, fun hn => ?_, fun z' => ?_, fun z' q hq ho' => ?_⟩
  · refine ⟨arr', fz, e1, by omega, g3, g4, by rw [e2]; exact g5, fun j hj => ?_⟩
    rw [cell_lay]
    by_cases hj' : o ≤ j ∧ j < o + xs.length
    · obtain ⟨v, hv, hr⟩ := hx.get (j - o) (xs.getD (j - o) .u) (by simp [List.getD, List.getElem?_eq_getElem (show j - o < xs.length by omega)])
      refine ⟨v, ?_, by rw [if_pos hj']; exact hr, h1 v (List.mem_of_getElem? hv)⟩
      rw [e3, if_pos (by omega), show L.off + j - (L.off + o) = j - o from by omega, hv]
    · rw [if_neg hj', e3, if_neg (by omega)]
      exact g6 j hj
  · refine ⟨arr', fz, e1, by simp only; omega, by simp only; omega, g4, by rw [e2]; exact g5, fun j hj => ?_⟩
    rw [cell_lay, if_pos (by omega), Nat.sub_zero]
    obtain ⟨v, hv, hr⟩ := hx.get j (xs.getD j .u) (by simp [List.getD, List.getElem?_eq_getElem hj])
    refine ⟨v, ?_, hr, h1 v (List.mem_of_getElem? hv)⟩
    simp only
    rw [e3, if_pos (by omega), show L.off + o + j - (L.off + o) = j from by omega, hv]
  · refine ⟨arr', fz, e1, by simp only; omega, by simp only; omega, g4, by rw [e2]; exact g5, fun j hj => ?_⟩
    rw [cell_lay, if_pos (by simp only [List.length_append, cellsFrom_length]; omega), Nat.sub_zero]
    simp only
    rw [e3]
    by_cases hj' : o - q ≤ j
    · rw [if_pos (by omega)]
      obtain ⟨v, hv, hr⟩ := hx.get (j - (o - q)) (xs.getD (j - (o - q)) .u) (by simp [List.getD, List.getElem?_eq_getElem (show j - (o - q) < xs.length by omega)])
      refine ⟨v, by rw [show L.off + q + j - (L.off + o) = j - (o - q) from by omega, hv], ?_, h1 v (List.mem_of_getElem? hv)⟩
      simp only [List.getD, List.getElem?_append, cellsFrom_length, if_neg (show ¬ j < o - q by omega)]
      exact hr
    · rw [if_neg (by omega)]
      obtain ⟨v, hv, hr, h2⟩ := g6 (q + j) (by omega)
      refine ⟨v, by rw [← hv, Nat.add_assoc], ?_, h2⟩
      simp only [List.getD, List.getElem?_append, cellsFrom_length, if_pos (show j < o - q by omega), cellsFrom_get z c (o - q) q j (by omega), Option.getD_some]
      exact hr
end

/-- A block made out of cells. -/
theorem BR.made {ι : Ren} {w : World} {b t : Nat} {l : List V} {vs : List Value} {sz : Nat} {ex : Bool} {z : List V} {tl : List Value} (hv : VRL ι l vs) (h1 : ∀ v ∈ vs, v.oneCell' = true)
    (hb : w.heap[b]? = some (.cells (vs ++ tl).toArray t (0, 0))) : BR ι w ⟨b, 0, (vs ++ tl).length, sz⟩ (.cells t l.length sz ex z (Tr.lay l 0 .l)) := by
  have hlen := hv.length
  refine ⟨_, _, hb, by simp, by simp only [List.length_append]; omega, rfl, .inl rfl, fun j hj => ?_⟩
  rw [cell_lay, if_pos (by omega), Nat.sub_zero]
  obtain ⟨v, hv, hr⟩ := hv.get j (l.getD j .u) (by simp [List.getD, List.getElem?_eq_getElem hj])
  have hj' : j < vs.length := by omega
  refine ⟨v, ?_, hr, h1 v (List.mem_of_getElem? hv)⟩
  simp only [Nat.zero_add, List.getElem?_toArray, List.getElem?_append, if_pos hj', hv]
end Go.Ev
