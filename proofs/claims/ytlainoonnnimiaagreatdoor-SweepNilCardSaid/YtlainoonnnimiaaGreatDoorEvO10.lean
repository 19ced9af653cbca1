/- THE ABSTRACT MACHINE AND THE MODEL: append. Own work. -/
import Derived.Test.YtlainoonnnimiaaGreatDoorEvO9
set_option linter.all false
set_option linter.unusedVariables false
set_option linter.constructorNameAsVariable false
set_option linter.unnecessarySimpa false
set_option linter.unusedSimpArgs false
set_option linter.unusedSimpArgs false
namespace Go.Ev

section
variable {P : Program} {T : Tr TI} {ι : Ren} {h : Tr Blk} {c r W : Nat} {w : World} {out : Out} {K : V → M}

/-- The cells of what is appended, or copied. -/
def Cells (P : Program) (s : Sem (Array Value)) (w : World) (ι : Ren) (l : List V) (k : Nat) : Prop :=
  ∃ vs : List Value, (∀ w₁ : World, w₁.heap = w.heap → s.run P w₁ = .ok vs.toArray w₁) ∧ VRL ι l vs ∧ (∀ v ∈ vs, v.oneCell' = true) ∧ vs.length = k

theorem firstC_ok (S : Sim ι h w) {sz n m : Nat} {x : V} {x' : Value} {K : List V → M} (hx : VR ι x x') (hm : lenV x = some m) (hn : n ≤ m) (hr : run (firstC sz n x K) h c r W = some out) :
    ∃ l r', run (K l) h c r' W = some out ∧ Cells P (Builtin.firstCells sz n x') w ι l (n * sz) := by
  unfold firstC at hr
  split at hr
  · simp only [VR] at hx; subst hx
    have hm0 : m = 0 := by simpa [lenV] using hm.symm
    have : n = 0 := by omega
    subst this
    exact ⟨[], r, hr, [], fun w₁ _ => rfl, by simp [VRL], by simp, by simp⟩
  · rename_i b o len cap
    have hml : m = len := by simpa [lenV] using hm.symm
    simp only [VR] at hx
    obtain ⟨L, cp, hL, hcp, hv⟩ := hx
    cases h0 : Nat.beq n 0 with
    | true =>
      rw [h0, cond_true] at hr
      rw [nbeq_iff, decide_eq_true_eq] at h0
      subst h0
      have hxe : ∃ a m' c'', x' = .slice (some a) m' c'' := by
        cases cap with
        | some cc => exact ⟨_, _, _, hv.2⟩
        | none => rcases hv with ⟨hv, _⟩ | ⟨_, q', hv⟩; exact ⟨_, _, _, hv⟩; exact ⟨_, _, _, hv⟩
      obtain ⟨a, m', c'', rfl⟩ := hxe
      refine ⟨[], r, hr, [], fun w₁ _ => ?_, by simp [VRL], by simp, by simp⟩
      simp [Builtin.firstCells, loadCells, loadCellsFrom]
    | false =>
      rw [h0, cond_false] at hr
      rw [nbeq_iff, decide_eq_false_iff_not] at h0
      obtain ⟨q, hq, hr⟩ := run_rd_some hr
      split at hr
      · rename_i t mm s' ex z cc
        obtain ⟨hle, hr⟩ := run_bif hr
        rw [ble_iff, decide_eq_true_eq] at hle
        obtain ⟨hB, _⟩ := S.at hq hL
        have hxe : ∃ c'', x' = .slice (some ⟨L.blk, L.off + o, none⟩) len c'' := by
          cases cap with
          | some cc => exact ⟨_, hv.2⟩
          | none => rcases hv with ⟨hv, _⟩ | ⟨hz, q', hv⟩; exact ⟨_, hv⟩; omega
        obtain ⟨c'', rfl⟩ := hxe
        obtain ⟨vs, e1, e2, e3, e4⟩ := run_cells (P := P) hB hle
        refine ⟨_, _, hr, vs, fun w₁ hw => ?_, e2, e3, e4⟩
        obtain ⟨vs', e1', e2', e3', e4'⟩ := run_cells (P := P) (hB.congr (w' := w₁) (by rw [hw])) hle
        have : vs' = vs := by
          have hcell : ∀ a, w₁.cell? a = w.cell? a := fun a => by simp [World.cell?, hw]
          have a1 := e1
          have a2 := e1'
          rw [run_loadCells w _ (n * sz) (fun j => (w.cell? ((⟨L.blk, L.off + o, none⟩ : Addr).add j)).getD undef) (fun j hj => by
            obtain ⟨v, a, _, _⟩ := hB.cell (j := o + j) (by omega)
            rw [addr_add, Nat.add_assoc, a]; rfl)] at a1
          rw [run_loadCells w₁ _ (n * sz) (fun j => (w.cell? ((⟨L.blk, L.off + o, none⟩ : Addr).add j)).getD undef) (fun j hj => by
            obtain ⟨v, a, _, _⟩ := hB.cell (j := o + j) (by omega)
            rw [hcell, addr_add, Nat.add_assoc, a]; rfl)] at a2
          injection a1 with a1
          injection a2 with a2
          have := a2.symm.trans a1
          simpa using this
        rw [this] at e1'
        simpa [Builtin.firstCells] using e1'
      · simp [run_fail] at hr
  · rename_i l
    obtain ⟨h1, hr⟩ := run_bif hr
    rw [nbeq_iff, decide_eq_true_eq] at h1
    subst h1
    simp only [VR] at hx
    obtain ⟨bs, rfl, rfl⟩ := hx
    have hml : m = (bytes bs).length := by simpa [lenV] using hm.symm
    obtain ⟨g1, g2⟩ := bytes_cells (ι := ι) bs
    have hsz : (bytes bs).length = bs.size := by simp [bytes]
    refine ⟨_, r, hr, (bs.data.toList.map fun b => Value.int .u8 b.toNat).take n, fun w₁ _ => ?_, ?_, fun v hv => g2 v (List.mem_of_mem_take hv), ?_⟩
    · simp only [Builtin.firstCells, Sem.run_pure]
      congr 1
      apply Array.ext'
      simp [ByteArray.data_extract, List.map_take]
    · have := g1.take n
      rwa [← List.map_take] at this
    · simp
      omega
  · simp [run_fail] at hr

theorem lenV_ok {x : V} {x' : Value} {n : Nat} (hx : VR ι x x') (hn : lenV x = some n) : (Builtin.lenOf x').run P w = .ok n w := by
  unfold lenV at hn
  split at hn
  · cases hn; simp only [VR] at hx; subst hx; rfl
  · cases hn
    simp only [VR] at hx
    obtain ⟨L, cp, hL, hcp, hv⟩ := hx
    split at hv
    · obtain ⟨_, rfl⟩ := hv; rfl
    · rcases hv with ⟨rfl, _⟩ | ⟨rfl, _, rfl⟩ <;> rfl
  · cases hn
    simp only [VR] at hx
    obtain ⟨bs, rfl, rfl⟩ := hx
    simp [Builtin.lenOf, bytes]
  · cases hn

/-- The rest of 'append', when its arguments are read. -/
def appRest (elem size bytes : Nat) (zeros : Bool) (base : Option Addr) (sLen sCap n : Nat) (s x : Value) (appended : Sem (Array Value)) : Sem Value :=
  if sLen + n ≤ sCap then do
    let new ← appended
    if let some a := base then storeCells (a.add (sLen * size)) new.toList
    pure (.slice base (sLen + n) sCap)
  else do
    if ((sLen + n : Nat) : Int) > IntKind.i64.max ∧ (zeros ∨ bytes = 0) then runtimePanic (.error "growslice: len out of range")
    if Builtin.nextslicecap (sLen + n) sCap * bytes > 2 ^ 48 then (if zeros then runtimePanic (.error "growslice: len out of range") else do
      if !(← Builtin.mayShare size sLen n base x) then mark .noRoom
      unsupported (.resourceLimit "append: a slice or a string whose bytes no memory bears"))
    let newCap ← choose (.appendCap (sLen + n) sCap elem)
    askRoom (newCap * bytes)
    let old ← Builtin.firstCells size sLen s
    let new ← appended
    let rest := Builtin.zeroCells (← zeroValue elem).cells (newCap - (sLen + n))
    pure (.slice (some (← newRow elem (old ++ new ++ rest))) (sLen + n) newCap)

theorem growBy_le (N : Nat) : ∀ (k c : Nat), c ≤ 2 * N + 768 → Builtin.growBy N k c ≤ 2 * N + 768
  | 0, c, h => h
  | k + 1, c, h => by
    unfold Builtin.growBy
    split
    · exact h
    · exact growBy_le N k _ (by omega)

theorem nextcap_le (need old : Nat) (h : old < need) : Builtin.nextslicecap need old ≤ 2 * need + 768 := by
  unfold Builtin.nextslicecap
  split
  · omega
  · split
    · omega
    · exact growBy_le need 4 old (by omega)

/-- What 'append' comes to where a new row is made. -/
theorem appRest_new {elem size bytes : Nat} {zeros : Bool} {base : Option Addr} {sLen sCap n : Nat} {s x : Value} {appended : Sem (Array Value)} {old new : List Value} {z : Value}
    (hcap : sCap < sLen + n) (hb : bytes ≤ 65536) (hb1 : 1 ≤ bytes) (hl : sLen + n ≤ 1073741824) (hold : ∀ w₁ : World, w₁.heap = w.heap → (Builtin.firstCells size sLen s).run P w₁ = .ok old.toArray w₁)
    (hnew : ∀ w₁ : World, w₁.heap = w.heap → appended.run P w₁ = .ok new.toArray w₁) (hz : ∀ w₁ : World, (zeroValue elem).run P w₁ = .ok z w₁) (hsz : z.cells.size = size) :
    ∃ (cap : Nat) (tl : List Value), sLen + n ≤ cap ∧ tl.length = (cap - (sLen + n)) * size ∧
      (appRest elem size bytes zeros base sLen sCap n s x appended).run P w = (do let a ← newRow elem (old ++ new ++ tl).toArray; pure (.slice (some a) (sLen + n) cap) : Sem Value).run P w.drew := by
  let cap := (sLen + n) + w.tape w.drawn (.appendCap (sLen + n) sCap elem) % (2 ^ 63 - (sLen + n))
  refine ⟨cap, (Builtin.zeroCells z.cells (cap - (sLen + n))).toList, Nat.le_add_right _ _, by simp [Builtin.zeroCells, hsz], ?_⟩
  have hmax : IntKind.i64.max = 9223372036854775807 := by decide
  have hnc := nextcap_le (sLen + n) sCap hcap
  have h1 : ¬ (((sLen + n : Nat) : Int) > IntKind.i64.max ∧ (zeros ∨ bytes = 0)) := by rw [hmax]; omega
  have h2 : ¬ (Builtin.nextslicecap (sLen + n) sCap * bytes > 2 ^ 48) := by
    have : Builtin.nextslicecap (sLen + n) sCap * bytes ≤ (2 * (sLen + n) + 768) * 65536 := Nat.mul_le_mul hnc hb
    have : (2 * (sLen + n) + 768) * 65536 ≤ 2 ^ 48 := by omega
    omega
  unfold appRest
  rw [if_neg (by omega), if_neg h1]
  dsimp only
  rw [if_neg h2]
  simp only [Sem.run_bind, run_choose, Question.forced, Bool.false_eq_true, if_false, Question.cut, run_askRoom, Result.andThen_ok]
  have e1 := hold w.drew rfl
  have e2 := hnew w.drew rfl
  have e3 := hz w.drew
  unfold World.drew at e1 e2 e3 ⊢
  simp only [e1, e2, e3, Result.andThen_ok]
  have : (old ++ new ++ (Builtin.zeroCells z.cells (cap - (sLen + n))).toList).toArray = old.toArray ++ new.toArray ++ Builtin.zeroCells z.cells (cap - (sLen + n)) := by apply Array.ext'; simp
  rw [this]
end
end Go.Ev
