/- THE ABSTRACT MACHINE AND THE MODEL: types, numbers, texts. Own work. -/
import Derived.Test.YtlainoonnnimiaaGreatDoorEvS2
set_option linter.all false
set_option linter.unusedVariables false
set_option linter.constructorNameAsVariable false
set_option linter.unnecessarySimpa false
set_option linter.unusedSimpArgs false
namespace Go.Ev

theorem ofValue_ok (ι : Ren) (v : Value) : VR ι (ofValue v) v := by
  unfold ofValue
  split <;> simp only [VR] <;> first
    | trivial
    | exact ⟨_, rfl, rfl⟩
    | exact ⟨_, rfl, by simp [VRL]⟩

def aggD : TypeDesc → Bool
  | .struct _ | .array _ _ => true
  | _ => false

noncomputable def tdOf (P : Program) (t : Nat) (d : TypeDesc) : Option TD :=
  match d with
  | .bool => some .bool
  | .int k => some (.int k)
  | .string => some .str
  | .pointer e => some (.ptr e)
  | .slice e => (P.info? e).map fun i => .slice e i.size i.bytes
  | .array n e => (P.info? e).map fun i => .arr n e i.size
  | .map k e => some (.map k e)
  | .struct fs => if P.stoodInHeld t = false ∧ fs.toList.all (fun f => f.name != "_" && (P.info? f.type).isSome) = true then some (.struct (fs.toList.map fun f => (f.offset, f.type))) else none
  | .func _ _ _ => some .func
  | .interface _ => some .iface
  | _ => none

def zeroOk (agg : Bool) (size : Nat) (z : Value) : Bool :=
  match z with
  | .agg cs => agg && cs.size == size && cs.toList.all (·.oneCell')
  | .tuple _ => false
  | _ => !agg && size == 1

noncomputable def tiOf (P : Program) (t : Nat) : Option TI :=
  match P.info? t, P.underlying t with
  | some i, some d => (match i.zero, tdOf P t d with
      | some z, some td => if zeroOk (aggD d) i.size z = true then some ⟨td, aggD d, i.size, z.cells.toList.map ofValue, P.eqGuardType P.depth t⟩ else none
      | _, _ => none)
  | _, _ => none

/-- What is told of types is so. -/
def TyOk (P : Program) (T : Tr TI) : Prop := ∀ t ti, T.get t = some ti → tiOf P t = some ti

structure TyV (P : Program) (t : Nat) (ti : TI) (d : TypeDesc) : Prop where
  und : P.underlying t = some d
  td : tdOf P t d = some ti.d
  agg : ti.agg = aggD d
  eqg : P.eqGuardType P.depth t = ti.eqg
  rest : ∃ i z, P.info? t = some i ∧ i.size = ti.size ∧ i.zero = some z ∧ z.cells.toList.map ofValue = ti.zero ∧ zeroOk (aggD d) i.size z = true

theorem TyOk.at {P : Program} {T : Tr TI} (h : TyOk P T) {t ti} (e : T.get t = some ti) : ∃ d, TyV P t ti d := by
  have := h t ti e
  unfold tiOf at this
  split at this
  · rename_i i d hi hd
    split at this
    · rename_i z td hz htd
      split at this
      · rename_i hzo
        cases this
        exact ⟨d, hd, htd, rfl, rfl, i, z, hi, rfl, hz, rfl, hzo⟩
      · cases this
    · cases this
  · cases this

section
variable {P : Program} {t : Nat} {ti : TI} {d : TypeDesc} (w : World)

theorem TyV.run_und (h : TyV P t ti d) : (underlying t).run P w = .ok d w := run_underlying h.und w
theorem TyV.run_size (h : TyV P t ti d) : (sizeOf t).run P w = .ok ti.size w := by
  obtain ⟨i, z, h1, h2, _⟩ := h.rest
  simp [sizeOf, typeInfo, h1, h2]
theorem TyV.run_isAgg (h : TyV P t ti d) : (isAgg t).run P w = .ok ti.agg w := by
  rw [h.agg]
  simp only [isAgg, Sem.run_bind, h.run_und, Result.andThen_ok]
  cases d <;> rfl
theorem run_sizeOf_info {e : Nat} {i : TypeInfo} (h : P.info? e = some i) : (sizeOf e).run P w = .ok i.size w := by simp [sizeOf, typeInfo, h]

theorem zeroOk_one {agg size z} (h : zeroOk agg size z = true) : z.cells.toList.length = size ∧ (∀ v ∈ z.cells.toList, v.oneCell' = true) ∧ ((agg = true ∧ z = .agg z.cells) ∨ (agg = false ∧ z.cells = #[z] ∧ z.oneCell' = true)) := by
  unfold zeroOk at h
  split at h
  · rename_i cs
    simp only [Bool.and_eq_true, beq_iff_eq, List.all_eq_true] at h
    exact ⟨by simpa [Value.cells] using h.1.2, by simpa [Value.cells] using h.2, .inl ⟨h.1.1, rfl⟩⟩
  · cases h
  · rename_i h1 h2
    simp only [Bool.and_eq_true, beq_iff_eq, Bool.not_eq_true'] at h
    have hz : z.cells = #[z] := by cases z <;> first | rfl | (exact absurd rfl (h1 _))
    have h3 : z.oneCell' = true := by cases z <;> first | rfl | (exact absurd rfl (h1 _)) | (exact absurd rfl (h2 _))
    exact ⟨by rw [hz]; simp [h.2], by rw [hz]; simpa using h3, .inr ⟨h.1, hz, h3⟩⟩

theorem VRL_ofValue (ι : Ren) (l : List Value) : VRL ι (l.map ofValue) l := by
  induction l with
  | nil => simp [VRL]
  | cons v l ih => simp only [List.map_cons, VRL]; exact ⟨ofValue_ok ι v, ih⟩

/-- The zero of a type. -/
theorem TyV.zero (h : TyV P t ti d) (ι : Ren) : ∃ z, (zeroValue t).run P w = .ok z w ∧ VRL ι ti.zero z.cells.toList ∧ (∀ v ∈ z.cells.toList, v.oneCell' = true) ∧ z.cells.toList.length = ti.size ∧ VR ι (mkV ti.agg ti.zero) z := by
  obtain ⟨i, z, h1, h2, h3, h4, h5⟩ := h.rest
  obtain ⟨g1, g2, g3⟩ := zeroOk_one h5
  refine ⟨z, by simp [zeroValue, typeInfo, h1, h3], by rw [← h4]; exact VRL_ofValue _ _, g2, by rw [g1, h2], ?_⟩
  rw [← h4, h.agg]
  rcases g3 with ⟨ha, hz⟩ | ⟨ha, hz, ho⟩
  · rw [ha, hz]
    simp only [mkV, cond_true, VR, Value.cells]
    exact ⟨_, rfl, VRL_ofValue _ _, by simpa [Value.cells] using g2⟩
  · rw [ha, hz]
    simp only [mkV, cond_false, List.map_cons, List.map_nil]
    exact ofValue_ok _ _

/-- A value's cells. -/
theorem VR.cells {ι : Ren} {x : V} {v : Value} (hv : VR ι x v) {K : List V → M} {h : Tr Blk} {c r W : Nat} {out : Out} (hr : run (x.cells K) h c r W = some out) :
    ∃ l, run (K l) h c r W = some out ∧ VRL ι l v.cells.toList ∧ (∀ u ∈ v.cells.toList, u.oneCell' = true) ∧ ((∃ l', x = .ag l' ∧ l = l') ∨ l = [x] ∧ v.cells = #[v]) := by
  unfold V.cells at hr
  split at hr
  · rename_i l
    simp only [VR] at hv
    obtain ⟨cs, rfl, h1, h2⟩ := hv
    exact ⟨l, hr, h1, h2, .inl ⟨l, rfl, rfl⟩⟩
  · simp [run_fail] at hr
  · simp [run_fail] at hr
  · rename_i h1 h2 h3
    refine ⟨[x], hr, ?_⟩
    have : v.cells = #[v] ∧ v.oneCell' = true := by
      cases x <;> simp only [VR] at hv
      case u => exact absurd rfl h2
      case ag => exact absurd rfl (h1 _)
      case tu => exact absurd rfl (h3 _)
      case sl b o len cap =>
        obtain ⟨L, c', _, _, hv⟩ := hv
        cases cap with
        | some c => obtain ⟨_, rfl⟩ := hv; exact ⟨rfl, rfl⟩
        | none => rcases hv with ⟨rfl, _⟩ | ⟨_, _, rfl⟩ <;> exact ⟨rfl, rfl⟩
      case slq => obtain ⟨_, _, _, _, rfl, _⟩ := hv; exact ⟨rfl, rfl⟩
      all_goals first
        | (subst hv; exact ⟨rfl, rfl⟩)
        | (obtain ⟨_, rfl, _⟩ := hv; exact ⟨rfl, rfl⟩)
        | (obtain ⟨_, _, rfl⟩ := hv; exact ⟨rfl, rfl⟩)
        | (obtain ⟨_, _, _, rfl, _⟩ := hv; exact ⟨rfl, rfl⟩)
    rw [this.1]
    exact ⟨VRL.cons hv VRL.nil, by simpa using this.2, .inr ⟨rfl, rfl⟩⟩
end

theorem ble_iff (a b : Nat) : Nat.ble a b = decide (a ≤ b) := by rw [Bool.eq_iff_iff]; simp [Nat.ble_eq]
theorem nbeq_iff (a b : Nat) : Nat.beq a b = decide (a = b) := by rw [Bool.eq_iff_iff]; simp
theorem nblt_iff (a b : Nat) : Nat.blt a b = decide (a < b) := by rw [Bool.eq_iff_iff]; simp [Nat.blt, Nat.ble_eq]; omega

theorem run_bif {b : Bool} {A : M} {h : Tr Blk} {c r W : Nat} {out : Out} (e : run (bif b then A else .fail) h c r W = some out) : b = true ∧ run A h c r W = some out := by
  cases b
  · simp [run_fail] at e
  · exact ⟨rfl, e⟩
theorem run_bif' {b : Bool} {A : M} {h : Tr Blk} {c r W : Nat} {out : Out} (e : run (bif b then .fail else A) h c r W = some out) : b = false ∧ run A h c r W = some out := by
  cases b
  · exact ⟨rfl, e⟩
  · simp [run_fail] at e

theorem run_rd_some {b : Nat} {k : Blk → M} {h : Tr Blk} {c r W : Nat} {out : Out} (e : run (.rd b k) h c r W = some out) : ∃ x, h.get b = some x ∧ run (k x) h c (bit r b) W = some out := by
  rw [run_rd] at e
  split at e
  · exact ⟨_, by assumption, e⟩
  · cases e
theorem run_wr_some {b : Nat} {x : Blk} {k : M} {h : Tr Blk} {c r W : Nat} {out : Out} (e : run (.wr b x k) h c r W = some out) : run k (h.set x b) c r (bit W b) = some out := by
  rw [run_wr] at e
  split at e
  · exact e
  · cases e

theorem run_c_le (m : M) : ∀ {h c r W out}, run m h c r W = some out → c ≤ out.c := by
  induction m with
  | ret v => intro h c r W out e; rw [run_ret] at e; cases e; exact Nat.le_refl _
  | fail => intro h c r W out e; rw [run_fail] at e; cases e
  | rd b k ih => intro h c r W out e; rw [run_rd] at e; split at e; exact ih _ e; cases e
  | wr b x k ih => intro h c r W out e; rw [run_wr] at e; split at e; exact ih e; cases e
  | al x k ih => intro h c r W out e; rw [run_al] at e; have := ih _ e; omega
  | sub m k ihm ihk => intro h c r W out e; rw [run_sub] at e; split at e; rename_i o ho; have := ihm ho; have := ihk _ _ _ e; omega; cases e

theorem run_w_mono (m : M) : ∀ {h c r W out} (b : Nat), run m h c r W = some out → W.testBit b = true → out.w.testBit b = true := by
  induction m with
  | ret v => intro h c r W out b e hb; rw [run_ret] at e; cases e; exact hb
  | fail => intro h c r W out b e; rw [run_fail] at e; cases e
  | rd b' k ih => intro h c r W out b e hb; rw [run_rd] at e; split at e; exact ih _ b e hb; cases e
  | wr b' x k ih => intro h c r W out b e hb; rw [run_wr] at e; split at e; exact ih b e (by rw [bit_test, hb]; rfl); cases e
  | al x k ih => intro h c r W out b e hb; rw [run_al] at e; exact ih _ b e hb
  | sub m k ihm ihk => intro h c r W out b e hb; rw [run_sub] at e; split at e; rename_i o ho; exact ihk _ _ _ b e (by rw [Nat.testBit_or, hb]; rfl); cases e

/-- What an operation has to come to: the model's run goes well, the computation goes on in what stands for it. -/
def Good (P : Program) (s : Sem Value) (ι : Ren) (h : Tr Blk) (c W : Nat) (w : World) (out : Out) (K : V → M) : Prop :=
  ∃ v v' ι' h' c' r' W' w', run (K v) h' c' r' W' = some out ∧ s.run P w = .ok v' w' ∧ VR ι' v v' ∧ Way ι h c W w ι' h' c' W' w'
def GoodU (P : Program) (s : Sem Unit) (ι : Ren) (h : Tr Blk) (c W : Nat) (w : World) (out : Out) (K : V → M) : Prop :=
  ∃ ι' h' c' r' W' w', run (K (.tu [])) h' c' r' W' = some out ∧ s.run P w = .ok () w' ∧ Way ι h c W w ι' h' c' W' w'

theorem Good.now {P : Program} {s : Sem Value} {ι h c r W w out K} {v : V} {v' : Value} (S : Sim ι h w) (hr : run (K v) h c r W = some out) (hs : s.run P w = .ok v' w) (hv : VR ι v v') : Good P s ι h c W w out K :=
  ⟨v, v', ι, h, c, r, W, w, hr, hs, hv, Way.refl S⟩

/-- Names that are to come are free. -/
def Fresh (ι : Ren) (h : Tr Blk) (c : Nat) (out : Out) : Prop := ∀ b, c ≤ b → b < out.c → ι b = none ∧ h.get b = none

theorem Fresh.way {ι h c W w ι' h' c' W' w' out} (F : Fresh ι h c out) (p : Way ι h c W w ι' h' c' W' w') : Fresh ι' h' c' out := fun b hb hb' => by
  have hc := p.cle
  obtain ⟨f1, f2⟩ := F b (by omega) hb'
  refine ⟨?_, p.hnew b hb f2⟩
  cases e : ι' b with
  | none => rfl
  | some L =>
    have := p.new b f1 (by rw [e]; simp)
    omega
end Go.Ev
