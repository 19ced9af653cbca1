/- THE ABSTRACT MACHINE AND THE MODEL: parts, '=='. Own work. -/
import Derived.Test.YtlainoonnnimiaaGreatDoorEvO1
import Derived.Laws.StructEq
import Derived.ChangeKeysEq
set_option linter.all false
set_option linter.unusedVariables false
set_option linter.constructorNameAsVariable false
set_option linter.unnecessarySimpa false
set_option linter.unusedSimpArgs false
set_option linter.unusedSimpArgs false
namespace Go.Ev

theorem VR.u_of {ι : Ren} {v : Value} : VR ι .u v := by simp [VR]

section
variable {P : Program} {T : Tr TI} {ι : Ren} {w : World}

theorem part_ok {ft : Nat} {fi : TI} {d : TypeDesc} (hf : TyV P ft fi d) {l : List V} {cs : Array Value} (hl : VRL ι l cs.toList) (h1 : ∀ v ∈ cs.toList, v.oneCell' = true) {o : Nat}
    (ho : fi.agg = false → o < l.length) : ∃ v, (part ft cs o).run P w = .ok v w ∧ VR ι (partV fi l o) v := by
  simp only [part, Sem.run_bind, hf.run_isAgg, Result.andThen_ok, Sem.run_ite]
  cases ha : fi.agg with
  | true =>
    simp only [if_true, hf.run_size, Result.andThen_ok, Sem.run_pure]
    refine ⟨_, rfl, ?_⟩
    simp only [partV, ha, cond_true, VR]
    refine ⟨_, rfl, ?_, ?_⟩
    · have := (hl.drop o).take fi.size
      simpa [Array.toList_extract, List.extract, Nat.add_sub_cancel_left] using this
    · intro v hv
      refine h1 v ?_
      rw [Array.toList_extract] at hv
      exact List.mem_of_mem_drop (List.mem_of_mem_take hv)
  | false =>
    have hlt := ho ha
    obtain ⟨v, hv, hr⟩ := hl.get o (l.getD o .u) (by simp [List.getD, List.getElem?_eq_getElem hlt])
    have hv' : cs[o]? = some v := by simpa using hv
    simp only [Bool.false_eq_true, if_false, hv', Sem.run_pure]
    exact ⟨v, rfl, by simpa [partV, ha] using hr⟩

theorem TyV.int {t ti d k} (h : TyV P t ti d) (e : ti.d = .int k) : d = .int k := by
  have := h.td; rw [e] at this; unfold tdOf at this; split at this <;> simp_all
theorem TyV.bool {t ti d} (h : TyV P t ti d) (e : ti.d = .bool) : d = .bool := by
  have := h.td; rw [e] at this; unfold tdOf at this; split at this <;> simp_all
theorem TyV.str {t ti d} (h : TyV P t ti d) (e : ti.d = .str) : d = .string := by
  have := h.td; rw [e] at this; unfold tdOf at this; split at this <;> simp_all
theorem TyV.ptr {t ti d x} (h : TyV P t ti d) (e : ti.d = .ptr x) : d = .pointer x := by
  have := h.td; rw [e] at this; unfold tdOf at this; split at this <;> simp_all
theorem TyV.slice {t ti d e n b} (h : TyV P t ti d) (x : ti.d = .slice e n b) : d = .slice e ∧ ∃ i, P.info? e = some i ∧ i.size = n ∧ i.bytes = b := by
  have := h.td; rw [x] at this; unfold tdOf at this; split at this <;> simp at this
  all_goals first
    | (obtain ⟨i, h1, rfl, h3, h4⟩ := this; exact ⟨rfl, i, h1, h3, h4⟩)
    | (exact absurd this.2 (by simp))
theorem TyV.arr {t ti d m e n} (h : TyV P t ti d) (x : ti.d = .arr m e n) : d = .array m e ∧ ∃ i, P.info? e = some i ∧ i.size = n := by
  have := h.td; rw [x] at this; unfold tdOf at this; split at this <;> simp at this
  all_goals first
    | (obtain ⟨i, h1, rfl, rfl, h4⟩ := this; exact ⟨rfl, i, h1, h4⟩)
    | (exact absurd this.2 (by simp))
theorem TyV.map {t ti d k e} (h : TyV P t ti d) (x : ti.d = .map k e) : d = .map k e := by
  have := h.td; rw [x] at this; unfold tdOf at this; split at this <;> simp_all
theorem TyV.func {t ti d} (h : TyV P t ti d) (x : ti.d = .func) : ∃ a b c, d = .func a b c := by
  have := h.td; rw [x] at this; unfold tdOf at this; split at this <;> simp_all
theorem TyV.iface {t ti d} (h : TyV P t ti d) (x : ti.d = .iface) : ∃ a, d = .interface a := by
  have := h.td; rw [x] at this; unfold tdOf at this; split at this <;> simp_all
theorem TyV.struct {t ti d fs} (h : TyV P t ti d) (x : ti.d = .struct fs) : ∃ fields : Array Field, d = .struct fields ∧ fs = (fields.toList.map fun f => (f.offset, f.type)) ∧ P.stoodInHeld t = false ∧ (∀ f ∈ fields.toList, f.name ≠ "_" ∧ ∃ i, P.info? f.type = some i) := by
  have ht := h.td
  rw [x] at ht
  unfold tdOf at ht
  split at ht
  case h_8 fields =>
    split at ht
    · rename_i hc
      obtain ⟨h1, h2⟩ := hc
      cases ht
      refine ⟨fields, rfl, rfl, h1, fun f hf => ?_⟩
      have := List.all_eq_true.1 h2 f hf
      rw [Bool.and_eq_true] at this
      exact ⟨by simpa using this.1, Option.isSome_iff_exists.1 this.2⟩
    · cases ht
  all_goals first
    | (cases ht; done)
    | (simp at ht; done)
end
end Go.Ev
namespace Go.Ev
theorem aeq_u1 (T : Tr TI) (f t : Nat) (y : V) : aeq T f t .u y = none := by
  cases f with
  | zero => rfl
  | succ f =>
    rw [aeq_succ, aeqStep]
    cases T.get t with
    | none => rfl
    | some ti => obtain ⟨d, _, _, _, _⟩ := ti; cases d <;> rfl
theorem aeq_u2 (T : Tr TI) (f t : Nat) (x : V) : aeq T f t x .u = none := by
  cases f with
  | zero => rfl
  | succ f =>
    rw [aeq_succ, aeqStep]
    cases T.get t with
    | none => rfl
    | some ti => obtain ⟨d, _, _, _, _⟩ := ti; cases d <;> cases x <;> rfl

theorem aeq_q1 (T : Tr TI) (f t : Nat) {x : V} (y : V) (h : isQ x = true) : aeq T f t x y = none := by
  cases f with
  | zero => rfl
  | succ f =>
    rw [aeq_succ, aeqStep]
    cases T.get t with
    | none => rfl
    | some ti => obtain ⟨d, _, _, _, _⟩ := ti; cases x <;> first | (simp [isQ] at h; done) | (cases d <;> rfl)
theorem aeq_q2 (T : Tr TI) (f t : Nat) (x : V) {y : V} (h : isQ y = true) : aeq T f t x y = none := by
  cases f with
  | zero => rfl
  | succ f =>
    rw [aeq_succ, aeqStep]
    cases T.get t with
    | none => rfl
    | some ti => obtain ⟨d, _, _, _, _⟩ := ti; cases y <;> first | (simp [isQ] at h; done) | (cases d <;> cases x <;> rfl)

theorem both_some {a b : Option Bool} {r : Bool} (h : both a b = some r) : (a = some false ∧ r = false) ∨ (a = some true ∧ b = some r) := by
  cases a with
  | none => simp [both] at h
  | some a => cases a <;> simp_all [both]

section
variable {P : Program} {T : Tr TI} {ι : Ren}

theorem ble_cases {n m : Nat} (h : n ≤ m) : ∃ k, m = n + k := ⟨m - n, by omega⟩

set_option maxHeartbeats 2000000 in
theorem aeq_ok (hT : TyOk P T) : ∀ (f t : Nat) (x y : V) (r : Bool), aeq T f t x y = some r → ∀ (x' y' : Value) (w : World), VR ι x x' → VR ι y y' → ∀ k, (Op.equalIn (f + k) t x' y').run P w = .ok r w := by
  intro f
  induction f with
  | zero => intro t x y r h; cases h
  | succ f ih =>
    intro t x y r h x' y' w hx hy k
    rw [show f + 1 + k = (f + k) + 1 from by omega]
    rw [aeq_succ, aeqStep] at h
    have h' := h
    clear h
    cases ht : T.get t with
    | none => rw [ht] at h'; cases h'
    | some ti =>
      rw [ht] at h'
      obtain ⟨d, hd⟩ := hT.at ht
      simp only at h'
      split at h'
      · rename_i e; simp only [VR] at hx hy; subst hx hy; cases hd.bool e; cases h'; simp only [Op.equalIn, Sem.run_bind, hd.run_und, Result.andThen_ok, Sem.run_pure, Option.isNone_none, Option.isNone_some, beq_self_eq_true, if_true]
      · rename_i q k1 a k2 b e
        simp only [VR] at hx hy; subst hx hy
        cases hd.int e
        by_cases hk : ikEq k1 k2 = true
        · have : k1 = k2 := by cases k1 <;> cases k2 <;> first | rfl | cases hk
          subst this
          rw [hk, cond_true, ieq_iff] at h'
          cases h'
          simp only [Op.equalIn, Sem.run_bind, hd.run_und, Result.andThen_ok, Sem.run_pure, Option.isNone_none, Option.isNone_some, beq_self_eq_true, if_true]
          rfl
        · rw [Bool.not_eq_true] at hk; rw [hk] at h'; cases h'
      · rename_i a b e
        simp only [VR] at hx hy
        obtain ⟨s, rfl, rfl⟩ := hx
        obtain ⟨s', rfl, rfl⟩ := hy
        cases hd.str e
        cases h'
        simp only [Op.equalIn, Sem.run_bind, hd.run_und, Result.andThen_ok, Sem.run_pure]
        rw [beq_toListBytes, cmpL_eq, toList_bytes, toList_bytes]
        congr 1
        unfold bytes
        by_cases e : s.data.toList = s'.data.toList
        · simp [e]
        · have : ¬ s.data.toList.map UInt8.toNat = s'.data.toList.map UInt8.toNat := fun e' => e (bytes_inj e')
          rw [beq_eq_false_iff_ne.2 this, beq_eq_false_iff_ne.2 e]
      · rename_i e; simp only [VR] at hx hy; subst hx hy; cases hd.ptr e; cases h'; simp only [Op.equalIn, Sem.run_bind, hd.run_und, Result.andThen_ok, Sem.run_pure, Option.isNone_none, Option.isNone_some, beq_self_eq_true, if_true]
      · rename_i e; simp only [VR] at hx hy; obtain ⟨L, _, rfl⟩ := hy; subst hx; cases hd.ptr e; cases h'; simp only [Op.equalIn, Sem.run_bind, hd.run_und, Result.andThen_ok, Sem.run_pure, Option.isNone_none, Option.isNone_some, beq_self_eq_true, if_true]
      · rename_i e; simp only [VR] at hx hy; obtain ⟨L, _, rfl⟩ := hx; subst hy; cases hd.ptr e; cases h'; simp only [Op.equalIn, Sem.run_bind, hd.run_und, Result.andThen_ok, Sem.run_pure, Option.isNone_none, Option.isNone_some, beq_self_eq_true, if_true]
      · rename_i e; simp only [VR] at hx hy; subst hx hy; cases (hd.slice e).1; cases h'; simp only [Op.equalIn, Sem.run_bind, hd.run_und, Result.andThen_ok, Sem.run_pure, Option.isNone_none, Option.isNone_some, beq_self_eq_true, if_true]
      · rename_i cap e; simp only [VR] at hx hy; subst hx; cases (hd.slice e).1; cases h'
        obtain ⟨L, c', _, _, hv⟩ := hy
        cases cap with
        | some c => obtain ⟨_, rfl⟩ := hv; simp only [Op.equalIn, Sem.run_bind, hd.run_und, Result.andThen_ok, Sem.run_pure, Option.isNone_none, Option.isNone_some, beq_self_eq_true, if_true]
        | none => rcases hv with ⟨rfl, _⟩ | ⟨_, _, rfl⟩ <;> simp only [Op.equalIn, Sem.run_bind, hd.run_und, Result.andThen_ok, Sem.run_pure, Option.isNone_none, Option.isNone_some, beq_self_eq_true, if_true]
      · rename_i cap e; simp only [VR] at hx hy; subst hy; cases (hd.slice e).1; cases h'
        obtain ⟨L, c', _, _, hv⟩ := hx
        cases cap with
        | some c => obtain ⟨_, rfl⟩ := hv; simp only [Op.equalIn, Sem.run_bind, hd.run_und, Result.andThen_ok, Sem.run_pure, Option.isNone_none, Option.isNone_some, beq_self_eq_true, if_true]
        | none => rcases hv with ⟨rfl, _⟩ | ⟨_, _, rfl⟩ <;> simp only [Op.equalIn, Sem.run_bind, hd.run_und, Result.andThen_ok, Sem.run_pure, Option.isNone_none, Option.isNone_some, beq_self_eq_true, if_true]
      · rename_i e; simp only [VR] at hx hy; subst hx hy; cases hd.map e; cases h'; simp only [Op.equalIn, Sem.run_bind, hd.run_und, Result.andThen_ok, Sem.run_pure, Option.isNone_none, Option.isNone_some, beq_self_eq_true, if_true]
      · rename_i e; simp only [VR] at hx hy; obtain ⟨L, _, rfl⟩ := hy; subst hx; cases hd.map e; cases h'; simp only [Op.equalIn, Sem.run_bind, hd.run_und, Result.andThen_ok, Sem.run_pure, Option.isNone_none, Option.isNone_some, beq_self_eq_true, if_true]
      · rename_i e; simp only [VR] at hx hy; obtain ⟨L, _, rfl⟩ := hx; subst hy; cases hd.map e; cases h'; simp only [Op.equalIn, Sem.run_bind, hd.run_und, Result.andThen_ok, Sem.run_pure, Option.isNone_none, Option.isNone_some, beq_self_eq_true, if_true]
      · rename_i e; simp only [VR] at hx hy; subst hx hy; obtain ⟨_, _, _, rfl⟩ := hd.func e; cases h'; simp only [Op.equalIn, Sem.run_bind, hd.run_und, Result.andThen_ok, Sem.run_pure, Option.isNone_none, Option.isNone_some, beq_self_eq_true, if_true]
      · rename_i e; simp only [VR] at hx hy; obtain ⟨_, _, _, rfl, _⟩ := hy; subst hx; obtain ⟨_, _, _, rfl⟩ := hd.func e; cases h'; simp only [Op.equalIn, Sem.run_bind, hd.run_und, Result.andThen_ok, Sem.run_pure, Option.isNone_none, Option.isNone_some, beq_self_eq_true, if_true]
      · rename_i e; simp only [VR] at hx hy; obtain ⟨_, _, _, rfl, _⟩ := hx; subst hy; obtain ⟨_, _, _, rfl⟩ := hd.func e; cases h'; simp only [Op.equalIn, Sem.run_bind, hd.run_und, Result.andThen_ok, Sem.run_pure, Option.isNone_none, Option.isNone_some, beq_self_eq_true, if_true]
      · rename_i e; simp only [VR] at hx hy; subst hx hy; obtain ⟨_, rfl⟩ := hd.iface e; cases h'; simp only [Op.equalIn, Sem.run_bind, hd.run_und, Result.andThen_ok, Sem.run_pure, Option.isNone_none, Option.isNone_some, beq_self_eq_true, if_true]
      · rename_i e; simp only [VR] at hx hy; obtain ⟨_, rfl, _⟩ := hy; subst hx; obtain ⟨_, rfl⟩ := hd.iface e; cases h'; simp only [Op.equalIn, Sem.run_bind, hd.run_und, Result.andThen_ok, Sem.run_pure, Option.isNone_none, Option.isNone_some, beq_self_eq_true, if_true]
      · rename_i e; simp only [VR] at hx hy; obtain ⟨_, rfl, _⟩ := hx; subst hy; obtain ⟨_, rfl⟩ := hd.iface e; cases h'; simp only [Op.equalIn, Sem.run_bind, hd.run_und, Result.andThen_ok, Sem.run_pure, Option.isNone_none, Option.isNone_some, beq_self_eq_true, if_true]
      · rename_i fs a b e
        simp only [VR] at hx hy
        obtain ⟨xs, rfl, hxl, hx1⟩ := hx
        obtain ⟨ys, rfl, hyl, hy1⟩ := hy
        obtain ⟨fields, rfl, hfs, hst, hnm⟩ := hd.struct e
        have hff : P.fieldsOf t = fields := by simp [Program.fieldsOf, hd.und]
        rw [run_equalIn_struct w (f + k) t xs ys (by rw [hff]; exact hd.und) hst, hff]
        rw [hfs] at h'
        clear hfs hff e
        generalize fields.toList = gs at h' hnm
        clear hd ht
        revert r
        induction gs with
        | nil => intro r h'; cases h'; simp [Op.eqFields]
        | cons g gs ihg =>
          intro r h'
          simp only [List.map_cons] at h'
          cases hg : T.get g.type with
          | none => rw [hg] at h'; cases h'
          | some fi =>
            rw [hg] at h'
            obtain ⟨d', hd'⟩ := hT.at hg
            have hb := both_some h'
            have in1 : ∀ (l : List V) q, aeq T f g.type (partV fi l g.offset) q ≠ none → fi.agg = false → g.offset < l.length := by
              intro l q hne ha
              rcases Nat.lt_or_ge g.offset l.length with h1 | h1
              · exact h1
              · refine absurd ?_ hne
                simp only [partV, ha, cond_false, List.getD, List.getElem?_eq_none h1, Option.getD_none]
                exact aeq_u1 _ _ _ _
            have in2 : ∀ (l : List V) q, aeq T f g.type q (partV fi l g.offset) ≠ none → fi.agg = false → g.offset < l.length := by
              intro l q hne ha
              rcases Nat.lt_or_ge g.offset l.length with h1 | h1
              · exact h1
              · refine absurd ?_ hne
                simp only [partV, ha, cond_false, List.getD, List.getElem?_eq_none h1, Option.getD_none]
                exact aeq_u2 _ _ _ _
            have hne : aeq T f g.type (partV fi a g.offset) (partV fi b g.offset) ≠ none := by rcases hb with ⟨e, _⟩ | ⟨e, _⟩ <;> rw [e] <;> simp
            obtain ⟨va, ra, pa⟩ := part_ok (w := w) hd' hxl hx1 (in1 _ _ hne)
            obtain ⟨vb, rb, pb⟩ := part_ok (w := w) hd' hyl hy1 (in2 _ _ hne)
            simp only [Op.eqFields]
            rw [if_pos (hnm g (by simp)).1]
            simp only [Sem.run_bind, ra, rb, Result.andThen_ok]
            rcases hb with ⟨e, rfl⟩ | ⟨e, h''⟩
            · rw [ih _ _ _ _ e _ _ w pa pb k]
              simp
            · rw [ih _ _ _ _ e _ _ w pa pb k]
              simp only [Result.andThen_ok, Bool.not_true, Bool.false_eq_true, if_false]
              exact ihg (fun x hx => hnm x (by simp [hx])) _ h''
      · rename_i n e' sz a b e
        simp only [VR] at hx hy
        obtain ⟨xs, rfl, hxl, hx1⟩ := hx
        obtain ⟨ys, rfl, hyl, hy1⟩ := hy
        obtain ⟨rfl, i, hi, hsz⟩ := hd.arr e
        cases hg : T.get e' with
        | none => rw [hg] at h'; cases h'
        | some fi =>
          rw [hg] at h'
          obtain ⟨d', hd'⟩ := hT.at hg
          have hco : P.cellsOf e' = sz := by simp [Program.cellsOf, hi, hsz]
          rw [run_equalIn_array w (f + k) xs ys hd.und hi, hco, List.range_eq_range']
          rw [show (0 : Nat) = 0 * sz from by simp] at h'
          simp only at h'
          generalize hs : (0 : Nat) = s
          rw [show (0 * sz : Nat) = s * sz from by rw [← hs]] at h'
          clear hs hd ht e
          revert s r
          induction n with
          | zero => intro r s h'; cases h'; simp [Op.eqItems]
          | succ n ihn =>
            intro r s h'
            have hb := both_some h'
            have hne : aeq T f e' (partV fi a (s * sz)) (partV fi b (s * sz)) ≠ none := by rcases hb with ⟨e, _⟩ | ⟨e, _⟩ <;> rw [e] <;> simp
            have in1 : ∀ (l : List V) q, aeq T f e' (partV fi l (s * sz)) q ≠ none → fi.agg = false → s * sz < l.length := by
              intro l q hne ha
              rcases Nat.lt_or_ge (s * sz) l.length with h1 | h1
              · exact h1
              · refine absurd ?_ hne
                simp only [partV, ha, cond_false, List.getD, List.getElem?_eq_none h1, Option.getD_none]
                exact aeq_u1 _ _ _ _
            have in2 : ∀ (l : List V) q, aeq T f e' q (partV fi l (s * sz)) ≠ none → fi.agg = false → s * sz < l.length := by
              intro l q hne ha
              rcases Nat.lt_or_ge (s * sz) l.length with h1 | h1
              · exact h1
              · refine absurd ?_ hne
                simp only [partV, ha, cond_false, List.getD, List.getElem?_eq_none h1, Option.getD_none]
                exact aeq_u2 _ _ _ _
            obtain ⟨va, ra, pa⟩ := part_ok (w := w) hd' hxl hx1 (in1 _ _ hne)
            obtain ⟨vb, rb, pb⟩ := part_ok (w := w) hd' hyl hy1 (in2 _ _ hne)
            rw [List.range'_succ]
            simp only [Op.eqItems, Sem.run_bind, ra, rb, Result.andThen_ok]
            rcases hb with ⟨e, rfl⟩ | ⟨e, h''⟩
            · rw [ih _ _ _ _ e _ _ w pa pb k]
              simp
            · rw [ih _ _ _ _ e _ _ w pa pb k]
              simp only [Result.andThen_ok, Bool.not_true, Bool.false_eq_true, if_false]
              rw [show s * sz + sz = (s + 1) * sz from by rw [Nat.add_mul, Nat.one_mul]] at h''
              exact ihn _ _ h''
      · cases h'
end
end Go.Ev
