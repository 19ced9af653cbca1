/- THE ABSTRACT MACHINE AND THE MODEL: the builtin 'append'. Own work. -/
import Derived.Test.YtlainoonnnimiaaGreatDoorEvO11
set_option linter.all false
set_option linter.unusedVariables false
set_option linter.constructorNameAsVariable false
set_option linter.unnecessarySimpa false
set_option linter.unusedSimpArgs false
set_option linter.unusedSimpArgs false
set_option linter.unusedVariables false
namespace Go.Ev

section
variable {P : Program} {T : Tr TI} {ι : Ren} {h : Tr Blk} {c r W : Nat} {w : World} {out : Out} {K : V → M}

theorem Good.of_eq {s s' : Sem Value} (e : s.run P w = s'.run P w) (hg : Good P s' ι h c W w out K) : Good P s ι h c W w out K := by
  obtain ⟨v, v', ι', h', c', r', W', w', g1, g2, g3⟩ := hg
  exact ⟨v, v', ι', h', c', r', W', w', g1, e.trans g2, g3⟩

theorem Good.bind {α : Type} {m : Sem α} {f : α → Sem Value} {a : α} (e : m.run P w = .ok a w) (hg : Good P (f a) ι h c W w out K) : Good P (m >>= f) ι h c W w out K :=
  Good.of_eq (by rw [Sem.run_bind, e, Result.andThen_ok]) hg

theorem tdOf_int {t : Nat} {ti : TI} {d : TypeDesc} (h : TyV P t ti d) (hn : ∀ k, ti.d ≠ .int k) : ∀ k, d ≠ .int k := by
  intro k e
  have := h.td
  rw [e] at this
  simp only [tdOf, Option.some.injEq] at this
  exact hn k this.symm

/-- What 'append' is handed is a slice. -/
theorem appendC_slice {e sz n : Nat} {z : List V} {s : V} {new : List V} {s' : Value} (hs : VR ι s s') (hr : run (appendC e sz z s n new K) h c r W = some out) :
    ∃ base sLen sCap, s' = .slice base sLen sCap ∧ (lenV s).getD 0 = sLen := by
  unfold appendC at hr
  split at hr
  · simp only [VR] at hs; exact ⟨_, _, _, hs, rfl⟩
  · simp only [VR] at hs
    obtain ⟨L, cp, hL, hcp, hv⟩ := hs
    split at hv
    · exact ⟨_, _, _, hv.2, rfl⟩
    · rcases hv with ⟨hv, _⟩ | ⟨hz, _, hv⟩
      · exact ⟨_, _, _, hv, rfl⟩
      · exact ⟨_, _, _, hv, by simp [lenV, hz]⟩
  · simp [run_fail] at hr

theorem run_ite {α : Type} (p : Prop) [Decidable p] (a b : Sem α) (w : World) : (if p then a else b).run P w = if p then a.run P w else b.run P w := by split <;> rfl

theorem wrap_small (n : Nat) (h : n ≤ 536870912) : IntKind.i64.wrap (n : Int) = n := by
  rw [wrap_signed _ _ rfl]
  simp only [IntKind.bits]
  omega

theorem aAppend_ok (hT : TyOk P T) (S : Sim ι h w) (F : Fresh ι h c out) {ts' : Array TypeId} {ty : TypeId} {s x : V} {s' x' : Value} {args' : Array Value} (h0 : args'[0]? = some s') (h1 : args'[1]? = some x')
    (hs : VR ι s s') (hx : VR ι x x') (hr : run (aAppend T ts'.toList s x K) h c r W = some out) : Good P (Builtin.append_ ts' ty args') ι h c W w out K := by
  unfold aAppend at hr
  split at hr
  · rename_i t xt _ hts
    have ht0 : ts'[0]? = some t := by rw [← Array.getElem?_toList, hts]; rfl
    have ht1 : ts'[1]? = some xt := by rw [← Array.getElem?_toList, hts]; rfl
    split at hr
    · rename_i e sz eb a1 a2 a3 a4 xi hti hxi
      obtain ⟨d, hd⟩ := hT.at hti
      obtain ⟨dx, hdx⟩ := hT.at hxi
      obtain ⟨rfl, inf, hinf, hsz, heb⟩ := hd.slice rfl
      split at hr
      · simp [run_fail] at hr
      · rename_i ei hei
        obtain ⟨hcond, hr1⟩ := run_bif' hr
        clear hr
        simp only [Bool.or_eq_false_iff, Bool.not_eq_false', nbeq_iff, ble_iff, decide_eq_true_eq, decide_eq_false_iff_not] at hcond
        obtain ⟨⟨hs0, hb⟩, hb1⟩ := hcond
        obtain ⟨de, hde⟩ := hT.at hei
        have hti' : (typeInfo e).run P w = .ok inf w := by simp [typeInfo, hinf]
        have hes : (sizeOf e).run P w = .ok sz w := by rw [run_sizeOf_info w hinf, hsz]
        split at hr1
        · -- zeros
          rename_i k k' n hxd
          obtain ⟨hle, hr2⟩ := run_bif hr1
          clear hr1
          simp only [Bool.and_eq_true, ble_iff, decide_eq_true_eq] at hle
          obtain ⟨base, sLen, sCap, hse, hl⟩ := appendC_slice hs hr2
          have hdi := hdx.int hxd
          simp only [VR] at hx
          subst hx
          obtain ⟨z, z1, z2, z3, z4⟩ := zero_cells hde ι w
          have hes' : ei.size = sz := by
            obtain ⟨i, _, q1, q2, _⟩ := hde.rest
            rw [hinf] at q1; cases q1
            rw [← q2, hsz]
          have hz : ∀ w₁ : World, (zeroValue e).run P w₁ = .ok z w₁ := fun w₁ => by
            obtain ⟨i, z', q1, q2, q3, _⟩ := hde.rest
            have h1 : (zeroValue e).run P w = .ok z' w := by simp [zeroValue, typeInfo, q1, q3]
            rw [z1] at h1
            injection h1 with h1
            subst h1
            simp [zeroValue, typeInfo, q1, q3]
          have hcells : Cells P (if n * sz = 0 then pure #[] else do pure (Builtin.zeroCells (← zeroValue e).cells n)) w ι (List.replicate n ei.zero).flatten (n * sz) := by
            obtain ⟨g1, g2⟩ := zeros_rel (n := n) z2 z3
            rw [z4, hes'] at g1 g2
            refine ⟨_, fun w₁ hw => ?_, g1, g2, by simp⟩
            by_cases hn0 : n * sz = 0
            · rw [if_pos hn0, hn0]; simp
            · rw [if_neg hn0]
              simp only [Sem.run_bind, hz w₁, Result.andThen_ok, Sem.run_pure, Builtin.zeroCells, z4, hes', Array.toArray_toList]
          refine Good.of_eq ?_ (appendC_ok (zeros := true) (x' := .int k' (.ofNat n)) hT S F hei hinf hsz heb hb hb1 (by omega) hs hse (by omega) hcells hr2)
          unfold Builtin.append_
          simp only [ht0, h0, h1, ht1, Sem.run_bind, hd.run_und, hdx.run_und, Result.andThen_ok, hse, hes, hdi, Sem.run_pure]
          have hlb : ((n : Int) * (inf.bytes : Int)) ≤ 2 ^ 48 := by
            have : n * inf.bytes ≤ 536870912 * 65536 := Nat.mul_le_mul hle.1 (by omega)
            rw [← Int.natCast_mul]
            omega
          have hti'' : ∀ w₁ : World, (typeInfo e).run P w₁ = .ok inf w₁ := fun w₁ => by simp [typeInfo, hinf]
          have hai : ∀ w₁ : World, (asInt (.int k' (n : Int))).run P w₁ = .ok (n : Int) w₁ := fun w₁ => by simp [asInt, asIntOf]
          simp only [if_true, hai, Sem.run_pure, Int.ofNat_eq_natCast, wrap_small n hle.1, run_ite, Sem.run_bind, hti'', Result.andThen_ok, Int.toNat_natCast]
          rw [if_neg (by omega), if_neg (by omega)]
          subst heb
          cases base <;> simp only [appRest, wrap_small n hle.1, Int.toNat_natCast, run_ite, Sem.run_bind, Sem.run_pure, Result.andThen_ok, hti'', Bool.not_true, Bool.false_eq_true, if_false, true_and, true_or, if_true]
        · simp [run_fail] at hr1
        · rename_i hnk _
          split at hr1
          · simp [run_fail] at hr1
          · rename_i n hn
            obtain ⟨hle, hr2⟩ := run_bif hr1
            clear hr1
            simp only [Bool.and_eq_true, ble_iff, decide_eq_true_eq] at hle
            obtain ⟨l, r', hr3, hcells⟩ := firstC_ok (P := P) S hx hn (Nat.le_refl _) hr2
            obtain ⟨base, sLen, sCap, hse, hl⟩ := appendC_slice hs hr3
            refine Good.of_eq ?_ (appendC_ok (zeros := false) (x' := x') hT S F hei hinf hsz heb hb hb1 (by omega) hs hse (by omega) hcells hr3)
            unfold Builtin.append_
            simp only [ht0, h0, h1, ht1, Sem.run_bind, hd.run_und, hdx.run_und, Result.andThen_ok, hse, hes, Sem.run_pure]
            have hdn := tdOf_int hdx hnk
            have hti'' : ∀ w₁ : World, (typeInfo e).run P w₁ = .ok inf w₁ := fun w₁ => by simp [typeInfo, hinf]
            have hlo := lenV_ok (P := P) (w := w) hx hn
            subst heb
            cases dx <;> first | exact absurd rfl (hdn _) | skip
            all_goals
              simp only [Bool.false_eq_true, if_false, Sem.run_bind, hlo, Result.andThen_ok, Bool.not_false, if_true]
              cases base <;> simp only [appRest, run_ite, Sem.run_bind, Sem.run_pure, Result.andThen_ok, hti'', Bool.not_false, Bool.false_eq_true, if_false, false_or, if_true]
    · simp [run_fail] at hr
  · simp [run_fail] at hr
end
end Go.Ev
