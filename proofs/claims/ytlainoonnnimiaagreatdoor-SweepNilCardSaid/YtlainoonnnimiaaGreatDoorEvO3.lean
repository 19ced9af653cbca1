/- THE ABSTRACT MACHINE AND THE MODEL: two operands, one operand. Own work. -/
import Derived.Test.YtlainoonnnimiaaGreatDoorEvO2
import Derived.Laws.BytesString
set_option linter.all false
set_option linter.unusedVariables false
set_option linter.constructorNameAsVariable false
set_option linter.unnecessarySimpa false
set_option linter.unusedSimpArgs false
set_option linter.unusedSimpArgs false
namespace Go.Ev

/-- What a value is. -/
def V.kd : V → Nat
  | .u => 13 | .b _ => 0 | .i _ _ => 1 | .s _ => 2 | .p0 => 3 | .p _ _ => 3 | .sl0 => 4 | .sl _ _ _ _ => 4 | .m0 => 5 | .m _ => 5 | .f _ _ _ => 6 | .nf => 7 | .ni => 8 | .if_ _ _ => 9 | .ag _ => 10 | .tu _ => 11 | .q _ _ _ _ _ => 1 | .slq _ _ _ _ => 4
def kdOf : Value → Nat
  | .bool _ => 0 | .int _ _ => 1 | .string _ => 2 | .pointer _ => 3 | .slice _ _ _ => 4 | .map _ => 5 | .func _ _ _ => 6 | .nilFunc => 7 | .nilIface => 8 | .iface _ _ => 9 | .agg _ => 10 | .tuple _ => 11
  | .float _ _ => 12 | .complex _ _ _ => 12 | .chan _ => 12

theorem VR.kd {ι : Ren} {x : V} {v : Value} (h : VR ι x v) (hx : x ≠ .u) : x.kd = kdOf v := by
  cases x <;> simp only [VR] at h
  case u => exact absurd rfl hx
  case sl b o len cap =>
    obtain ⟨L, c', _, _, hv⟩ := h
    cases cap with
    | some c => obtain ⟨_, rfl⟩ := hv; rfl
    | none => rcases hv with ⟨rfl, _⟩ | ⟨_, _, rfl⟩ <;> rfl
  case slq => obtain ⟨_, _, _, _, rfl, _⟩ := h; rfl
  all_goals first
    | (subst h; rfl)
    | (obtain ⟨_, rfl, _⟩ := h; rfl)
    | (obtain ⟨_, _, rfl⟩ := h; rfl)
    | (obtain ⟨_, _, _, rfl, _⟩ := h; rfl)

section
variable {P : Program} {T : Tr TI} {ι : Ren} {h : Tr Blk} {c r W : Nat} {w : World} {out : Out} {K : V → M}

theorem eqGuard_off (op : BinOp) (t : Nat) (ox oy : Operand) (a b : Value) (h1 : kdOf a ≠ 8 ∨ kdOf b ≠ 8 ∨ (isC ox || isC oy) = true) (h2 : kdOf a ≠ 10 ∨ kdOf b ≠ 10 ∨ P.eqGuardType P.depth t = false) :
    (eqGuard op t ox oy a b).run P w = .ok () w := by
  have main : ∀ op, (op = .eql ∨ op = .neq) → (eqGuard op t ox oy a b).run P w = .ok () w := by
    intro op ho
    unfold eqGuard
    rw [if_neg (by rcases ho with rfl | rfl <;> simp)]
    split
    · rcases h1 with h1 | h1 | h1
      · exact absurd rfl h1
      · exact absurd rfl h1
      · cases ox <;> cases oy <;> first | (simp [isC] at h1; done) | rfl
    · rcases h2 with h2 | h2 | h2
      · exact absurd rfl h2
      · exact absurd rfl h2
      · simp [run_program, h2]
    · rfl
  cases op <;> first | rfl | exact main _ (.inl rfl) | exact main _ (.inr rfl)

theorem binOp_eql (t : Nat) (x y : Value) (h1 : kdOf x ≠ 1 ∨ kdOf y ≠ 1) (h2 : kdOf x ≠ 2 ∨ kdOf y ≠ 2) (h3 : kdOf x ≠ 12) : binOp .eql t x y = (do pure (.bool (← Op.equal t x y))) := by
  cases x <;> first | (exact absurd rfl h3) | skip
  all_goals (cases y <;> first | rfl | (exfalso; rcases h1 with h1 | h1 <;> exact h1 rfl) | (exfalso; rcases h2 with h2 | h2 <;> exact h2 rfl))
theorem binOp_neq (t : Nat) (x y : Value) (h1 : kdOf x ≠ 1 ∨ kdOf y ≠ 1) (h2 : kdOf x ≠ 2 ∨ kdOf y ≠ 2) (h3 : kdOf x ≠ 12) : binOp .neq t x y = (do pure (.bool (!(← Op.equal t x y)))) := by
  cases x <;> first | (exact absurd rfl h3) | skip
  all_goals (cases y <;> first | rfl | (exfalso; rcases h1 with h1 | h1 <;> exact h1 rfl) | (exfalso; rcases h2 with h2 | h2 <;> exact h2 rfl))

theorem aeq_kinds {f t : Nat} {x y : V} {b : Bool} (e : aeq T f t x y = some b) : x ≠ .u ∧ y ≠ .u ∧ isQ x = false ∧ isQ y = false := by
  refine ⟨fun hx => ?_, fun hy => ?_, ?_, ?_⟩
  · subst hx; rw [aeq_u1] at e; cases e
  · subst hy; rw [aeq_u2] at e; cases e
  · cases h : isQ x with
    | false => rfl
    | true => rw [aeq_q1 T f t y h] at e; cases e
  · cases h : isQ y with
    | false => rfl
    | true => rw [aeq_q2 T f t x h] at e; cases e

theorem aBin_ok (hT : TyOk P T) (S : Sim ι h w) {op : BinOp} {t : Nat} {x y : V} {x' y' : Value} (hx : VR ι x x') (hy : VR ι y y') (ox oy : Operand)
    (hr : run (aBin T (isC ox || isC oy) op t x y K) h c r W = some out) : Good P (do eqGuard op t ox oy x' y'; binOp op t x' y') ι h c W w out K := by
  have start : ∀ (_ : (eqGuard op t ox oy x' y').run P w = .ok () w), Good P (binOp op t x' y') ι h c W w out K → Good P (do eqGuard op t ox oy x' y'; binOp op t x' y') ι h c W w out K := by
    rintro e ⟨v, v', ι', h', c', r', W', w', g1, g2, g3, g4⟩
    exact ⟨v, v', ι', h', c', r', W', w', g1, by simp only [Sem.run_bind, e, Result.andThen_ok, g2], g3, g4⟩
  unfold aBin at hr
  split at hr
  · rename_i k a k' b
    simp only [VR] at hx hy
    subst hx hy
    refine start (eqGuard_int _ _ _ _ _ _ _ _) ?_
    split at hr
    · exact shiftOp_ok S (.inl rfl) hr t
    · exact shiftOp_ok S (.inr rfl) hr t
    · rename_i hn1 hn2
      obtain ⟨hk, hr2⟩ := run_bif hr
      have : k = k' := by cases k <;> cases k' <;> first | rfl | cases hk
      subst this
      exact intOp_ok S (fun e => hn1 e) (fun e => hn2 e) hr2 t
  · simp only [VR] at hx hy
    obtain ⟨s, rfl, rfl⟩ := hx
    obtain ⟨s', rfl, rfl⟩ := hy
    refine start (eqGuard_str _ _ _ _ _ _) ?_
    exact strOp_ok S hr t
  · rename_i k a b m r₀ k' c₀
    simp only [VR] at hx hy
    obtain ⟨x, rfl, g1, g2, g3⟩ := hx
    subst hy
    refine start (eqGuard_int _ _ _ _ _ _ _ _) ?_
    obtain ⟨hk, hr2⟩ := run_bif hr
    have : k = k' := by cases k <;> cases k' <;> first | rfl | cases hk
    subst this
    exact qOp_ok S g1 g2 g3 (Int.le_refl _) (Int.le_refl _) hr2 t
  · rename_i k a k' c₀ d₀ _ _
    simp only [VR] at hx hy
    obtain ⟨y, rfl, g1, g2, g3⟩ := hy
    subst hx
    refine start (eqGuard_int _ _ _ _ _ _ _ _) ?_
    obtain ⟨hk, hr2⟩ := run_bif hr
    have : k = k' := by cases k <;> cases k' <;> first | rfl | cases hk
    subst this
    exact qOp_ok S (Int.le_refl _) (Int.le_refl _) (mod_one _) g1 g2 hr2 t
  · rename_i k a b m r₀ k' c₀ d₀ _ _
    simp only [VR] at hx hy
    obtain ⟨x, rfl, g1, g2, g3⟩ := hx
    obtain ⟨y, rfl, g4, g5, _⟩ := hy
    refine start (eqGuard_int _ _ _ _ _ _ _ _) ?_
    obtain ⟨hk, hr2⟩ := run_bif hr
    have : k = k' := by cases k <;> cases k' <;> first | rfl | cases hk
    subst this
    exact qOp_ok S g1 g2 g3 g4 g5 hr2 t
  · rename_i n1 n2 _ _ _
    obtain ⟨hf, hr⟩ := run_bif hr
    rw [Bool.and_eq_true] at hf
    obtain ⟨hf, hni⟩ := hf
    have key : ∀ r', aeq T 100 t x y = some r' → (eqGuard op t ox oy x' y').run P w = .ok () w ∧ (Op.equal t x' y').run P w = .ok r' w ∧ (kdOf x' ≠ 1 ∨ kdOf y' ≠ 1) ∧ (kdOf x' ≠ 2 ∨ kdOf y' ≠ 2) ∧ kdOf x' ≠ 12 := by
      intro r' e
      obtain ⟨hxu, hyu, hxq, hyq⟩ := aeq_kinds e
      have kx := hx.kd hxu
      have ky := hy.kd hyu
      have h8 : x.kd ≠ 8 ∨ y.kd ≠ 8 ∨ (isC ox || isC oy) = true := by
        rw [Bool.or_eq_true] at hni
        rcases hni with hni | hni
        · exact .inr (.inr hni)
        · cases x <;> first | (left; simp [V.kd]; done) | skip
          cases y <;> first | (right; left; simp [V.kd]; done) | skip
          cases hni
      refine ⟨eqGuard_off _ _ _ _ _ _ (by rw [← kx, ← ky]; exact h8) ?_, aeq_ok hT 100 t x y r' e x' y' w hx hy 9900, ?_, ?_, ?_⟩
      · rw [← kx, ← ky]
        unfold eqFree at hf
        split at hf
        · split at hf
          · rename_i ti ht
            obtain ⟨d, hd⟩ := hT.at ht
            refine .inr (.inr ?_)
            rw [hd.eqg]
            simpa using hf
          · cases hf
        · rename_i hh
          refine .inl ?_
          cases x <;> first | (simp [V.kd]; done) | (exact absurd rfl (hh _))
      · rw [← kx, ← ky]
        cases x <;> first | (cases hxq; done) | (left; simp [V.kd]; done) | skip
        cases y <;> first | (cases hyq; done) | (right; simp [V.kd]; done) | skip
        exact (n1 _ _ _ _ rfl rfl).elim
      · rw [← kx, ← ky]
        cases x <;> first | (left; simp [V.kd]; done) | skip
        cases y <;> first | (right; simp [V.kd]; done) | skip
        exact (n2 _ _ rfl rfl).elim
      · rw [← kx]
        cases x <;> simp [V.kd]
    split at hr
    · split at hr
      · rename_i r' e
        obtain ⟨k1, k2, k3, k4, k5⟩ := key r' e
        refine start k1 (Good.now S hr (v' := .bool r') ?_ (by simp [VR]))
        rw [binOp_eql _ _ _ k3 k4 k5]
        simp only [Sem.run_bind, k2, Result.andThen_ok, Sem.run_pure]
      · simp [run_fail] at hr
    · split at hr
      · rename_i r' e
        obtain ⟨k1, k2, k3, k4, k5⟩ := key r' e
        refine start k1 (Good.now S hr (v' := .bool (!r')) ?_ (by simp [VR]))
        rw [binOp_neq _ _ _ k3 k4 k5]
        simp only [Sem.run_bind, k2, Result.andThen_ok, Sem.run_pure]
      · simp [run_fail] at hr
    · simp [run_fail] at hr

theorem aUn_ok (S : Sim ι h w) {op : UnOp} {x : V} {x' : Value} (hx : VR ι x x') (hr : run (aUn op x K) h c r W = some out) : Good P (Op.unary op x') ι h c W w out K := by
  unfold aUn at hr
  split at hr
  · simp only [VR] at hx; subst hx
    exact Good.now S hr (by simp [Op.unary]; rfl) (by simp [VR])
  · rename_i k n
    simp only [VR] at hx; subst hx
    exact Good.now S hr (v' := .int k (k.wrap (0 - n))) (by simp [Op.unary, Op.intArith]) (by simp only [VR]; rw [wrap_eq])
  · rename_i k n
    simp only [VR] at hx; subst hx
    refine Good.now S hr (v' := .int k (k.wrap ((BitVec.ofInt k.bits (if k.signed then -1 else k.max) ^^^ BitVec.ofInt k.bits n).toNat))) (by simp [Op.unary, Op.intBits]) ?_
    simp only [VR]
    rw [wrap_eq, nat_eq, BitVec.toNat_xor]
    have : (1 <<< bitsOf k) - 1 = (BitVec.ofInt k.bits (if k.signed then -1 else k.max)).toNat := by
      cases k <;> rfl
    rw [this]
    rfl
  · simp [run_fail] at hr
end
end Go.Ev
