/- THE ABSTRACT MACHINE AND THE MODEL: operations on numbers and texts. Own work. -/
import Derived.Test.YtlainoonnnimiaaGreatDoorEvN
set_option linter.all false
set_option linter.unusedVariables false
set_option linter.constructorNameAsVariable false
set_option linter.unnecessarySimpa false
set_option linter.unusedSimpArgs false
namespace Go.Ev

section
variable {P : Program} {ι : Ren} {h : Tr Blk} {c r W : Nat} {w : World} {out : Out} {K : V → M}

theorem eqGuard_int (op : BinOp) (t : Nat) (ox oy : Operand) (k k' : IntKind) (a b : Int) : (eqGuard op t ox oy (.int k a) (.int k' b)).run P w = .ok () w := by
  unfold eqGuard
  cases op <;> simp
theorem eqGuard_str (op : BinOp) (t : Nat) (ox oy : Operand) (a b : ByteArray) : (eqGuard op t ox oy (.string a) (.string b)).run P w = .ok () w := by
  unfold eqGuard
  cases op <;> simp

theorem intOp_ok (S : Sim ι h w) {op : BinOp} {k : IntKind} {x y : Int} (hn1 : op ≠ .shl) (hn2 : op ≠ .shr) (hr : run (intOp op k x y K) h c r W = some out) (t : Nat) :
    Good P (binOp op t (.int k x) (.int k y)) ι h c W w out K := by
  have hb : ∀ v : Sem Value, binOp op t (.int k x) (.int k y) = v → ∀ v', v = Pure.pure (.int k v') → ∀ n, n = v' → run (K (.i k n)) h c r W = some out → Good P (binOp op t (.int k x) (.int k y)) ι h c W w out K := by
    intro v e v' e' n en hr
    exact Good.now S hr (by rw [e, e']; rfl) (by simp [VR, en])
  have hc : ∀ b : Bool, binOp op t (.int k x) (.int k y) = Pure.pure (.bool b) → ∀ n, n = b → run (K (.b n)) h c r W = some out → Good P (binOp op t (.int k x) (.int k y)) ι h c W w out K := by
    intro b e n en hr
    exact Good.now S hr (by rw [e]; rfl) (by simp [VR, en])
  cases op <;> simp only [intOp] at hr
  case add => exact hb _ rfl _ (by simp [binOp, Op.intArith]) _ (wrap_eq _ _) hr
  case sub => exact hb _ rfl _ (by simp [binOp, Op.intArith]) _ (wrap_eq _ _) hr
  case mul => exact hb _ rfl _ (by simp [binOp, Op.intArith]) _ (wrap_eq _ _) hr
  case quo =>
    rw [ieq_iff] at hr
    by_cases h0 : y = 0
    · simp [h0, run_fail] at hr
    · rw [decide_eq_false h0, cond_false] at hr
      exact hb _ rfl _ (by simp [binOp, Op.intDiv, h0]) _ (wrap_eq _ _) hr
  case rem =>
    rw [ieq_iff] at hr
    by_cases h0 : y = 0
    · simp [h0, run_fail] at hr
    · rw [decide_eq_false h0, cond_false] at hr
      exact hb _ rfl _ (by simp [binOp, Op.intDiv, h0]) _ rfl hr
  case and => exact hb _ rfl _ (by simp [binOp, Op.intBits]; rfl) _ (by rw [wrap_eq, nat_eq, nat_eq]; simp) hr
  case or => exact hb _ rfl _ (by simp [binOp, Op.intBits]; rfl) _ (by rw [wrap_eq, nat_eq, nat_eq]; simp) hr
  case xor => exact hb _ rfl _ (by simp [binOp, Op.intBits]; rfl) _ (by rw [wrap_eq, nat_eq, nat_eq]; simp) hr
  case shl => exact absurd rfl hn1
  case shr => exact absurd rfl hn2
  case andNot => simp [run_fail] at hr
  case eql => exact hc _ (by simp [binOp, Op.intCmp]; rfl) _ (by rw [ieq_iff]; rfl) hr
  case neq => exact hc _ (by simp [binOp, Op.intCmp]; rfl) _ (by rw [ieq_iff]; rfl) hr
  case lss => exact hc _ (by simp [binOp, Op.intCmp]; rfl) _ (by rw [ile_iff]; by_cases hh : y ≤ x <;> simp [hh] <;> omega) hr
  case leq => exact hc _ (by simp [binOp, Op.intCmp]; rfl) _ (by rw [ile_iff]) hr
  case gtr => exact hc _ (by simp [binOp, Op.intCmp]; rfl) _ (by rw [ile_iff]; by_cases hh : x ≤ y <;> simp [hh] <;> omega) hr
  case geq => exact hc _ (by simp [binOp, Op.intCmp]; rfl) _ (by rw [ile_iff]) hr

theorem wrap_in (k : IntKind) (n : Int) (h1 : kmin k ≤ n) (h2 : n ≤ kmax k) : k.wrap n = n := by
  rw [← wrap_eq]
  cases k <;> simp only [kmin, kmax] at h1 h2 <;> simp only [wrap] <;> first
    | (rw [wrapS_eq _ _ rfl (by decide)]; split <;> omega)
    | (rw [wrapU_eq _ (by decide)]; omega)

theorem qFit_some {k : IntKind} {lo hi : Int} (hr : run (qFit k lo hi K) h c r W = some out) : (kmin k ≤ lo ∧ hi ≤ kmax k) ∧ run (K (.q k lo hi 1 0)) h c r W = some out := by
  unfold qFit at hr
  obtain ⟨h1, hr⟩ := run_bif hr
  simp only [Bool.and_eq_true, ile_iff, decide_eq_true_eq] at h1
  exact ⟨h1, hr⟩

theorem mod_one (x : Int) : x % ((1 : Nat) : Int) = ((0 : Nat) : Int) := by omega

theorem qOp_ok (S : Sim ι h w) {op : BinOp} {k : IntKind} {a b c₀ d x y : Int} {m r₀ : Nat} (hx1 : a ≤ x) (hx2 : x ≤ b) (hxm : x % (m : Int) = (r₀ : Int)) (hy1 : c₀ ≤ y) (hy2 : y ≤ d)
    (hr : run (qOp op k a b c₀ d m r₀ K) h c r W = some out) (t : Nat) : Good P (binOp op t (.int k x) (.int k y)) ι h c W w out K := by
  have hc : ∀ b : Bool, binOp op t (.int k x) (.int k y) = Pure.pure (.bool b) → ∀ n, n = b → run (K (.b n)) h c r W = some out → Good P (binOp op t (.int k x) (.int k y)) ι h c W w out K := by
    intro b e n en hr
    exact Good.now S hr (by rw [e]; rfl) (by simp [VR, en])
  cases op <;> simp only [qOp] at hr <;> first | (simp [run_fail] at hr; done) | skip
  case add =>
    obtain ⟨⟨h1, h2⟩, hr⟩ := qFit_some hr
    refine Good.now S hr (v' := .int k (k.wrap (x + y))) (by simp [binOp, Op.intArith]) ?_
    rw [wrap_in k (x + y) (by omega) (by omega)]
    simp only [VR]
    exact ⟨_, rfl, by omega, by omega, mod_one _⟩
  case sub =>
    obtain ⟨⟨h1, h2⟩, hr⟩ := qFit_some hr
    refine Good.now S hr (v' := .int k (k.wrap (x - y))) (by simp [binOp, Op.intArith]) ?_
    rw [wrap_in k (x - y) (by omega) (by omega)]
    simp only [VR]
    exact ⟨_, rfl, by omega, by omega, mod_one _⟩
  case rem =>
    obtain ⟨h1, hr⟩ := run_bif hr
    simp only [Bool.and_eq_true, ile_iff, ieq_iff, decide_eq_true_eq] at h1
    obtain ⟨h1, h2, h3⟩ := h1
    have hy : y = c₀ := by omega
    subst hy
    have hne : y ≠ 0 := by omega
    have ht : x.tmod y = x % y := Int.tmod_eq_emod_of_nonneg (by omega)
    have hs : (binOp .rem t (.int k x) (.int k y)).run P w = .ok (.int k (x % y)) w := by simp [binOp, Op.intDiv, hne, ht]
    rw [ieq_iff] at hr
    by_cases e : y = Int.ofNat m
    · rw [decide_eq_true e, cond_true] at hr
      refine Good.now S hr hs ?_
      simp only [VR]
      rw [e]
      simp only [Int.ofNat_eq_natCast]
      rw [hxm]
    · rw [decide_eq_false e, cond_false] at hr
      refine Good.now S hr hs ?_
      simp only [VR]
      have g1 := Int.emod_nonneg x hne
      have g2 := Int.emod_lt_of_pos x (show 0 < y by omega)
      exact ⟨_, rfl, g1, by omega, mod_one _⟩
  case eql =>
    obtain ⟨h1, hr⟩ := run_bif hr
    simp only [Bool.or_eq_true, Bool.not_eq_true', ile_iff, decide_eq_false_iff_not] at h1
    exact hc _ (by simp [binOp, Op.intCmp]; rfl) _ (by symm; simp; omega) hr
  case neq =>
    obtain ⟨h1, hr⟩ := run_bif hr
    simp only [Bool.or_eq_true, Bool.not_eq_true', ile_iff, decide_eq_false_iff_not] at h1
    exact hc _ (by simp [binOp, Op.intCmp]; rfl) _ (by symm; simp; omega) hr
  all_goals
    simp only [ile_iff] at hr
    rcases Bool.eq_false_or_eq_true (decide (b ≤ c₀)) with e1 | e1 <;> rcases Bool.eq_false_or_eq_true (decide (d ≤ a)) with e2 | e2 <;> rcases Bool.eq_false_or_eq_true (decide (c₀ ≤ b)) with e3 | e3 <;> rcases Bool.eq_false_or_eq_true (decide (a ≤ d)) with e4 | e4 <;>
      simp only [e1, e2, e3, e4, Bool.not_true, Bool.not_false, cond_true, cond_false] at hr <;> simp only [decide_eq_true_eq, decide_eq_false_iff_not] at e1 e2 e3 e4 <;> first
      | (simp [run_fail] at hr; done)
      | exact hc _ (by simp [binOp, Op.intCmp]; rfl) _ (by symm; simp; omega) hr

theorem shiftOp_ok (S : Sim ι h w) {op : BinOp} {k yk : IntKind} {x y : Int} (hop : op = .shl ∨ op = .shr) (hr : run (shiftOp op k x y K) h c r W = some out) (t : Nat) :
    Good P (binOp op t (.int k x) (.int yk y)) ι h c W w out K := by
  cases y with
  | negSucc n => rcases hop with rfl | rfl <;> simp [shiftOp, run_fail] at hr
  | ofNat n =>
    have hp : (Int.ofNat (1 <<< Nat.min n (bitsOf k)) : Int) = 2 ^ (min n k.bits) := by rw [bitsOf_eq, Nat.one_shiftLeft]; simp
    rcases hop with rfl | rfl <;> simp only [shiftOp] at hr
    · refine Good.now S hr (v' := .int k (k.wrap (x * 2 ^ (min n k.bits)))) ?_ ?_
      · have : ¬ Int.ofNat n < 0 := by simp
        simp only [binOp, Op.shift]; rw [if_neg this]; simp
      · simp only [VR]; rw [wrap_eq, hp]
    · refine Good.now S hr (v' := .int k (x.fdiv (2 ^ (min n k.bits)))) ?_ ?_
      · have : ¬ Int.ofNat n < 0 := by simp
        simp only [binOp, Op.shift]; rw [if_neg this]; simp
      · simp only [VR]; rw [hp]

theorem strOp_ok (S : Sim ι h w) {op : BinOp} {a b : ByteArray} (hr : run (strOp op (bytes a) (bytes b) K) h c r W = some out) (t : Nat) :
    Good P (binOp op t (.string a) (.string b)) ι h c W w out K := by
  have heq : Nat.beq (cmpL (bytes a) (bytes b)) 0 = (a.toList == b.toList) := by
    rw [cmpL_eq, toList_bytes, toList_bytes]
    unfold bytes
    by_cases e : a.data.toList = b.data.toList
    · simp [e]
    · have : ¬ a.data.toList.map UInt8.toNat = b.data.toList.map UInt8.toNat := fun e' => e (bytes_inj e')
      rw [beq_eq_false_iff_ne.2 this, beq_eq_false_iff_ne.2 e]
  have hlt : Nat.beq (cmpL (bytes a) (bytes b)) 1 = Op.bytesLess a.toList b.toList := by
    rw [toList_bytes, toList_bytes]; exact cmpL_less _ _
  have h2 := cmpL_two (bytes a) (bytes b)
  rw [heq, hlt] at h2
  have hc : ∀ b' : Bool, binOp op t (.string a) (.string b) = Pure.pure (.bool b') → ∀ n, n = b' → run (K (.b n)) h c r W = some out → Good P (binOp op t (.string a) (.string b)) ι h c W w out K := by
    intro b e n en hr
    exact Good.now S hr (by rw [e]; rfl) (by simp [VR, en])
  cases op <;> simp only [strOp] at hr <;> first | (simp [run_fail] at hr; done) | skip
  case add =>
    have hla : (bytes a).length = a.size := by simp [bytes]
    have hlb : (bytes b).length = b.size := by simp [bytes]
    obtain ⟨hl, hr⟩ := run_bif hr
    rw [hla, hlb, ble_iff, decide_eq_true_eq] at hl
    refine Good.now S hr (v' := .string (a ++ b)) ?_ ?_
    · have : ¬ ((a.size + b.size : Nat) : Int) > IntKind.i64.max := by
        have : IntKind.i64.max = 9223372036854775807 := by decide
        rw [this]; omega
      simp only [binOp, Op.stringOp]
      rw [if_neg this]; rfl
    · simp only [VR]
      exact ⟨_, rfl, by simp [bytes, ByteArray.data_append]⟩
  case eql => exact hc _ (by simp [binOp, Op.stringOp]) _ heq hr
  case neq => exact hc _ (by simp [binOp, Op.stringOp]; rfl) _ (by rw [heq]) hr
  case lss => exact hc _ (by simp [binOp, Op.stringOp]) _ hlt hr
  case leq => exact hc _ (by simp [binOp, Op.stringOp]; rfl) _ (by rw [h2]; cases (a.toList == b.toList) <;> cases Op.bytesLess a.toList b.toList <;> rfl) hr
  case gtr => exact hc _ (by simp [binOp, Op.stringOp]; rfl) _ (by rw [h2]; cases (a.toList == b.toList) <;> cases Op.bytesLess a.toList b.toList <;> rfl) hr
  case geq => exact hc _ (by simp [binOp, Op.stringOp]; rfl) _ (by rw [hlt]) hr
end
end Go.Ev
