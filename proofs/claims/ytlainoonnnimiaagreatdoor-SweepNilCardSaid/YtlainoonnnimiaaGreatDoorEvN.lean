/- THE ABSTRACT MACHINE's NUMBERS AND TEXTS ARE THE MODEL's. Own work. -/
import Derived.Test.YtlainoonnnimiaaGreatDoorEvS3
import Derived.Laws.Strings
set_option linter.all false
set_option linter.unusedVariables false
set_option linter.constructorNameAsVariable false
set_option linter.unnecessarySimpa false
set_option linter.unusedSimpArgs false
namespace Go.Ev

theorem ile_iff (x y : Int) : ile x y = decide (x ≤ y) := by
  cases x <;> cases y <;> simp only [ile] <;> rw [Bool.eq_iff_iff] <;> simp only [decide_eq_true_eq, Nat.ble_eq, Bool.false_eq_true, false_iff, true_iff, Int.ofNat_eq_natCast] <;> omega
theorem ieq_iff (x y : Int) : ieq x y = decide (x = y) := by
  cases x <;> cases y <;> simp only [ieq] <;> rw [Bool.eq_iff_iff] <;> simp only [decide_eq_true_eq, Nat.beq_eq, Bool.false_eq_true, false_iff, Int.ofNat_eq_natCast] <;> omega

theorem blt_iff (a b : Nat) : Nat.blt a b = decide (a < b) := nblt_iff a b

theorem wrapS_eq (half all : Nat) (h : all = 2 * half) (hp : 0 < half) (n : Int) :
    wrapS half all n = (if n % (all : Int) ≥ (half : Int) then n % (all : Int) - all else n % (all : Int)) := by
  subst h
  cases n with
  | ofNat a =>
    simp only [wrapS, blt_iff]
    have e : (Int.ofNat a) % ((2 * half : Nat) : Int) = ((a % (2 * half) : Nat) : Int) := by simp
    rw [e]
    have hm := Nat.mod_lt a (show 2 * half > 0 by omega)
    by_cases h1 : a < half
    · have : a % (2 * half) = a := Nat.mod_eq_of_lt (by omega)
      rw [decide_eq_true h1, cond_true, this, if_neg (by omega)]; rfl
    · rw [decide_eq_false h1, cond_false]
      by_cases h2 : a % (2 * half) < half
      · rw [decide_eq_true h2, cond_true, if_neg (by omega)]; rfl
      · rw [decide_eq_false h2, cond_false, if_pos (by omega), Int.subNatNat_eq_coe]
  | negSucc a =>
    simp only [wrapS, blt_iff]
    have hm := Nat.mod_lt a (show 2 * half > 0 by omega)
    have e : (Int.negSucc a) % ((2 * half : Nat) : Int) = ((2 * half - 1 - a % (2 * half) : Nat) : Int) := by
      rw [Int.negSucc_emod _ (by omega)]
      have : ((a : Int) % ((2 * half : Nat) : Int)) = ((a % (2 * half) : Nat) : Int) := by simp
      rw [this]; omega
    rw [e]
    by_cases h1 : a < half
    · have : a % (2 * half) = a := Nat.mod_eq_of_lt (by omega)
      rw [decide_eq_true h1, cond_true, this, if_pos (by omega)]; omega
    · rw [decide_eq_false h1, cond_false]
      by_cases h2 : 2 * half - 1 - a % (2 * half) < half
      · rw [decide_eq_true h2, cond_true, if_neg (by omega)]; rfl
      · rw [decide_eq_false h2, cond_false, if_pos (by omega), Int.subNatNat_eq_coe]

theorem wrapU_eq (all : Nat) (hp : 0 < all) (n : Int) : wrapU all n = n % (all : Int) := by
  cases n with
  | ofNat a =>
    simp only [wrapU, blt_iff]
    have e : (Int.ofNat a) % (all : Int) = ((a % all : Nat) : Int) := by simp
    rw [e]
    by_cases h1 : a < all
    · rw [decide_eq_true h1, cond_true, Nat.mod_eq_of_lt h1]; rfl
    · rw [decide_eq_false h1, cond_false]; rfl
  | negSucc a =>
    simp only [wrapU]
    have hm := Nat.mod_lt a hp
    rw [Int.negSucc_emod _ (by omega)]
    have : ((a : Int) % (all : Int)) = ((a % all : Nat) : Int) := by simp
    rw [this]
    simp only [Int.ofNat_eq_natCast]
    omega

theorem wrap_signed (k : IntKind) (n : Int) (h : k.signed = true) : k.wrap n = if n % (2 ^ k.bits : Int) ≥ (2 ^ (k.bits - 1) : Int) then n % (2 ^ k.bits : Int) - (2 ^ k.bits : Int) else n % (2 ^ k.bits : Int) := by
  simp only [IntKind.wrap, h, Bool.true_and, decide_eq_true_eq]
theorem wrap_unsigned (k : IntKind) (n : Int) (h : k.signed = false) : k.wrap n = n % (2 ^ k.bits : Int) := by
  simp only [IntKind.wrap, h, Bool.false_and, Bool.false_eq_true, if_false]

theorem wrap_eq (k : IntKind) (n : Int) : wrap k n = k.wrap n := by
  cases k
  · rw [wrap_signed _ _ rfl]; exact wrapS_eq 128 256 rfl (by decide) n
  · rw [wrap_signed _ _ rfl]; exact wrapS_eq 32768 65536 rfl (by decide) n
  · rw [wrap_signed _ _ rfl]; exact wrapS_eq 2147483648 4294967296 rfl (by decide) n
  · rw [wrap_signed _ _ rfl]; exact wrapS_eq 9223372036854775808 18446744073709551616 rfl (by decide) n
  · rw [wrap_unsigned _ _ rfl]; exact wrapU_eq 256 (by decide) n
  · rw [wrap_unsigned _ _ rfl]; exact wrapU_eq 65536 (by decide) n
  · rw [wrap_unsigned _ _ rfl]; exact wrapU_eq 4294967296 (by decide) n
  · rw [wrap_unsigned _ _ rfl]; exact wrapU_eq 18446744073709551616 (by decide) n

theorem bitsOf_eq (k : IntKind) : bitsOf k = k.bits := by cases k <;> rfl

theorem nat_eq (k : IntKind) (n : Int) : nat k n = (BitVec.ofInt k.bits n).toNat := by
  rw [BitVec.toNat_ofInt]
  have hp : 0 < 2 ^ k.bits := Nat.two_pow_pos _
  cases n with
  | ofNat a =>
    simp only [nat, bitsOf_eq, Nat.one_shiftLeft]
    have e : (Int.ofNat a) % ((2 ^ k.bits : Nat) : Int) = ((a % 2 ^ k.bits : Nat) : Int) := by simp
    rw [e, Int.toNat_natCast]
  | negSucc a =>
    simp only [nat, bitsOf_eq, Nat.one_shiftLeft]
    have hm := Nat.mod_lt a hp
    rw [Int.negSucc_emod _ (by omega)]
    have : ((a : Int) % ((2 ^ k.bits : Nat) : Int)) = ((a % 2 ^ k.bits : Nat) : Int) := by simp
    rw [this]; omega

theorem cmpL_eq : ∀ (a b : List Nat), Nat.beq (cmpL a b) 0 = (a == b)
  | [], [] => rfl
  | [], _ :: _ => rfl
  | _ :: _, [] => rfl
  | x :: a, y :: b => by
    rw [cmpL_cons_cons]
    by_cases h : x = y
    · subst h
      rw [show Nat.beq x x = true from Nat.beq_refl x, cond_true, cmpL_eq a b]
      simp
    · rw [show Nat.beq x y = false from by rcases hb : Nat.beq x y with _ | _; rfl; exact absurd (Nat.eq_of_beq_eq_true hb) h, cond_false]
      have : ((x :: a) == (y :: b)) = false := by simp [h]
      rw [this]
      cases Nat.blt x y <;> rfl

theorem byte_inj {a b : UInt8} (h : a.toNat = b.toNat) : a = b := UInt8.toNat_inj.1 h
theorem bytes_inj : ∀ {x y : List UInt8}, x.map UInt8.toNat = y.map UInt8.toNat → x = y
  | [], [], _ => rfl
  | [], _ :: _, h => by simp at h
  | _ :: _, [], h => by simp at h
  | a :: x, b :: y, h => by
    simp only [List.map_cons, List.cons.injEq] at h
    rw [byte_inj h.1, bytes_inj h.2]

theorem cmpL_less : ∀ (x y : List UInt8), Nat.beq (cmpL (x.map UInt8.toNat) (y.map UInt8.toNat)) 1 = Op.bytesLess x y
  | [], [] => rfl
  | [], _ :: _ => rfl
  | _ :: _, [] => rfl
  | a :: x, b :: y => by
    simp only [List.map_cons]
    rw [cmpL_cons_cons, Op.bytesLess]
    by_cases h : a = b
    · subst h
      rw [show Nat.beq a.toNat a.toNat = true from Nat.beq_refl _, cond_true, cmpL_less x y]
      have : ¬ a < a := by rw [UInt8.lt_iff_toNat_lt]; omega
      simp [this]
    · have hne : a.toNat ≠ b.toNat := fun e => h (byte_inj e)
      rw [show Nat.beq a.toNat b.toNat = false from by rcases hb : Nat.beq a.toNat b.toNat with _ | _; rfl; exact absurd (Nat.eq_of_beq_eq_true hb) hne, cond_false, blt_iff]
      by_cases hl : a < b
      · rw [UInt8.lt_iff_toNat_lt] at hl
        rw [decide_eq_true hl]
        simp [UInt8.lt_iff_toNat_lt, hl]
      · have hl' : ¬ a.toNat < b.toNat := by rwa [UInt8.lt_iff_toNat_lt] at hl
        rw [decide_eq_false hl']
        have hb : (a == b) = false := by simp [h]
        simp [hl, hb]; rfl

theorem cmpL_two (a b : List Nat) : Nat.beq (cmpL a b) 2 = (!(Nat.beq (cmpL a b) 0) && !(Nat.beq (cmpL a b) 1)) := by
  have : ∀ (a b : List Nat), cmpL a b = 0 ∨ cmpL a b = 1 ∨ cmpL a b = 2 := by
    intro a
    induction a with
    | nil => intro b; cases b; exact .inl rfl; exact .inr (.inl rfl)
    | cons x a ih =>
      intro b
      cases b with
      | nil => exact .inr (.inr rfl)
      | cons y b => rw [cmpL_cons_cons]; cases Nat.beq x y <;> cases Nat.blt x y <;> simp [ih b]
  rcases this a b with h | h | h <;> rw [h] <;> rfl

theorem toList_bytes (s : ByteArray) : s.toList = s.data.toList := ByteArray.toList_eq s
end Go.Ev
