/- THE ABSTRACT MACHINE AND THE MODEL: SHA-256's block, as an oracle. Own work. -/
import Derived.Test.YtlainoonnnimiaaGreatDoorEvX
set_option linter.all false
set_option linter.unusedVariables false
set_option linter.constructorNameAsVariable false
set_option linter.unnecessarySimpa false
set_option linter.unusedSimpArgs false
set_option linter.unusedSimpArgs false
set_option linter.unusedVariables false
set_option linter.constructorNameAsVariable false
namespace Go.Ev
namespace Sha

def shl (x : Int) (n : Nat) : Int := wrap .u32 (x * .ofNat (1 <<< Nat.min n (bitsOf .u32)))
def shr (x : Int) (n : Nat) : Int := x.fdiv (.ofNat (1 <<< Nat.min n (bitsOf .u32)))
def or' (x y : Int) : Int := wrap .u32 (.ofNat (nat .u32 x ||| nat .u32 y))
def xor' (x y : Int) : Int := wrap .u32 (.ofNat (nat .u32 x ^^^ nat .u32 y))
def and' (x y : Int) : Int := wrap .u32 (.ofNat (nat .u32 x &&& nat .u32 y))
def not' (x : Int) : Int := wrap .u32 (.ofNat (((1 <<< bitsOf .u32) - 1) ^^^ nat .u32 x))
def add (x y : Int) : Int := wrap .u32 (x + y)
def rot (x : Int) (l : Nat) : Int := or' (shl x l) (shr x (32 - l))
def cv (x : Nat) : Int := wrap .u32 (.ofNat x)

/-- The first words. -/
def word (x : Nat → Nat) (i : Nat) : Int := or' (or' (or' (shl (cv (x (4 * i))) 24) (shl (cv (x (4 * i + 1))) 16)) (shl (cv (x (4 * i + 2))) 8)) (cv (x (4 * i + 3)))
def mixA (a : Int) : Int := xor' (xor' (rot a 25) (rot a 14)) (shr a 3)
def mixB (b : Int) : Int := xor' (xor' (rot b 15) (rot b 13)) (shr b 10)
def next (W : List Int) : Int := add (add (add (W.getD (W.length - 16) 0) (mixA (W.getD (W.length - 15) 0))) (W.getD (W.length - 7) 0)) (mixB (W.getD (W.length - 2) 0))

noncomputable def sched (n : Nat) : List Int → List Int := Nat.rec (motive := fun _ => List Int → List Int) (fun W => W) (fun _ ih W => ih (W ++ [next W])) n

structure S8 where
  (a b c d e f g h : Int)

def s1 (e : Int) : Int := xor' (xor' (rot e 26) (rot e 21)) (rot e 7)
def s0 (a : Int) : Int := xor' (xor' (rot a 30) (rot a 19)) (rot a 10)
def tt (v : S8) (k w : Int) : Int := add (add (add (add v.h (s1 v.e)) (xor' (and' v.e v.f) (and' (not' v.e) v.g))) k) w
def uu (v : S8) : Int := add (s0 v.a) (xor' (xor' (and' v.a v.b) (and' v.a v.c)) (and' v.b v.c))
def step (v : S8) (k w : Int) : S8 := ⟨add (tt v k w) (uu v), v.a, v.b, v.c, add v.d (tt v k w), v.e, v.f, v.g⟩
noncomputable def rounds (k : Nat → Int) (l : List Int) : Nat → S8 → S8 := List.rec (motive := fun _ => Nat → S8 → S8) (fun _ v => v) (fun w _ ih i v => ih (i + 1) (step v (k i) w)) l
noncomputable def words (x : Nat → Nat) : List Int := sched 48 [word x 0, word x 1, word x 2, word x 3, word x 4, word x 5, word x 6, word x 7, word x 8, word x 9, word x 10, word x 11, word x 12, word x 13, word x 14, word x 15]
noncomputable def fin (hh : Nat → Int) (v : S8) : List V := [.i .u32 (add (hh 0) v.a), .i .u32 (add (hh 1) v.b), .i .u32 (add (hh 2) v.c), .i .u32 (add (hh 3) v.d), .i .u32 (add (hh 4) v.e), .i .u32 (add (hh 5) v.f), .i .u32 (add (hh 6) v.g), .i .u32 (add (hh 7) v.h)]
noncomputable def init (hh : Nat → Int) : S8 := ⟨hh 0, hh 1, hh 2, hh 3, hh 4, hh 5, hh 6, hh 7⟩
noncomputable def block (hh : Nat → Int) (x : Nat → Nat) (k : Nat → Int) : List V := fin hh (rounds k (words x) 0 (init hh))

/-- Worked out before it is handed on. -/
def force {α : Type} (x : Int) (K : Int → α) : α := match x with | .ofNat n => bif Nat.beq n 0 then K (.ofNat n) else K (.ofNat n) | .negSucc n => K (.negSucc n)
theorem force_eq {α : Type} (x : Int) (K : Int → α) : force x K = K x := by
  cases x with
  | ofNat n => simp only [force]; cases Nat.beq n 0 <;> rfl
  | negSucc n => rfl

noncomputable def schedF {α : Type} (K : List Int → α) (n : Nat) : List Int → α := Nat.rec (motive := fun _ => List Int → α) (fun W => K W) (fun _ ih W => force (next W) fun w => ih (W ++ [w])) n
theorem schedF_eq {α : Type} (K : List Int → α) : ∀ (n : Nat) (W : List Int), schedF K n W = K (sched n W)
  | 0, W => rfl
  | n + 1, W => by
    show force (next W) (fun w => schedF K n (W ++ [w])) = K (sched n (W ++ [next W]))
    rw [force_eq]
    exact schedF_eq K n _
noncomputable def stepF {α : Type} (v : S8) (k w : Int) (K : S8 → α) : α := force (tt v k w) fun t => force (add t (uu v)) fun a => force (add v.d t) fun e => K ⟨a, v.a, v.b, v.c, e, v.e, v.f, v.g⟩
theorem stepF_eq {α : Type} (v : S8) (k w : Int) (K : S8 → α) : stepF v k w K = K (step v k w) := by
  unfold stepF
  rw [force_eq, force_eq, force_eq]
  rfl
noncomputable def roundsF {α : Type} (k : Nat → Int) (K : S8 → α) (l : List Int) : Nat → S8 → α := List.rec (motive := fun _ => Nat → S8 → α) (fun _ v => K v) (fun w _ ih i v => stepF v (k i) w (ih (i + 1))) l
theorem roundsF_eq {α : Type} (k : Nat → Int) (K : S8 → α) : ∀ (l : List Int) (i : Nat) (v : S8), roundsF k K l i v = K (rounds k l i v)
  | [], _, _ => rfl
  | w :: l, i, v => by
    show stepF v (k i) w (roundsF k K l (i + 1)) = K (rounds k l (i + 1) (step v (k i) w))
    rw [stepF_eq]
    exact roundsF_eq k K l _ _
noncomputable def wordsF {α : Type} (x : Nat → Nat) (K : List Int → α) : α :=
  force (word x 0) fun a0 => force (word x 1) fun a1 => force (word x 2) fun a2 => force (word x 3) fun a3 => force (word x 4) fun a4 => force (word x 5) fun a5 => force (word x 6) fun a6 => force (word x 7) fun a7 =>
  force (word x 8) fun a8 => force (word x 9) fun a9 => force (word x 10) fun a10 => force (word x 11) fun a11 => force (word x 12) fun a12 => force (word x 13) fun a13 => force (word x 14) fun a14 => force (word x 15) fun a15 =>
  schedF K 48 [a0, a1, a2, a3, a4, a5, a6, a7, a8, a9, a10, a11, a12, a13, a14, a15]
theorem wordsF_eq {α : Type} (x : Nat → Nat) (K : List Int → α) : wordsF x K = K (words x) := by
  unfold wordsF
  simp only [force_eq]
  exact schedF_eq K 48 _
end Sha

noncomputable def u8at (z : List V) (cc : Tr V) (o j : Nat) : Nat := match cell z cc (o + j) with | .i .u8 (.ofNat n) => n | _ => 0
noncomputable def isU8 (v : V) : Bool := match v with | .i .u8 (.ofNat _) => true | _ => false
noncomputable def u32at (z : List V) (cc : Tr V) (j : Nat) : Int := match cell z cc j with | .i .u32 n => n | _ => 0
noncomputable def isU32 (v : V) : Bool := match v with | .i .u32 _ => true | _ => false
noncomputable def i32at (l : List V) (j : Nat) : Int := match l.getD j .u with | .i .u32 n => n | _ => 0

/-- stamp.block: 'gp': the table's global. -/
noncomputable def blkO (gp : Nat) (args : List V) (K : V → M) : M :=
  match args with
  | [.ag hs, .sl b o len _] => bif Nat.beq len 64 && (Nat.beq hs.length 8 && (hs.all isU32 && !Nat.beq b gp)) then
      .rd gp fun g => match g with
      | .cells tp np szp exp zp cp => bif Nat.ble 64 np && (cellsFrom zp cp 64 0).all isU32 then .rd b fun q => (match q with
          | .cells _ n _ _ z cc => bif Nat.ble (o + 64) n && (cellsFrom z cc 64 o).all isU8 then
              Sha.wordsF (u8at z cc o) fun ws => Sha.roundsF (u32at zp cp) (fun v => K (.ag (Sha.fin (i32at hs) v))) ws 0 (Sha.init (i32at hs)) else .fail
          | _ => .fail) else .fail
      | _ => .fail
      else .fail
  | _ => .fail

theorem cellsFrom_all {z : List V} {c : Tr V} {p : V → Bool} : ∀ {m k : Nat}, (cellsFrom z c m k).all p = true → ∀ j, j < m → p (cell z c (k + j)) = true
  | 0, _, _, _, h => by omega
  | m + 1, k, ha, j, hj => by
    rw [cellsFrom_succ, List.all_cons, Bool.and_eq_true] at ha
    cases j with
    | zero => exact ha.1
    | succ j => rw [show k + (j + 1) = k + 1 + j from by omega]; exact cellsFrom_all ha.2 j (by omega)

noncomputable def tellsM (m : Nat) (o : Option Out) : Option (V × Nat) := Option.rec none (fun o => some (o.v, o.w &&& m)) o
theorem tellsM_some {o : Option Out} {v : V} {m : Nat} (h : tellsM m o = some (v, 0)) : ∃ q, o = some q ∧ q.v = v ∧ q.w &&& m = 0 := by
  cases o with
  | none => cases h
  | some q => injection h with h; injection h with h1 h2; exact ⟨q, rfl, h1, h2⟩

noncomputable def subHeap2 (ng gp : Nat) (x y : Blk) : Tr Blk := ((Tr.l : Tr Blk).set y gp).set x ng
theorem subHeap2_get (ng gp : Nat) (x y : Blk) (b : Nat) : (subHeap2 ng gp x y).get b = if b = ng then some x else if b = gp then some y else none := by
  unfold subHeap2
  rw [Tr.get_set, Tr.get_set, Tr.get_l]

/-- Cells told by a function. -/
noncomputable def lay8 (x : Nat → Nat) : Tr V := Tr.lay ((List.range 64).map fun j => V.i .u8 (.ofNat (x j))) 0 .l
noncomputable def lay32 (k : Nat → Int) : Tr V := Tr.lay ((List.range 64).map fun j => V.i .u32 (k j)) 0 .l
theorem lay8_cell (z : List V) (x : Nat → Nat) {j : Nat} (h : j < 64) : cell z (lay8 x) j = .i .u8 (.ofNat (x j)) := by
  unfold lay8
  rw [cell_lay, if_pos (by simpa using h)]
  simp [List.getD, h]
theorem lay32_cell (z : List V) (k : Nat → Int) {j : Nat} (h : j < 64) : cell z (lay32 k) j = .i .u32 (k j) := by
  unfold lay32
  rw [cell_lay, if_pos (by simpa using h)]
  simp [List.getD, h]

noncomputable def mk8 (hh : Nat → Int) : List V := [.i .u32 (hh 0), .i .u32 (hh 1), .i .u32 (hh 2), .i .u32 (hh 3), .i .u32 (hh 4), .i .u32 (hh 5), .i .u32 (hh 6), .i .u32 (hh 7)]
theorem isU32_some {v : V} (hv : isU32 v = true) : ∃ n, v = .i .u32 n := by
  unfold isU32 at hv
  split at hv
  · exact ⟨_, rfl⟩
  · cases hv
theorem mk8_eq (hs : List V) (hl8 : hs.length = 8) (hs32 : hs.all isU32 = true) : mk8 (i32at hs) = hs := by
  match hs, hl8, hs32 with
  | [a0, a1, a2, a3, a4, a5, a6, a7], _, hh =>
    simp only [List.all_cons, List.all_nil, Bool.and_true, Bool.and_eq_true] at hh
    obtain ⟨h0, h1, h2, h3, h4, h5, h6, h7⟩ := hh
    obtain ⟨_, rfl⟩ := isU32_some h0; obtain ⟨_, rfl⟩ := isU32_some h1; obtain ⟨_, rfl⟩ := isU32_some h2; obtain ⟨_, rfl⟩ := isU32_some h3
    obtain ⟨_, rfl⟩ := isU32_some h4; obtain ⟨_, rfl⟩ := isU32_some h5; obtain ⟨_, rfl⟩ := isU32_some h6; obtain ⟨_, rfl⟩ := isU32_some h7
    rfl
theorem flat_u32 {hs : List V} (h : hs.all isU32 = true) : flat (.ag hs) = true := by
  simp only [flat]
  rw [List.all_eq_true] at h ⊢
  intro v hv
  obtain ⟨n, rfl⟩ := isU32_some (h v hv)
  rfl
theorem flat_fin (hh : Nat → Int) (v : Sha.S8) : flat (.ag (Sha.fin hh v)) = true := rfl
theorem flat_block (hh : Nat → Int) (x : Nat → Nat) (k : Nat → Int) : flat (.ag (Sha.block hh x k)) = true := flat_fin _ _

section
variable {P : Program} {T : Tab}
set_option maxHeartbeats 1000000 in
theorem blkO_ok (O : Ok P T) {f N gp : Nat} {fi : FI} (hg : gp < T.ng) (hfi : T.fn.get f = some fi) (hle : 2 ≤ fi.nt)
    (H : ∀ (t sz tp szp : Nat) (ex exp : Bool) (cap : Option Nat) (hh : Nat → Int) (x : Nat → Nat) (k : Nat → Int),
      tellsM (2 ^ (T.ng + 1) - 1) (run (go T N (begun f fi [.ag (mk8 hh), .sl T.ng 0 64 cap]) []) (subHeap2 T.ng gp (.cells t 64 sz ex [.u] (lay8 x)) (.cells tp 64 szp exp [.u] (lay32 k))) (T.ng + 1) 0 0) = some (.ag (Sha.block hh x k), 0)) :
    OrcOk P T.ng f (blkO gp) := by
  intro B K args args' ι h c r W w out hr S G F ha
  unfold blkO at hr
  split at hr
  · rename_i hs b o len cap
    obtain ⟨h1, hr2⟩ := run_bif hr
    simp only [Bool.and_eq_true, nbeq_iff, decide_eq_true_eq, Bool.not_eq_true', decide_eq_false_iff_not] at h1
    obtain ⟨rfl, hl8, hs32, hbg⟩ := h1
    obtain ⟨g, hgq, hr3⟩ := run_rd_some hr2
    split at hr3
    · rename_i tp np szp exp zp cp
      obtain ⟨h1, hr4⟩ := run_bif hr3
      simp only [Bool.and_eq_true, ble_iff, decide_eq_true_eq] at h1
      obtain ⟨hnp, h32⟩ := h1
      obtain ⟨q, hq, hr5⟩ := run_rd_some hr4
      split at hr5
      · rename_i t n sz ex z cc
        obtain ⟨h1, hr6⟩ := run_bif hr5
        simp only [Bool.and_eq_true, ble_iff, decide_eq_true_eq] at h1
        obtain ⟨hn, h8⟩ := h1
        rw [Sha.wordsF_eq, Sha.roundsF_eq] at hr6
        obtain ⟨L, hL, _⟩ := S.blk b _ hq
        obtain ⟨Lg, hLg, _⟩ := S.blk gp _ hgq
        obtain ⟨hB, hlt⟩ := S.at hq hL
        obtain ⟨hBg, hltg⟩ := S.at hgq hLg
        have hne : L.blk ≠ Lg.blk := fun e => hbg (S.inj _ _ _ _ L hq hgq trivial trivial hL ⟨Lg, hLg, e.symm⟩)
        -- the small heap
        have S₀ : Sim (subRen ι T.ng o L) (subHeap2 T.ng gp (.cells t 64 sz ex [.u] (lay8 (u8at z cc o))) (.cells tp 64 szp exp [.u] (lay32 (u32at zp cp)))) w := by
          have b1 : BR (subRen ι T.ng o L) w ⟨L.blk, L.off + o, L.len - o, L.sz⟩ (.cells t 64 sz ex [.u] (lay8 (u8at z cc o))) := by
            obtain ⟨arr, fz, g1, g2, g3, g4, g5, g6⟩ := hB
            refine ⟨arr, fz, g1, by show arr.size = L.off + o + (L.len - o); omega, by show 64 ≤ L.len - o; omega, g4, g5, fun j hj => ?_⟩
            obtain ⟨v, k1, k2, k3⟩ := g6 (o + j) (by omega)
            refine ⟨v, by show arr[L.off + o + j]? = _; rw [Nat.add_assoc]; exact k1, ?_, k3⟩
            rw [lay8_cell _ _ hj]
            have hu := cellsFrom_all h8 j hj
            unfold u8at
            unfold isU8 at hu
            split at hu
            · rename_i m hm; rw [hm] at k2; simp only [VR] at k2 ⊢; exact k2
            · cases hu
          have b2 : BR (subRen ι T.ng o L) w Lg (.cells tp 64 szp exp [.u] (lay32 (u32at zp cp))) := by
            obtain ⟨arr, fz, g1, g2, g3, g4, g5, g6⟩ := hBg
            refine ⟨arr, fz, g1, g2, by omega, g4, g5, fun j hj => ?_⟩
            obtain ⟨v, k1, k2, k3⟩ := g6 j (by omega)
            refine ⟨v, k1, ?_, k3⟩
            rw [lay32_cell _ _ hj]
            have hu := cellsFrom_all h32 j hj
            rw [Nat.zero_add] at hu
            unfold u32at
            unfold isU32 at hu
            split at hu
            · rename_i m hm; rw [hm] at k2; simp only [VR] at k2 ⊢; exact k2
            · cases hu
          have n1 : subRen ι T.ng o L T.ng = some ⟨L.blk, L.off + o, L.len - o, L.sz⟩ := by simp [subRen]
          have n2 : subRen ι T.ng o L gp = some Lg := by simp [subRen, hg, hLg]
          refine ⟨fun b' x hx => ?_, fun b₁ b₂ x₁ x₂ L₁ k1 k2 _ _ k3 k4 => ?_⟩
          · rw [subHeap2_get] at hx
            split at hx
            · rename_i e; cases hx; subst e; exact ⟨_, n1, hlt, b1⟩
            · split at hx
              · rename_i e; cases hx; subst e; exact ⟨_, n2, hltg, b2⟩
              · cases hx
          · have cs : ∀ b x, (subHeap2 T.ng gp (.cells t 64 sz ex [.u] (lay8 (u8at z cc o))) (.cells tp 64 szp exp [.u] (lay32 (u32at zp cp)))).get b = some x → b = T.ng ∨ b = gp := by
              intro b x hx
              rw [subHeap2_get] at hx
              split at hx
              · left; assumption
              · split at hx
                · right; assumption
                · cases hx
            obtain ⟨L', k5, k6⟩ := k4
            rcases cs _ _ k1 with e1 | e1 <;> rcases cs _ _ k2 with e2 | e2
            · rw [e1, e2]
            · subst e1; rw [e2, n2] at k5; rw [n1] at k3; cases k3; cases k5; exact absurd k6.symm hne
            · subst e2; rw [e1, n2] at k3; rw [n1] at k5; cases k3; cases k5; exact absurd k6 hne
            · rw [e1, e2]
        have hnL : n ≤ L.len := by obtain ⟨_, _, _, _, g, _⟩ := hB; exact g
        have ha' : VRL (subRen ι T.ng o L) [.ag (mk8 (i32at hs)), .sl T.ng 0 64 cap] args'.toList := by
          rw [mk8_eq hs hl8 hs32]
          generalize args'.toList = vs at ha
          match vs, ha with
          | [v1, v2], ha =>
            simp only [VRL, and_true] at ha ⊢
            exact ⟨ha.1.flat (flat_u32 hs32), sub_arg hL (by omega) ha.2⟩
          | [], ha => simp [VRL] at ha
          | [_], ha => simp [VRL] at ha
          | _ :: _ :: _ :: _, ha => simp [VRL] at ha
        obtain ⟨q', hq', e1, e2⟩ := tellsM_some (H t sz tp szp ex exp cap (i32at hs) (u8at z cc o) (u32at zp cp))
        have F₀ : Fresh (subRen ι T.ng o L) (subHeap2 T.ng gp (.cells t 64 sz ex [.u] (lay8 (u8at z cc o))) (.cells tp 64 szp exp [.u] (lay32 (u32at zp cp)))) (T.ng + 1) q' := fun b hb _ => by
          refine ⟨?_, ?_⟩
          · simp only [subRen]; rw [if_neg (by omega), if_neg (by omega)]
          · rw [subHeap2_get, if_neg (by omega), if_neg (by omega)]
        have hW : ∀ b L', subRen ι T.ng o L b = some L' → q'.w.testBit b = false := by
          intro b' L' hb'
          have hle' : b' < T.ng + 1 := by
            simp only [subRen] at hb'
            split at hb'
            · omega
            · split at hb'
              · omega
              · cases hb'
          have : (q'.w &&& (2 ^ (T.ng + 1) - 1)).testBit b' = false := by rw [e2]; simp
          rw [Nat.testBit_and, Nat.testBit_two_pow_sub_one] at this
          simpa [hle'] using this
        have hfl : flat q'.v = true := by rw [e1]; exact flat_block _ _ _
        obtain ⟨v', w', g1, g2, g3⟩ := orc_quiet (ι := ι) (h := h) (c := c) (W := W) O B hfi (by simpa using hle) hq' S₀ (sub_glob G) F₀ ha' hW hfl S
        rw [e1] at g1
        exact ⟨_, v', ι, h, c, _, W, w', hr6, g1, g2, g3⟩
      · simp [run_fail] at hr5
    · simp [run_fail] at hr3
  · simp [run_fail] at hr
end
end Go.Ev
