/- THE ABSTRACT MACHINE AND THE MODEL: a call without arguments that leans on three tables alone, as an oracle. Own work. -/
import Derived.Test.YtlainoonnnimiaaGreatDoorEvW
set_option linter.all false
set_option linter.unusedVariables false
set_option linter.constructorNameAsVariable false
set_option linter.unnecessarySimpa false
set_option linter.unusedSimpArgs false
set_option linter.unusedSimpArgs false
set_option linter.unusedVariables false
set_option linter.constructorNameAsVariable false
namespace Go.Ev

noncomputable def eq32 (a b : V) : Bool := match a, b with | .i .u32 x, .i .u32 y => ieq x y | _, _ => false
noncomputable def eqL32 (l : List V) : List V → Bool :=
  List.rec (motive := fun _ => List V → Bool) (fun m => match m with | [] => true | _ => false) (fun a _ ih m => match m with | b :: m => bif eq32 a b then ih m else false | [] => false) l
theorem eq32_eq {a b : V} (h : eq32 a b = true) : a = b := by
  unfold eq32 at h
  split at h
  · rw [ieq_iff, decide_eq_true_eq] at h; rw [h]
  · cases h
theorem eqL32_eq : ∀ {l m : List V}, eqL32 l m = true → l = m
  | [], [], _ => rfl
  | [], _ :: _, h => by cases h
  | _ :: _, [], h => by cases h
  | a :: l, b :: m, h => by
    have h' : (bif eq32 a b then eqL32 l m else false) = true := h
    cases e : eq32 a b with
    | true => rw [e, cond_true] at h'; rw [eq32_eq e, eqL32_eq h']
    | false => rw [e] at h'; cases h'

/-- A table is there. -/
noncomputable def tabI (g : Nat) (l : List V) (K : M) : M := .rd g fun q => match q with
  | .cells _ n _ _ z c => bif Nat.ble l.length n && eqL32 (cellsFrom z c l.length 0) l then K else .fail
  | _ => .fail
noncomputable def awkO (g0 g1 g2 : Nat) (l0 l1 l2 : List V) (args : List V) (K : V → M) : M :=
  match args with
  | [] => tabI g0 l0 (tabI g1 l1 (tabI g2 l2 (K (.b true))))
  | _ => .fail

noncomputable def tabBlk (t : Nat) (l : List V) : Blk := .cells t l.length 0 true [.u] (Tr.lay l 0 .l)
noncomputable def heap3 (g0 g1 g2 t0 t1 t2 : Nat) (l0 l1 l2 : List V) : Tr Blk := (((Tr.l : Tr Blk).set (tabBlk t0 l0) g0).set (tabBlk t1 l1) g1).set (tabBlk t2 l2) g2
theorem heap3_get (g0 g1 g2 t0 t1 t2 : Nat) (l0 l1 l2 : List V) (b : Nat) : (heap3 g0 g1 g2 t0 t1 t2 l0 l1 l2).get b = if b = g2 then some (tabBlk t2 l2) else if b = g1 then some (tabBlk t1 l1) else if b = g0 then some (tabBlk t0 l0) else none := by
  unfold heap3
  rw [Tr.get_set, Tr.get_set, Tr.get_set, Tr.get_l]

theorem cellsFrom_at {z : List V} {c : Tr V} : ∀ (m k j : Nat), j < m → (cellsFrom z c m k)[j]? = some (cell z c (k + j))
  | 0, _, _, h => by omega
  | m + 1, k, j, h => by
    rw [cellsFrom_succ]
    cases j with
    | zero => rfl
    | succ j => rw [List.getElem?_cons_succ, cellsFrom_at m (k + 1) j (by omega), show k + 1 + j = k + (j + 1) from by omega]

/-- A global's name in a world of globals alone. -/
noncomputable def gRen (ng : Nat) (ι : Ren) : Ren := fun b => if b < ng then (ι b).map fun L => ⟨L.blk, L.off, L.len, 0⟩ else none

section
variable {P : Program} {T : Tab} {ι : Ren} {h : Tr Blk} {c r W : Nat} {w : World} {out : Out}

theorem tabI_some {g : Nat} {l : List V} {K : M} (G : g < T.ng) (hs : l.all isU32 = true) (S : Sim ι h w) (Gl : Glob T.ng ι) (hr : run (tabI g l K) h c r W = some out) :
    ∃ t r', run K h c r' W = some out ∧ ∃ L, gRen T.ng ι g = some L ∧ L.blk < w.heap.size ∧ L.blk = g ∧ BR (gRen T.ng ι) w L (tabBlk t l) := by
  unfold tabI at hr
  obtain ⟨q, hq, hr1⟩ := run_rd_some hr
  split at hr1
  · rename_i t n sz ex z cc
    obtain ⟨h1, hr2⟩ := run_bif hr1
    simp only [Bool.and_eq_true, ble_iff, decide_eq_true_eq] at h1
    have he := eqL32_eq h1.2
    obtain ⟨L, hL, hLb, hLo⟩ := Gl g G
    obtain ⟨hB, hlt⟩ := S.at hq hL
    obtain ⟨arr, fz, g1, g2, g3, g4, g5, g6⟩ := hB
    refine ⟨t, _, hr2, ⟨L.blk, L.off, L.len, 0⟩, by simp [gRen, G, hL], hlt, hLb, arr, fz, g1, g2, by show l.length ≤ L.len; omega, rfl, g5, fun j hj => ?_⟩
    obtain ⟨v, k1, k2, k3⟩ := g6 j (by omega)
    refine ⟨v, k1, ?_, k3⟩
    have hc := cellsFrom_at (z := z) (c := cc) l.length 0 j hj
    rw [he, Nat.zero_add] at hc
    rw [cell_lay, if_pos (by omega), Nat.sub_zero]
    have : l.getD j .u = cell z cc j := by simp only [List.getD, hc, Option.getD_some]
    rw [this]
    have hu : isU32 (cell z cc j) = true := List.all_eq_true.1 hs _ (List.mem_of_getElem? hc)
    obtain ⟨m, hm⟩ := isU32_some hu
    rw [hm] at k2 ⊢
    simpa only [VR] using k2
  · simp [run_fail] at hr1

theorem awkO_ok (O : Ok P T) {f N g0 g1 g2 : Nat} {fi : FI} {l0 l1 l2 : List V} (n0 : g0 < T.ng) (n1 : g1 < T.ng) (n2 : g2 < T.ng) (s0 : l0.all isU32 = true) (s1 : l1.all isU32 = true) (s2 : l2.all isU32 = true)
    (hfi : T.fn.get f = some fi) (H : ∀ t0 t1 t2 : Nat, tellsM (2 ^ T.ng - 1) (run (go T N (begun f fi []) []) (heap3 g0 g1 g2 t0 t1 t2 l0 l1 l2) T.ng 0 0) = some (.b true, 0)) :
    OrcOk P T.ng f (awkO g0 g1 g2 l0 l1 l2) := by
  intro B K args args' ι h c r W w out hr S G F ha
  unfold awkO at hr
  split at hr
  · obtain ⟨t0, r0, hr0, L0, a0, b0, c0, d0⟩ := tabI_some n0 s0 S G hr
    obtain ⟨t1, r1, hr1, L1, a1, b1, c1, d1⟩ := tabI_some n1 s1 S G hr0
    obtain ⟨t2, r2, hr2, L2, a2, b2, c2, d2⟩ := tabI_some n2 s2 S G hr1
    obtain ⟨q, hq, e1, e2⟩ := tellsM_some (H t0 t1 t2)
    have hb : ∀ b x, (heap3 g0 g1 g2 t0 t1 t2 l0 l1 l2).get b = some x → ∃ L, gRen T.ng ι b = some L ∧ L.blk = b ∧ L.blk < w.heap.size ∧ BR (gRen T.ng ι) w L x := by
      intro b x hx
      rw [heap3_get] at hx
      split at hx
      · rename_i e; cases hx; subst e; exact ⟨L2, a2, c2, b2, d2⟩
      · split at hx
        · rename_i e; cases hx; subst e; exact ⟨L1, a1, c1, b1, d1⟩
        · split at hx
          · rename_i e; cases hx; subst e; exact ⟨L0, a0, c0, b0, d0⟩
          · cases hx
    have S₀ : Sim (gRen T.ng ι) (heap3 g0 g1 g2 t0 t1 t2 l0 l1 l2) w := by
      refine ⟨fun b x hx => ?_, fun b₁ b₂ x₁ x₂ M k1 k2 _ _ k3 k4 => ?_⟩
      · obtain ⟨L, q1, q2, q3, q4⟩ := hb b x hx
        exact ⟨L, q1, q3, q4⟩
      · obtain ⟨M1, q1, q2, _⟩ := hb _ _ k1
        obtain ⟨M2, q3, q4, _⟩ := hb _ _ k2
        obtain ⟨M3, k5, k6⟩ := k4
        rw [k3] at q1; cases q1
        rw [k5] at q3; cases q3
        omega
    have G₀ : Glob T.ng (gRen T.ng ι) := fun g hg => by
      obtain ⟨L, q1, q2, q3⟩ := G g hg
      exact ⟨⟨L.blk, L.off, L.len, 0⟩, by simp [gRen, hg, q1], q2, q3⟩
    have F₀ : Fresh (gRen T.ng ι) (heap3 g0 g1 g2 t0 t1 t2 l0 l1 l2) T.ng q := fun b hb' _ => by
      refine ⟨by simp only [gRen]; rw [if_neg (by omega)], ?_⟩
      rw [heap3_get, if_neg (by omega), if_neg (by omega), if_neg (by omega)]
    have hW : ∀ b L', gRen T.ng ι b = some L' → q.w.testBit b = false := by
      intro b L' hb'
      have hlt : b < T.ng := by
        simp only [gRen] at hb'
        split at hb'
        · assumption
        · cases hb'
      have : (q.w &&& (2 ^ T.ng - 1)).testBit b = false := by rw [e2]; simp
      rw [Nat.testBit_and, Nat.testBit_two_pow_sub_one] at this
      simpa [hlt] using this
    have ha0 : VRL (gRen T.ng ι) [] args'.toList := by
      generalize args'.toList = vs at ha
      cases vs with
      | nil => simp [VRL]
      | cons _ _ => simp [VRL] at ha
    obtain ⟨v', w', q1, q2, q3⟩ := orc_quiet (ι := ι) (h := h) (c := c) (W := W) O B hfi (by simp) hq S₀ G₀ F₀ ha0 hW (by rw [e1]; rfl) S
    rw [e1] at q1
    exact ⟨_, v', ι, h, c, _, W, w', hr2, q1, q2, q3⟩
  · simp [run_fail] at hr
end
end Go.Ev
