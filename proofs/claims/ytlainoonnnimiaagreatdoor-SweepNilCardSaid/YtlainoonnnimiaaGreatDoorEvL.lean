/- THE ABSTRACT MACHINE: what a computation leans on, and what it leaves alone. Own work. -/
import Derived.Test.YtlainoonnnimiaaGreatDoorEvP1
set_option linter.all false
set_option linter.unusedVariables false
set_option linter.constructorNameAsVariable false
set_option linter.unnecessarySimpa false
set_option linter.unusedSimpArgs false
set_option linter.unusedSimpArgs false
set_option linter.unusedVariables false
namespace Go.Ev

theorem run_r_mono (m : M) : ∀ {h c r W out} (b : Nat), run m h c r W = some out → r.testBit b = true → out.r.testBit b = true := by
  induction m with
  | ret v => intro h c r W out b e hb; rw [run_ret] at e; cases e; exact hb
  | fail => intro h c r W out b e; rw [run_fail] at e; cases e
  | rd b' k ih => intro h c r W out b e hb; rw [run_rd] at e; split at e; exact ih _ b e (by rw [bit_test, hb]; rfl); cases e
  | wr b' x k ih => intro h c r W out b e hb; rw [run_wr] at e; split at e; exact ih b e hb; cases e
  | al x k ih => intro h c r W out b e hb; rw [run_al] at e; exact ih _ b e hb
  | sub m k ihm ihk => intro h c r W out b e hb; rw [run_sub] at e; split at e; rename_i o ho; exact ihk _ _ _ b e (by rw [Nat.testBit_or, hb]; rfl); cases e

/-- What isn't written stays. -/
theorem run_frame (m : M) : ∀ {h c r W out}, run m h c r W = some out → ∀ b, out.w.testBit b = false → ¬ (c ≤ b ∧ b < out.c) → out.h.get b = h.get b := by
  induction m with
  | ret v => intro h c r W out e b hb hc; rw [run_ret] at e; cases e; rfl
  | fail => intro h c r W out e; rw [run_fail] at e; cases e
  | rd b' k ih => intro h c r W out e b hb hc; rw [run_rd] at e; split at e; exact ih _ e b hb hc; cases e
  | wr b' x k ih =>
    intro h c r W out e b hb hc
    have e' := run_wr_some e
    rw [ih e' b hb hc, Tr.get_set, if_neg]
    intro hbb
    have := run_w_mono _ b' e' (by rw [bit_test]; simp)
    rw [hbb] at hb
    rw [this] at hb; cases hb
  | al x k ih =>
    intro h c r W out e b hb hc
    rw [run_al] at e
    have hle := run_c_le _ e
    rw [ih _ e b hb (by omega), Tr.get_set, if_neg (by omega)]
  | sub m k ihm ihk =>
    intro h c r W out e b hb hc
    rw [run_sub] at e
    split at e
    · rename_i o ho
      have h1 := run_c_le _ ho
      have h2 := run_c_le _ e
      rw [ihk _ _ _ e b hb (by omega)]
      refine ihm ho b ?_ (by omega)
      cases hw : o.w.testBit b with
      | false => rfl
      | true =>
        have := run_w_mono _ b e (by rw [Nat.testBit_or, hw]; simp)
        rw [this] at hb; cases hb
    · cases e

/-- A computation goes alike where what it touches is alike. -/
theorem run_local (m : M) : ∀ {h c r W out} (h₂ : Tr Blk), run m h c r W = some out → (∀ b, (out.r.testBit b = true ∨ out.w.testBit b = true) → h₂.get b = h.get b) →
    ∃ out₂, run m h₂ c r W = some out₂ ∧ out₂.v = out.v ∧ out₂.c = out.c ∧ out₂.r = out.r ∧ out₂.w = out.w ∧
      ∀ b, (out.r.testBit b = true ∨ out.w.testBit b = true ∨ (c ≤ b ∧ b < out.c)) → out₂.h.get b = out.h.get b := by
  induction m with
  | ret v =>
    intro h c r W out h₂ e hyp
    rw [run_ret] at e; cases e
    refine ⟨_, run_ret _ _ _ _ _, rfl, rfl, rfl, rfl, fun b hb => ?_⟩
    rcases hb with hb | hb | hb
    · exact hyp b (.inl hb)
    · exact hyp b (.inr hb)
    · simp only at hb; omega
  | fail => intro h c r W out h₂ e; rw [run_fail] at e; cases e
  | rd b' k ih =>
    intro h c r W out h₂ e hyp
    obtain ⟨x, hx, e1⟩ := run_rd_some e
    have := hyp b' (.inl (run_r_mono _ b' e1 (by rw [bit_test]; simp)))
    obtain ⟨o2, g1, g2⟩ := ih _ h₂ e1 hyp
    exact ⟨o2, by rw [run_rd, this, hx]; exact g1, g2⟩
  | wr b' x k ih =>
    intro h c r W out h₂ e hyp
    have e1 := run_wr_some e
    have hb := hyp b' (.inr (run_w_mono _ b' e1 (by rw [bit_test]; simp)))
    have hsome : ∃ y, h.get b' = some y := by
      rw [run_wr] at e
      split at e
      · exact ⟨_, by assumption⟩
      · cases e
    obtain ⟨y, hy⟩ := hsome
    obtain ⟨o2, g1, g2⟩ := ih (h₂.set x b') e1 (fun b hb => by rw [Tr.get_set, Tr.get_set, hyp b hb])
    exact ⟨o2, by rw [run_wr, hb, hy]; exact g1, g2⟩
  | al x k ih =>
    intro h c r W out h₂ e hyp
    rw [run_al] at e
    obtain ⟨o2, g1, g2, g3, g4, g5, g6⟩ := ih _ (h₂.set x c) e (fun b hb => by rw [Tr.get_set, Tr.get_set, hyp b hb])
    refine ⟨o2, by rw [run_al]; exact g1, g2, g3, g4, g5, fun b hb => ?_⟩
    rcases hb with hb | hb | hb
    · exact g6 b (.inl hb)
    · exact g6 b (.inr (.inl hb))
    · by_cases hc : b = c
      · subst hc
        cases hw : out.w.testBit b with
        | true => exact g6 b (.inr (.inl hw))
        | false =>
          rw [run_frame _ g1 b (by rw [g5]; exact hw) (by omega), run_frame _ e b hw (by omega), Tr.get_set, Tr.get_set, if_pos rfl, if_pos rfl]
      · exact g6 b (.inr (.inr (by omega)))
  | sub m k ihm ihk =>
    intro h c r W out h₂ e hyp
    rw [run_sub] at e
    split at e
    · rename_i o ho
      have hr : ∀ b, o.r.testBit b = true → out.r.testBit b = true := fun b hb => run_r_mono _ b e (by rw [Nat.testBit_or, hb]; simp)
      have hw : ∀ b, o.w.testBit b = true → out.w.testBit b = true := fun b hb => run_w_mono _ b e (by rw [Nat.testBit_or, hb]; simp)
      obtain ⟨o2, g1, g2, g3, g4, g5, g6⟩ := ihm h₂ ho (fun b hb => hyp b (hb.imp (hr b) (hw b)))
      have hmid : ∀ b, (out.r.testBit b = true ∨ out.w.testBit b = true) → o2.h.get b = o.h.get b := by
        intro b hb
        cases h1 : o.w.testBit b with
        | true => exact g6 b (.inr (.inl h1))
        | false =>
          by_cases h2 : c ≤ b ∧ b < o.c
          · exact g6 b (.inr (.inr h2))
          · rw [run_frame _ g1 b (by rw [g5]; exact h1) (by rw [g3]; exact h2), run_frame _ ho b h1 h2, hyp b hb]
      obtain ⟨o3, k1, k2, k3, k4, k5, k6⟩ := ihk o.v o.r (o.w ||| span c o.c) o2.h e hmid
      refine ⟨o3, ?_, k2, k3, k4, k5, fun b hb => ?_⟩
      · rw [run_sub, g1]
        simp only [g2, g3, g4, g5]
        exact k1
      · rcases hb with hb | hb | hb
        · exact k6 b (.inl hb)
        · exact k6 b (.inr (.inl hb))
        · by_cases hc : o.c ≤ b
          · exact k6 b (.inr (.inr (by omega)))
          · cases h1 : out.w.testBit b with
            | true => exact k6 b (.inr (.inl h1))
            | false =>
              rw [run_frame _ k1 b (by rw [k5]; exact h1) (by omega), run_frame _ e b h1 (by omega)]
              exact g6 b (.inr (.inr (by omega)))
    · cases e

theorem map_congr {ρ ρ₂ : Operand → V} {l : List Operand} (h : ∀ x ∈ l, ρ x = ρ₂ x) : l.map ρ = l.map ρ₂ := List.map_congr_left h

theorem aop_congr (T : Tr TI) {ρ ρ₂ : Operand → V} {op : Op} (K : V → M) (h : ∀ x ∈ opers op, ρ x = ρ₂ x) : aop T ρ op K = aop T ρ₂ op K := by
  cases op with
  | build t ps =>
    have : (ps.toList.map fun p => (p.1, ρ p.2)) = ps.toList.map fun p => (p.1, ρ₂ p.2) := List.map_congr_left fun p hp => by rw [h p.2 (List.mem_map.2 ⟨p, hp, rfl⟩)]
    simp only [aop, this]
  | buildSlice t n ps =>
    have : (ps.toList.map fun p => (p.1, ρ p.2)) = ps.toList.map fun p => (p.1, ρ₂ p.2) := List.map_congr_left fun p hp => by rw [h p.2 (List.mem_map.2 ⟨p, hp, rfl⟩)]
    simp only [aop, this]
  | makeFunc fn a c =>
    have h1 : a.toList.map ρ = a.toList.map ρ₂ := map_congr fun x hx => h x (by simp only [opers]; exact List.mem_append.2 (.inl hx))
    have h2 : c.toList.map ρ = c.toList.map ρ₂ := map_congr fun x hx => h x (by simp only [opers]; exact List.mem_append.2 (.inr hx))
    simp only [aop, h1, h2]
  | slice t x lo hi mx =>
    have hx := h x (by simp [opers])
    have hlo : lo.map ρ = lo.map ρ₂ := by cases lo with | none => rfl | some y => simp [h y (by simp [opers])]
    have hhi : hi.map ρ = hi.map ρ₂ := by cases hi with | none => rfl | some y => simp [h y (by simp [opers])]
    have hmx : mx.map ρ = mx.map ρ₂ := by cases mx with | none => rfl | some y => simp [h y (by simp [opers])]
    simp only [aop, hx, hlo, hhi, hmx]
  | call c =>
    obtain ⟨callee, args, ts⟩ := c
    have ha : args.toList.map ρ = args.toList.map ρ₂ := map_congr fun x hx => h x (by simp only [opers]; exact List.mem_append.2 (.inr hx))
    cases callee <;> simp only [aop, ha]
  | _ => simp only [opers, List.mem_cons, List.mem_nil_iff, or_false, forall_eq_or_imp, forall_eq, false_imp_iff, implies_true] at h; simp only [aop, h]

theorem callC_congr (T : Tab) (ih : Go) {ρ ρ₂ : Operand → V} {cl : Call} (cs : List AF) (K : V → M) (h : ∀ x ∈ opers (.call cl), ρ x = ρ₂ x) : callC T ih ρ cl cs K = callC T ih ρ₂ cl cs K := by
  obtain ⟨callee, args, ts⟩ := cl
  have ha : args.toList.map ρ = args.toList.map ρ₂ := map_congr fun x hx => h x (by simp only [opers]; exact List.mem_append.2 (.inr hx))
  cases callee with
  | builtin b => simp only [callC, ha]
  | value g => have hg := h g (by simp [opers]); simp only [callC, ha, hg]
  | invoke g n => have hg := h g (by simp [opers]); simp only [callC, ha, hg]

theorem ev_congr {ng : Nat} {tm tm₂ : Tr V} {l : List Operand} (h : ∀ t ∈ tmpsOf l, tm.get t = tm₂.get t) : ∀ x ∈ l, ev ng tm x = ev ng tm₂ x := by
  intro x hx
  cases x with
  | tmp t => simp only [ev]; rw [h t (List.mem_filterMap.2 ⟨_, hx, rfl⟩)]
  | _ => rfl

theorem opM_congr (T : Tab) (ih : Go) {ops : List Oper} {tm tm₂ : Tr V} {o : Oper} (h : ∀ t ∈ looks ops o, tm.get t = tm₂.get t) : opM T ih ops tm o = opM T ih ops tm₂ o := by
  have he : ∀ x ∈ opers o.op, ev T.ng tm x = ev T.ng tm₂ x := ev_congr fun t ht => h t (List.mem_append.2 (.inl ht))
  have hw : want ops tm o = want ops tm₂ o := by
    unfold want
    split
    · rfl
    · rename_i j w hg
      split
      · rfl
      · rename_i g hj
        split
        · rfl
        · rename_i d hd
          rw [h d (List.mem_append.2 (.inr (by simp [hg, hj, hd])))]
  unfold opM
  rw [hw]
  cases want ops tm₂ o with
  | none => rfl
  | some b =>
    cases b with
    | false => rfl
    | true =>
      simp only
      split
      · rename_i c hc
        exact callC_congr T ih [] .ret (by rw [← hc]; exact he)
      · rfl
      · exact aop_congr T.ty .ret he
end Go.Ev
