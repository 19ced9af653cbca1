/- THE ABSTRACT MACHINE AND THE MODEL: copy, len, clear, min, max. Own work. -/
import Derived.Test.YtlainoonnnimiaaGreatDoorEvO12
set_option linter.all false
set_option linter.unusedVariables false
set_option linter.constructorNameAsVariable false
set_option linter.unnecessarySimpa false
set_option linter.unusedSimpArgs false
set_option linter.unusedSimpArgs false
set_option linter.unusedVariables false
namespace Go.Ev

section
variable {P : Program} {T : Tr TI} {ι : Ren} {h : Tr Blk} {c r W : Nat} {w : World} {out : Out} {K : V → M}

theorem ts_at {ts' : Array TypeId} {t : Nat} {l : List Nat} (e : ts'.toList = t :: l) : ts'[0]? = some t := by rw [← Array.getElem?_toList, e]; rfl

theorem aCopy_ok (hT : TyOk P T) (S : Sim ι h w) {ts' : Array TypeId} {ty : TypeId} {s x : V} {s' x' : Value} {args' : Array Value} (h0 : args'[0]? = some s') (h1 : args'[1]? = some x')
    (hs : VR ι s s') (hx : VR ι x x') (hr : run (aCopy T ts'.toList s x K) h c r W = some out) : Good P (Builtin.copy_ ts' ty args') ι h c W w out K := by
  unfold aCopy at hr
  split at hr
  · rename_i t _ hts
    have ht0 := ts_at hts
    split at hr
    · rename_i e sz eb _ _ _ _ n m hti hn hm
      obtain ⟨d, hd⟩ := hT.at hti
      obtain ⟨rfl, inf, hinf, hsz, heb⟩ := hd.slice rfl
      have hes : (sizeOf e).run P w = .ok sz w := by rw [run_sizeOf_info w hinf, hsz]
      obtain ⟨l, r', hr1, vs, n1, n2, n3, n4⟩ := firstC_ok (P := P) (n := Nat.min n m) S hx hn (Nat.min_le_left n m) hr
      clear hr
      have hlo := lenV_ok (P := P) (w := w) hx hn
      have hll := n2.length
      split at hr1
      · -- to nil
        simp only [VR] at hs
        subst hs
        have hm0 : m = 0 := by simpa [lenV] using hm.symm
        subst hm0
        refine Good.now S hr1 (v' := .int .i64 0) ?_ (by simp [VR])
        unfold Builtin.copy_
        simp only [ht0, h0, h1, Sem.run_bind, hd.run_und, Result.andThen_ok, hes, hlo, Sem.run_pure]
        rw [n1 w rfl]
        simp [goInt]
      · rename_i b o len cap
        have hml : m = len := by simpa [lenV] using hm.symm
        subst hml
        simp only [VR] at hs
        obtain ⟨L, cp, hL, hcp, hv⟩ := hs
        have hsv : ∃ base sc, s' = .slice base m sc ∧ (base = some ⟨L.blk, L.off + o, none⟩ ∨ m = 0 ∧ ∃ a, base = some a) := by
          split at hv
          · exact ⟨_, _, hv.2, .inl rfl⟩
          · rcases hv with ⟨hv, _⟩ | ⟨hz, q, hv⟩
            · exact ⟨_, _, hv, .inl rfl⟩
            · subst hz; exact ⟨_, _, hv, .inr ⟨rfl, _, rfl⟩⟩
        obtain ⟨base, sc, hse, hbase⟩ := hsv
        clear hv
        subst hse
        cases h0' : Nat.beq (Nat.min n m) 0 with
        | true =>
          simp only [h0', cond_true] at hr1
          rw [nbeq_iff, decide_eq_true_eq] at h0'
          have hvn : vs = [] := by rw [h0'] at n4; simpa using n4
          subst hvn
          refine Good.now S hr1 (v' := .int .i64 0) ?_ (by simp [VR])
          unfold Builtin.copy_
          simp only [ht0, h0, h1, Sem.run_bind, hd.run_und, Result.andThen_ok, hes, hlo, Sem.run_pure]
          rw [n1 w rfl]
          cases base <;> simp [goInt, h0', storeCells]
        | false =>
          simp only [h0', cond_false] at hr1
          rw [nbeq_iff, decide_eq_false_iff_not] at h0'
          have hb0 : base = some ⟨L.blk, L.off + o, none⟩ := by
            rcases hbase with h | ⟨h, _⟩
            · exact h
            · exact absurd (by rw [h]; exact Nat.min_eq_right (Nat.zero_le _)) h0'
          subst hb0
          obtain ⟨q, hq, hr2⟩ := run_rd_some hr1
          split at hr2
          · rename_i e' mm sz' ex z cc
            obtain ⟨hle, hr3⟩ := run_bif hr2
            rw [ble_iff, decide_eq_true_eq] at hle
            obtain ⟨hB, hblt⟩ := S.at hq hL
            have hmL : mm ≤ L.len := by obtain ⟨_, _, _, _, g, _⟩ := hB; exact g
            obtain ⟨w', e1, e2, e3, e4, e5, e6, e7, _, _⟩ := run_put (P := P) hB (o := o) n2 n3 (by omega)
            refine ⟨_, .int .i64 (Nat.min n m : Nat), ι, _, _, _, _, w', run_wr_some hr3, ?_, by simp [VR], Way.write S hq trivial hL e2 e3 e4 e5 e6 (e7 (by omega))⟩
            unfold Builtin.copy_
            simp only [ht0, h0, h1, Sem.run_bind, hd.run_und, Result.andThen_ok, hes, hlo, Sem.run_pure]
            rw [n1 w rfl]
            simp only [Result.andThen_ok, Sem.run_bind, e1, Sem.run_pure]
            rfl
          · simp [run_fail] at hr2
      · simp [run_fail] at hr1
    · simp [run_fail] at hr
  · simp [run_fail] at hr

theorem aLen_ok (hT : TyOk P T) (S : Sim ι h w) {ts' : Array TypeId} {ty : TypeId} {x : V} {x' : Value} {args' : Array Value} (h0 : args'[0]? = some x')
    (hx : VR ι x x') (hr : run (aLen T ts'.toList x K) h c r W = some out) : Good P (Builtin.len_ ts' ty args') ι h c W w out K := by
  unfold aLen at hr
  split at hr
  · rename_i t _ hts
    have ht0 := ts_at hts
    split at hr
    · rename_i ti hti
      obtain ⟨d, hd⟩ := hT.at hti
      have hu := hd.run_und w
      split at hr
      · rename_i l hk
        have := hd.str hk
        subst this
        simp only [VR] at hx
        obtain ⟨s, rfl, rfl⟩ := hx
        refine Good.now S hr (v' := .int .i64 s.size) ?_ (by simp [VR, bytes])
        unfold Builtin.len_
        simp only [ht0, h0, Sem.run_bind, hu, Result.andThen_ok, Sem.run_pure]
        rfl
      · rename_i n e sz hk
        obtain ⟨rfl, _⟩ := hd.arr hk
        refine Good.now S hr (v' := .int .i64 n) ?_ (by simp [VR])
        unfold Builtin.len_
        simp only [ht0, h0, Sem.run_bind, hu, Result.andThen_ok, Sem.run_pure]
        rfl
      · rename_i hk
        obtain ⟨rfl, _⟩ := hd.slice hk
        simp only [VR] at hx
        subst hx
        refine Good.now S hr (v' := .int .i64 0) ?_ (by simp [VR])
        unfold Builtin.len_
        simp only [ht0, h0, Sem.run_bind, hu, Result.andThen_ok, Sem.run_pure]
        rfl
      · rename_i hk
        obtain ⟨rfl, _⟩ := hd.slice hk
        simp only [VR] at hx
        rename_i b o n cap _
        have hsv : ∃ base sc, x' = .slice base n sc := by
          obtain ⟨L, cp, hL, hcp, hv⟩ := hx
          split at hv
          · exact ⟨_, _, hv.2⟩
          · rcases hv with ⟨hv, _⟩ | ⟨hz, q, hv⟩
            · exact ⟨_, _, hv⟩
            · subst hz; exact ⟨_, _, hv⟩
        obtain ⟨base, sc, rfl⟩ := hsv
        refine Good.now S hr (v' := .int .i64 n) ?_ (by simp [VR])
        unfold Builtin.len_
        simp only [ht0, h0, Sem.run_bind, hu, Result.andThen_ok, Sem.run_pure]
        rfl
      · rename_i hk
        obtain ⟨rfl, _⟩ := hd.slice hk
        simp only [VR] at hx
        obtain ⟨L, n, cap, hL, rfl, g1, g2, g3⟩ := hx
        refine Good.now S hr (v' := .int .i64 n) ?_ (by simp only [VR]; exact ⟨_, rfl, by simpa using g1, by simpa using g2, mod_one _⟩)
        unfold Builtin.len_
        simp only [ht0, h0, Sem.run_bind, hu, Result.andThen_ok, Sem.run_pure]
        rfl
      · rename_i hk
        have := hd.map hk
        subst this
        simp only [VR] at hx
        subst hx
        refine Good.now S hr (v' := .int .i64 0) ?_ (by simp [VR])
        unfold Builtin.len_
        simp only [ht0, h0, Sem.run_bind, hu, Result.andThen_ok, Sem.run_pure]
        rfl
      · rename_i b hk
        have := hd.map hk
        subst this
        simp only [VR] at hx
        obtain ⟨L, hL, rfl⟩ := hx
        obtain ⟨q, hq, hr1⟩ := run_rd_some hr
        split at hr1
        · rename_i es clock
          obtain ⟨hB, hblt⟩ := S.at hq hL
          obtain ⟨arr, g1, g2, g3⟩ := hB
          refine Good.now S hr1 (v' := .int .i64 arr.size) ?_ (by simp [VR, g2])
          unfold Builtin.len_
          simp only [ht0, h0, Sem.run_bind, hu, Result.andThen_ok, Sem.run_pure, getObj, Sem.run, g1]
          rfl
        · simp [run_fail] at hr1
      · simp [run_fail] at hr
    · simp [run_fail] at hr
  · simp [run_fail] at hr

theorem aClear_ok (hT : TyOk P T) (S : Sim ι h w) {ts' : Array TypeId} {ty : TypeId} {x : V} {x' : Value} {args' : Array Value} (h0 : args'[0]? = some x')
    (hx : VR ι x x') (hr : run (aClear T ts'.toList x K) h c r W = some out) : Good P (Builtin.clear_ ts' ty args') ι h c W w out K := by
  unfold aClear at hr
  split at hr
  · rename_i t _ hts
    have ht0 := ts_at hts
    split at hr
    · rename_i e sz eb a1 a2 a3 a4 hti
      obtain ⟨d, hd⟩ := hT.at hti
      obtain ⟨rfl, _⟩ := hd.slice rfl
      simp only [VR] at hx
      subst hx
      refine Good.now S hr (v' := .tuple #[]) ?_ (by simp [VR, VRL])
      unfold Builtin.clear_
      simp only [ht0, h0, Sem.run_bind, hd.run_und, Result.andThen_ok, Sem.run_pure]
    · rename_i e sz eb a1 a2 a3 a4 b o n cap hti
      obtain ⟨d, hd⟩ := hT.at hti
      obtain ⟨rfl, inf, hinf, hsz, heb⟩ := hd.slice rfl
      simp only [VR] at hx
      obtain ⟨L, cp, hL, hcp, hv⟩ := hx
      have hsv : ∃ base sc, x' = .slice base n sc ∧ (base = some ⟨L.blk, L.off + o, none⟩ ∨ n = 0 ∧ ∃ a, base = some a) := by
        split at hv
        · exact ⟨_, _, hv.2, .inl rfl⟩
        · rcases hv with ⟨hv, _⟩ | ⟨hz, q, hv⟩
          · exact ⟨_, _, hv, .inl rfl⟩
          · subst hz; exact ⟨_, _, hv, .inr ⟨rfl, _, rfl⟩⟩
      obtain ⟨base, sc, hse, hbase⟩ := hsv
      clear hv
      subst hse
      cases h0' : Nat.beq n 0 with
      | true =>
        rw [h0', cond_true] at hr
        rw [nbeq_iff, decide_eq_true_eq] at h0'
        subst h0'
        refine Good.now S hr (v' := .tuple #[]) ?_ (by simp [VR, VRL])
        unfold Builtin.clear_
        simp only [ht0, h0, Sem.run_bind, hd.run_und, Result.andThen_ok]
        cases base <;> simp only [Sem.run_bind, Sem.run_pure, Result.andThen_ok]
      | false =>
        rw [h0', cond_false] at hr
        rw [nbeq_iff, decide_eq_false_iff_not] at h0'
        have hb0 : base = some ⟨L.blk, L.off + o, none⟩ := by
          rcases hbase with h | ⟨h, _⟩
          · exact h
          · exact absurd h h0'
        subst hb0
        split at hr
        · rename_i ei hei
          obtain ⟨de, hde⟩ := hT.at hei
          obtain ⟨zv, z1, z2, z3, z4⟩ := zero_cells hde ι w
          have hes' : ei.size = sz := by
            obtain ⟨i, _, q1, q2, _⟩ := hde.rest
            rw [hinf] at q1; cases q1
            rw [← q2, hsz]
          obtain ⟨q, hq, hr1⟩ := run_rd_some hr
          split at hr1
          · rename_i e' mm sz' ex z cc
            obtain ⟨hle, hr2⟩ := run_bif hr1
            rw [ble_iff, decide_eq_true_eq] at hle
            obtain ⟨hB, hblt⟩ := S.at hq hL
            have hmL : mm ≤ L.len := by obtain ⟨_, _, _, _, g, _⟩ := hB; exact g
            obtain ⟨g1, g2⟩ := zeros_rel (n := n) z2 z3
            have hzl : ei.zero.length = sz := by have := z2.length; simp at this; omega
            have hlen : (List.replicate n ei.zero).flatten.length = n * sz := by rw [replicate_len, hzl]
            obtain ⟨w', e1, e2, e3, e4, e5, e6, e7, _, _⟩ := run_put (P := P) hB (o := o) g1 g2 (by omega)
            refine ⟨_, .tuple #[], ι, _, _, _, _, w', run_wr_some hr2, ?_, by simp [VR, VRL], Way.write S hq trivial hL e2 e3 e4 e5 e6 (e7 (by omega))⟩
            unfold Builtin.clear_
            simp only [ht0, h0, Sem.run_bind, hd.run_und, Result.andThen_ok]
            cases n with
            | zero => exact absurd rfl h0'
            | succ n => simp only [Sem.run_bind, z1, Result.andThen_ok, Builtin.zeroCells, e1, Sem.run_pure]
          · simp [run_fail] at hr1
        · simp [run_fail] at hr
    · simp [run_fail] at hr
  · simp [run_fail] at hr

theorem two_args {l : List V} {args' : Array Value} {a b : V} (hl : VRL ι l args'.toList) (e : l = [a, b]) : ∃ a' b', args'.toList = [a', b'] ∧ VR ι a a' ∧ VR ι b b' := by
  subst e
  rcases hh : args'.toList with _ | ⟨u, _ | ⟨v, _ | ⟨_, _⟩⟩⟩ <;> rw [hh] at hl <;> simp only [VRL, and_false, and_true] at hl
  exact ⟨u, v, rfl, hl⟩

theorem aMin_ok (S : Sim ι h w) {ts' : Array TypeId} {ty : TypeId} {l : List V} {args' : Array Value} (hl : VRL ι l args'.toList) (hr : run (aMinMax true l K) h c r W = some out) :
    Good P (Builtin.min_ ts' ty args') ι h c W w out K := by
  unfold aMinMax at hr
  split at hr
  · rename_i k x k' y
    obtain ⟨a', b', e, h1, h2⟩ := two_args hl rfl
    simp only [VR] at h1 h2
    subst h1 h2
    simp only [cond_true, ile_iff] at hr
    refine Good.now S hr (v' := .int k (if y < x then y else x)) ?_ ?_
    · simp [Builtin.min_, e, Builtin.min2]
    · by_cases hxy : x ≤ y
      · simp [hxy, VR, Int.not_lt.2 hxy]
      · simp [hxy, VR, Int.not_le.1 hxy]
  · rename_i k a b _ _ k' y
    obtain ⟨a', b', e, h1, h2⟩ := two_args hl rfl
    simp only [VR] at h1 h2
    obtain ⟨x, rfl, g1, g2, _⟩ := h1
    subst h2
    simp only [cond_true, ile_iff] at hr
    have hs : (Builtin.min_ ts' ty args').run P w = .ok (.int k (if y < x then y else x)) w := by simp [Builtin.min_, e, Builtin.min2]
    by_cases c1 : y ≤ a
    · rw [decide_eq_true c1, cond_true] at hr
      refine Good.now S hr hs ?_
      simp only [VR]
      congr 1
      split <;> omega
    · rw [decide_eq_false c1, cond_false] at hr
      by_cases c2 : b ≤ y
      · rw [decide_eq_true c2, cond_true] at hr
        refine Good.now S hr hs ?_
        simp only [VR]
        exact ⟨_, rfl, by split <;> omega, by split <;> omega, mod_one _⟩
      · rw [decide_eq_false c2, cond_false] at hr
        refine Good.now S hr hs ?_
        simp only [VR]
        exact ⟨_, rfl, by split <;> omega, by split <;> omega, mod_one _⟩
  · simp [run_fail] at hr

theorem aMax_ok (S : Sim ι h w) {ts' : Array TypeId} {ty : TypeId} {l : List V} {args' : Array Value} (hl : VRL ι l args'.toList) (hr : run (aMinMax false l K) h c r W = some out) :
    Good P (Builtin.max_ ts' ty args') ι h c W w out K := by
  unfold aMinMax at hr
  split at hr
  · rename_i k x k' y
    obtain ⟨a', b', e, h1, h2⟩ := two_args hl rfl
    simp only [VR] at h1 h2
    subst h1 h2
    simp only [cond_false, ile_iff] at hr
    refine Good.now S hr (v' := .int k (if y > x then y else x)) ?_ ?_
    · simp [Builtin.max_, e, Builtin.max2]
    · by_cases hxy : y ≤ x
      · simp [hxy, VR, Int.not_lt.2 hxy]
      · simp [hxy, VR, Int.not_le.1 hxy]
  · rename_i k a b _ _ k' y
    obtain ⟨a', b', e, h1, h2⟩ := two_args hl rfl
    simp only [VR] at h1 h2
    obtain ⟨x, rfl, g1, g2, _⟩ := h1
    subst h2
    simp only [cond_false, ile_iff] at hr
    have hs : (Builtin.max_ ts' ty args').run P w = .ok (.int k (if y > x then y else x)) w := by simp [Builtin.max_, e, Builtin.max2]
    by_cases c1 : b ≤ y
    · rw [decide_eq_true c1, cond_true] at hr
      refine Good.now S hr hs ?_
      simp only [VR]
      congr 1
      split <;> omega
    · rw [decide_eq_false c1, cond_false] at hr
      by_cases c2 : y ≤ a
      · rw [decide_eq_true c2, cond_true] at hr
        refine Good.now S hr hs ?_
        simp only [VR]
        exact ⟨_, rfl, by split <;> omega, by split <;> omega, mod_one _⟩
      · rw [decide_eq_false c2, cond_false] at hr
        refine Good.now S hr hs ?_
        simp only [VR]
        exact ⟨_, rfl, by split <;> omega, by split <;> omega, mod_one _⟩
  · simp [run_fail] at hr
end
end Go.Ev
