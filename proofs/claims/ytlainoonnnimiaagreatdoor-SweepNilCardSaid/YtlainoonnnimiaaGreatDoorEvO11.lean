/- THE ABSTRACT MACHINE AND THE MODEL: append, whole. Own work. -/
import Derived.Test.YtlainoonnnimiaaGreatDoorEvO10
set_option linter.all false
set_option linter.unusedVariables false
set_option linter.constructorNameAsVariable false
set_option linter.unnecessarySimpa false
set_option linter.unusedSimpArgs false
set_option linter.unusedSimpArgs false
set_option linter.unusedVariables false
namespace Go.Ev

section
variable {P : Program} {T : Tr TI} {ι : Ren} {h : Tr Blk} {c r W : Nat} {w : World} {out : Out} {K : V → M}

/-- A new name for what an old one meant, that is dead now. -/
theorem Way.alias {x : Blk} {L : Loc} {b₀ : Nat} {L₀ : Loc} (S : Sim ι h w) (hc : h.get c = none) (hi : ι c = none) (h0 : ι b₀ = some L₀) (hk : L₀.blk = L.blk) (hw : W.testBit b₀ = true) (hlt : L.blk < w.heap.size)
    (hd : ∀ b y M, h.get b = some y → ι b = some M → M.blk = L.blk → ¬ live y) (hr : BR (ι.put c L) w L x) : Way ι h c W w (ι.put c L) (h.set x c) (c + 1) W w where
  sim := by
    refine ⟨fun b' y hy => ?_, fun b₁ b₂ x₁ x₂ L₁ h1 h2 l1 l2 e1 e2 => ?_⟩
    · rw [Tr.get_set] at hy
      by_cases e : b' = c
      · rw [if_pos e] at hy
        cases hy
        subst e
        exact ⟨L, Ren.put_same _ _ _, hlt, hr⟩
      · rw [if_neg e] at hy
        obtain ⟨L', hL', hlt', hbr⟩ := S.blk _ _ hy
        exact ⟨L', by simp [Ren.put, e, hL'], hlt', hbr.le (Ren.put_le hi)⟩
    · have old : ∀ b y M, b ≠ c → (h.set x c).get b = some y → ι.put c L b = some M → h.get b = some y ∧ ι b = some M := by
        intro b y M hne hy hM
        rw [Tr.get_set, if_neg hne] at hy
        simp only [Ren.put, if_neg hne] at hM
        exact ⟨hy, hM⟩
      obtain ⟨L₂, e2, e3⟩ := e2
      by_cases i1 : b₁ = c <;> by_cases i2 : b₂ = c
      · rw [i1, i2]
      · obtain ⟨g1, g2⟩ := old _ _ _ i2 h2 e2
        subst i1
        rw [Ren.put_same] at e1; cases e1
        exact absurd l2 (hd _ _ _ g1 g2 e3)
      · obtain ⟨g1, g2⟩ := old _ _ _ i1 h1 e1
        subst i2
        rw [Ren.put_same] at e2; cases e2
        exact absurd l1 (hd _ _ _ g1 g2 e3.symm)
      · obtain ⟨a1, a2⟩ := old _ _ _ i1 h1 e1
        obtain ⟨c1, c2⟩ := old _ _ _ i2 h2 e2
        exact S.inj _ _ _ _ _ a1 c1 l1 l2 a2 ⟨L₂, c2, e3⟩
  le := Ren.put_le hi
  cle := by omega
  new b e n := by
    simp only [Ren.put] at n
    split at n
    · omega
    · exact absurd e n
  hnew b' hb' e := by rw [Tr.get_set, if_neg (by omega)]; exact e
  os := rfl
  tape := rfl
  output := rfl
  size := Nat.le_refl _
  newblk b M e f := by
    simp only [Ren.put] at f
    split at f
    · cases f; exact .inr ⟨b₀, L₀, h0, hk, hw⟩
    · rw [e] at f; cases f
  keep k _ := .inl rfl
  mono _ e := e

theorem Cells.later {s : Sem (Array Value)} {l : List V} {k : Nat} (h : Cells P s w ι l k) {w₁ : World} (hw : w₁.heap = w.heap) : Cells P s w₁ ι l k := by
  obtain ⟨vs, h1, h2⟩ := h
  exact ⟨vs, fun w₂ e => h1 w₂ (e.trans hw), h2⟩

/-- A new row behind an append. -/
theorem app_new (hT : TyOk P T) (S : Sim ι h w) (F : Fresh ι h c out) {elem sz eb : Nat} {ei : TI} {inf : TypeInfo} (hei : T.get elem = some ei) (hinf : P.info? elem = some inf) (hsz : inf.size = sz) (heb : inf.bytes = eb)
    (hb : eb ≤ 65536) (hb1 : 1 ≤ eb) {zeros : Bool} {base : Option Addr} {sLen sCap n : Nat} {s x : Value} {appended : Sem (Array Value)} {lo ln : List V} (hcap : sCap < sLen + n) (hl : sLen + n ≤ 1073741824)
    (hold : Cells P (Builtin.firstCells sz sLen s) w ι lo (sLen * sz)) (hnew : Cells P appended w ι ln (n * sz))
    (hr : run (K (.sl c 0 (sLen + n) none)) (h.set (.cells elem ((sLen + n) * sz) sz false ei.zero (Tr.lay (lo ++ ln) 0 .l)) c) (c + 1) r W = some out) :
    Good P (appRest elem sz eb zeros base sLen sCap n s x appended) ι h c W w out K := by
  obtain ⟨d', hd'⟩ := hT.at hei
  have hes : ei.size = sz := by
    obtain ⟨i, _, q1, q2, _⟩ := hd'.rest
    rw [hinf] at q1; cases q1
    rw [← q2, hsz]
  obtain ⟨z, z1, z2, z3, z4⟩ := zero_cells hd' ι w
  have hz : ∀ w₁ : World, (zeroValue elem).run P w₁ = .ok z w₁ := fun w₁ => by
    obtain ⟨i, z', q1, q2, q3, _⟩ := hd'.rest
    have h1 : (zeroValue elem).run P w = .ok z' w := by simp [zeroValue, typeInfo, q1, q3]
    rw [z1] at h1
    injection h1 with h1
    subst h1
    simp [zeroValue, typeInfo, q1, q3]
  obtain ⟨vo, o1, o2, o3, o4⟩ := hold
  obtain ⟨vn, n1, n2, n3, n4⟩ := hnew
  obtain ⟨cap, tl, hc1, hc2, hc3⟩ := appRest_new (P := P) (w := w) (elem := elem) (bytes := eb) (zeros := zeros) (base := base) (s := s) (x := x) hcap hb hb1 hl o1 n1 hz (by rw [z4, hes])
  refine Good.drawn (w₁ := w.drew) S rfl rfl rfl rfl hc3 ?_
  have hlen : (lo ++ ln).length = (sLen + n) * sz := by
    have := o2.length; have := n2.length
    rw [List.length_append, Nat.add_mul]; omega
  have hcl : (vo ++ vn ++ tl).length = cap * sz := by
    rw [List.length_append, List.length_append, o4, n4, hc2, ← Nat.add_mul, ← Nat.add_mul]
    congr 1
    omega
  have F' : Fresh ι h c out := F
  refine Good.grow (w := w.drew) (cells := (sLen + n) * sz) (cap := cap) (S.world rfl) F' (VRL.append o2 n2) (fun v hv => ?_) hlen hcl hc1 hr (fun a w' e => ?_)
  · rcases List.mem_append.1 hv with hv | hv
    · exact o3 v hv
    · exact n3 v hv
  · simp only [Sem.run_bind, e, Result.andThen_ok, Sem.run_pure]

theorem appendC_ok (hT : TyOk P T) (S : Sim ι h w) (F : Fresh ι h c out) {elem sz eb : Nat} {ei : TI} {inf : TypeInfo} (hei : T.get elem = some ei) (hinf : P.info? elem = some inf) (hsz : inf.size = sz) (heb : inf.bytes = eb)
    (hb : eb ≤ 65536) (hb1 : 1 ≤ eb) (hs0 : 0 < sz) {zeros : Bool} {n : Nat} {s : V} {s' x' : Value} {base : Option Addr} {sLen sCap : Nat} (hs : VR ι s s') (hse : s' = .slice base sLen sCap) (hl : sLen + n ≤ 1073741824)
    {appended : Sem (Array Value)} {ln : List V} (hnew : Cells P appended w ι ln (n * sz))
    (hr : run (appendC elem sz ei.zero s n ln K) h c r W = some out) : Good P (appRest elem sz eb zeros base sLen sCap n s' x' appended) ι h c W w out K := by
  have hn' := hnew
  obtain ⟨vn, n1, n2, n3, n4⟩ := hnew
  unfold appendC at hr
  split at hr
  · -- onto nil
    simp only [VR] at hs
    rw [hse] at hs
    cases hs
    cases h0 : Nat.beq n 0 with
    | true =>
      rw [h0, cond_true] at hr
      rw [nbeq_iff, decide_eq_true_eq] at h0
      subst h0
      refine Good.now S hr (v' := .slice none 0 0) ?_ (by simp [VR])
      unfold appRest
      rw [if_pos (by omega)]
      simp only [Sem.run_bind, n1 w rfl, Result.andThen_ok, Sem.run_pure]
    | false =>
      rw [h0, cond_false] at hr
      rw [nbeq_iff, decide_eq_false_iff_not] at h0
      refine app_new (r := r) hT S F hei hinf hsz heb hb hb1 (lo := []) (ln := ln) (by omega) hl ?_ hn' ?_
      · rw [hse]
        exact ⟨[], fun w₁ _ => rfl, by simp [VRL], by simp, by simp⟩
      · rw [Nat.zero_add]
        exact run_al_some hr
  · -- onto a slice
    rename_i b o len cap
    simp only [VR] at hs
    have hs' := hs
    obtain ⟨L, cp, hL, hcp, hv⟩ := hs
    have hv' : s' = .slice base sLen sCap := hse
    have hlen : sLen = len ∧ sCap = cp ∨ (len = 0 ∧ sLen = 0 ∧ sCap = 0 ∧ ∃ q, base = some ⟨L.blk, q, none⟩ ∧ cap = none) := by
      rw [hse] at hv
      cases cap with
      | some cc => simp only at hv; obtain ⟨_, hv⟩ := hv; cases hv; exact .inl ⟨rfl, rfl⟩
      | none => simp only at hv; rcases hv with ⟨hv, _⟩ | ⟨hz, q, hv⟩ <;> cases hv; exact .inl ⟨rfl, rfl⟩; exact .inr ⟨hz, rfl, rfl, q, rfl, rfl⟩
    have hll : sLen = len := by rcases hlen with ⟨h, _⟩ | ⟨h, h', _⟩ <;> omega
    subst hll
    cases h0 : Nat.beq n 0 with
    | true =>
      rw [h0, cond_true] at hr
      rw [nbeq_iff, decide_eq_true_eq] at h0
      subst h0
      have hvn : vn = [] := by simpa using n4
      subst hvn
      refine Good.now S hr (v' := s') ?_ (by simp only [VR]; exact hs')
      have hle : sLen + 0 ≤ sCap := by rcases hlen with ⟨_, h⟩ | ⟨_, h, h', _⟩ <;> omega
      unfold appRest
      rw [if_pos hle]
      simp only [Sem.run_bind, n1 w rfl, Result.andThen_ok]
      rw [hse]
      cases base <;> simp [storeCells]
    | false =>
      rw [h0, cond_false] at hr
      rw [nbeq_iff, decide_eq_false_iff_not] at h0
      obtain ⟨q, hq, hr⟩ := run_rd_some hr
      split at hr
      · rename_i e' m sz' ex z' cc
        obtain ⟨hez, hr1⟩ := run_bif hr
        clear hr
        rw [Bool.and_eq_true, nbeq_iff, nbeq_iff, decide_eq_true_eq, decide_eq_true_eq] at hez
        obtain ⟨rfl, rfl⟩ := hez
        obtain ⟨hB, hblt⟩ := S.at hq hL
        have hLs : L.sz = sz := by obtain ⟨_, _, _, _, _, g, _⟩ := hB; exact g
        have hmL : m ≤ L.len := by obtain ⟨_, _, _, _, g, _⟩ := hB; exact g
        -- what was there
        have hold : ∀ k, o + k * sz ≤ m → ∀ v' cp', Cells P (Builtin.firstCells sz k (.slice (some ⟨L.blk, L.off + o, none⟩) v' cp')) w ι (cellsFrom z' cc (k * sz) o) (k * sz) := by
          intro k hk v' cp'
          obtain ⟨l, r', e1, e2⟩ := firstC_ok (P := P) (K := fun l => .ret (.ag l)) (h := h) (c := c) (r := r) (W := W) (out := ⟨.ag (if k = 0 then [] else cellsFrom z' cc (k * sz) o), h, c, if k = 0 then r else bit r b, W⟩) S (sz := sz) (n := k) (m := k)
            (x := .sl b o k (some k)) (x' := .slice (some ⟨L.blk, L.off + o, none⟩) k k) (by simp only [VR]; exact ⟨L, k, hL, Nat.le_refl _, rfl, rfl⟩) rfl (Nat.le_refl _) (by
              unfold firstC
              by_cases hk0 : k = 0
              · subst hk0; rfl
              · have e0 : Nat.beq k 0 = false := by rw [nbeq_iff]; exact decide_eq_false hk0
                have e1 : Nat.ble (o + k * sz) m = true := by rw [ble_iff]; exact decide_eq_true hk
                rw [e0, if_neg hk0, if_neg hk0]
                simp only [cond_false, run_rd, hq, e1, cond_true]
                rfl)
          have hl' : l = cellsFrom z' cc (k * sz) o := by
            rw [run_ret] at e1
            injection e1 with e1
            injection e1 with e1
            injection e1 with e1
            rw [e1]
            by_cases hk0 : k = 0
            · subst hk0; simp; rfl
            · rw [if_neg hk0]
          rw [← hl']
          exact e2
        have hput := fun (hle : o + sLen * sz + ln.length ≤ L.len) => run_put (P := P) hB (o := o + sLen * sz) n2 n3 hle
        have hnl : ln.length = n * sz := by have := n2.length; omega
        have hmul : (sLen + n) * sz = sLen * sz + n * sz := Nat.add_mul _ _ _
        have inPlace : ∀ (hb0 : base = some ⟨L.blk, L.off + o, none⟩) (hle : sLen + n ≤ sCap) (w' : World), (storeCells ⟨L.blk, L.off + (o + sLen * sz), none⟩ vn).run P w = .ok () w' →
            (appRest elem sz eb zeros base sLen sCap n s' x' appended).run P w = .ok (.slice (some ⟨L.blk, L.off + o, none⟩) (sLen + n) sCap) w' := by
          intro hb0 hle w' e
          unfold appRest
          rw [if_pos hle]
          simp only [Sem.run_bind, n1 w rfl, Result.andThen_ok, hb0, addr_add]
          rw [Nat.add_assoc] at *
          simp only [e, Result.andThen_ok, Sem.run_pure]
        cases cap with
        | some cc' =>
          have hcc : sLen = sLen ∧ sCap = cp ∧ cp = cc' ∧ base = some ⟨L.blk, L.off + o, none⟩ := by
            simp only at hv
            obtain ⟨g1, g2⟩ := hv
            rw [hse] at g2
            cases g2
            exact ⟨rfl, rfl, g1, rfl⟩
          obtain ⟨_, hsc, hcc', hbase⟩ := hcc
          simp only at hr1
          cases hle : Nat.ble (sLen + n) cc' with
          | true =>
            rw [hle, cond_true] at hr1
            rw [ble_iff, decide_eq_true_eq] at hle
            obtain ⟨hin, hr2⟩ := run_bif hr1
            rw [ble_iff, decide_eq_true_eq] at hin
            obtain ⟨w', e1, e2, e3, e4, e5, e6, e7, _, _⟩ := hput (by omega)
            refine ⟨_, _, ι, _, _, _, _, w', run_wr_some hr2, inPlace hbase (by omega) w' e1, ?_, Way.write S hq trivial hL e2 e3 e4 e5 e6 (e7 (by omega))⟩
            simp only [VR]
            exact ⟨L, sCap, hL, by omega, by omega, rfl⟩
          | false =>
            rw [hle, cond_false] at hr1
            rw [ble_iff, decide_eq_false_iff_not] at hle
            obtain ⟨hin, hr2⟩ := run_bif hr1
            rw [ble_iff, decide_eq_true_eq] at hin
            refine app_new hT S F hei hinf hsz heb hb hb1 (lo := cellsFrom z' cc (sLen * sz) o) (ln := ln) (by omega) hl ?_ hn' (run_al_some hr2)
            rw [hse, hbase]
            exact hold sLen hin _ _
        | none =>
          simp only at hr1 hv
          cases hle : Nat.ble (o + (sLen + n) * sz) m with
          | true =>
            rw [hle, cond_true] at hr1
            rw [ble_iff, decide_eq_true_eq] at hle
            obtain ⟨hpos, hr2⟩ := run_bif' hr1
            rw [nbeq_iff, decide_eq_false_iff_not] at hpos
            rcases hv with ⟨hv, hcap⟩ | ⟨hz, _⟩
            · rw [hse] at hv
              cases hv
              have hlec : sLen + n ≤ sCap := by
                rw [hLs] at hcap
                have : (sLen + n) * sz ≤ sCap * sz := by omega
                exact Nat.le_of_mul_le_mul_right this hs0
              obtain ⟨w', e1, e2, e3, e4, e5, e6, e7, _, _⟩ := hput (by omega)
              refine ⟨_, _, ι, _, _, _, _, w', run_wr_some hr2, inPlace rfl hlec w' e1, ?_, Way.write S hq trivial hL e2 e3 e4 e5 e6 (e7 (by omega))⟩
              simp only [VR]
              exact ⟨L, sCap, hL, hlec, .inl ⟨rfl, hcap⟩⟩
            · omega
          | false =>
            rw [hle, cond_false] at hr1
            rw [ble_iff, decide_eq_false_iff_not] at hle
            obtain ⟨hin, hr2⟩ := run_bif hr1
            rw [ble_iff, decide_eq_true_eq] at hin
            have hr3 := run_al_some (run_wr_some hr2)
            have hc : c < out.c := by have := run_c_le _ hr3; omega
            obtain ⟨f1, f2⟩ := F c (Nat.le_refl _) hc
            have hcb : c ≠ b := by intro e; rw [e, hq] at f2; cases f2
            by_cases hlec : sLen + n ≤ sCap
            · -- there is room
              rcases hv with ⟨hv, hcap⟩ | ⟨hz, q, hv⟩
              · rw [hse] at hv
                cases hv
                have hroom : o + (sLen + n) * sz ≤ L.len := by
                  rw [hLs] at hcap
                  have : (sLen + n) * sz ≤ sCap * sz := Nat.mul_le_mul_right _ hlec
                  omega
                obtain ⟨w', e1, e2, e3, e4, e5, e6, _, _, e9⟩ := hput (by omega)
                have way1 := Way.write (c := c) (W := W) (x' := .dead) S hq trivial hL e2 e3 e4 e5 e6 trivial
                have hB' := e9 ei.zero o (by omega) (by omega)
                have hlenlo : o + sLen * sz - o + ln.length = (sLen + n) * sz := by omega
                have hsub : o + sLen * sz - o = sLen * sz := by omega
                rw [hlenlo, hsub] at hB'
                have way2 := Way.alias (W := bit W b) (x := .cells elem ((sLen + n) * sz) sz false ei.zero (Tr.lay (cellsFrom z' cc (sLen * sz) o ++ ln) 0 .l)) (L := ⟨L.blk, L.off + o, L.len - o, L.sz⟩) (b₀ := b) (L₀ := L) way1.sim
                  (by rw [Tr.get_set, if_neg hcb]; exact f2) f1 hL rfl (by rw [bit_test]; simp) (by simp only; omega) (by
                    intro b' y M hy hM hk hlv
                    rw [Tr.get_set] at hy
                    by_cases hbb : b' = b
                    · rw [if_pos hbb] at hy; cases hy; exact hlv
                    · rw [if_neg hbb] at hy
                      exact hbb (S.inj _ _ _ _ M hy hq hlv trivial hM ⟨L, hL, hk.symm⟩)) (hB'.le (Ren.put_le f1))
                refine ⟨_, _, _, _, _, _, _, w', hr3, inPlace rfl hlec w' e1, ?_, way1.trans way2⟩
                simp only [VR]
                refine ⟨_, sCap, Ren.put_same _ _ _, hlec, .inl ⟨rfl, ?_⟩⟩
                simp only
                omega
              · rw [hse] at hv; cases hv; exact absurd (Nat.le_zero.1 (by simpa using hlec)) h0
            · -- there is none
              have way1 := Way.write (c := c) (W := W) (x' := .dead) (w' := w) S hq trivial hL (fun _ _ => rfl) rfl rfl rfl rfl trivial
              have F1 : Fresh ι (h.set .dead b) c out := F.way way1
              have hg := app_new (K := K) (zeros := zeros) (base := base) (s := s') (x := x') (sCap := sCap) hT way1.sim F1 hei hinf hsz heb hb hb1 (lo := cellsFrom z' cc (sLen * sz) o) (ln := ln) (by omega) hl (by
                rcases hlen with ⟨_, _⟩ | ⟨hz, _, _, q, hbq, _⟩
                · rw [hse] at hv ⊢
                  rcases hv with ⟨hv, _⟩ | ⟨hz, q, hv⟩
                  · cases hv
                    exact hold sLen hin _ _
                  · cases hv
                    refine ⟨[], fun w₁ _ => ?_, by simp [VRL, cellsFrom_zero], by simp, by simp⟩
                    simp [Builtin.firstCells, loadCells, loadCellsFrom]
                · subst hz
                  rw [hse, hbq]
                  refine ⟨[], fun w₁ _ => ?_, by simp [VRL, cellsFrom_zero], by simp, by simp⟩
                  simp [Builtin.firstCells, loadCells, loadCellsFrom]) hn' hr3
              obtain ⟨v, v', ι', h', c', r', W', w', g1, g2, g3, g4⟩ := hg
              exact ⟨v, v', ι', h', c', r', W', w', g1, g2, g3, way1.trans g4⟩
      · simp [run_fail] at hr
  · simp [run_fail] at hr
end
end Go.Ev
