/- THE ABSTRACT MACHINE AND THE MODEL: operations and regions in a frame. Own work. -/
import Derived.Test.YtlainoonnnimiaaGreatDoorEvG4
set_option linter.all false
set_option linter.unusedVariables false
set_option linter.constructorNameAsVariable false
set_option linter.unnecessarySimpa false
set_option linter.unusedSimpArgs false
set_option linter.unusedSimpArgs false
set_option linter.unusedVariables false
set_option linter.constructorNameAsVariable false
namespace Go.Ev

section
variable {P : Program} {T : Tab} {ih : Go} {ι ι2 : Ren} {h h2 : Tr Blk} {c c2 r r2 W W2 : Nat} {w w2 : World} {out : Out} {m : Machine} {f f2 : AF} {cs : List AF} {fr : Frame} {crs base : List Frame} {K : V → M}

theorem st_answer {ops : Array Oper} {i : Nat} {is : List Nat} {k : List Item} {o : Oper} {v' : Value} {w' : World} (hm : fr.mode = .run) (ht : fr.todo = .inRegion ops (i :: is) :: k) (ho : ops[i]? = some o)
    (hw : Region.wanted o (yielded ops fr.tmps) = true) (hd : ∀ c, o.op ≠ .defer c) (ha : Answers P (fr :: crs) (execOp fr.eval o) w v' w') : Steps P (lone fr crs w) (lone (fr.finish v') crs w') := by
  have hk : ∀ a b c k', fr.todo ≠ .call a true b c :: k' := by intro a b c k'; rw [ht]; simp
  have hst := stG_op (P := P) (cs := crs) (w := w) hm ht ho hw hd
  rcases ha with ⟨n, e, hn⟩ | ⟨g, args, e, hb⟩
  · rcases hn with rfl | ⟨rfl, rfl⟩
    · exact .one (st_apply hk (by rw [hst]) e (.value v' w'))
    · exact .one (st_apply hk (by rw [hst]) e (.skip w'))
  · obtain ⟨fr₁, h1, h2⟩ := hb
    exact .head (st_apply hk (by rw [hst]) e (.enter g args w)) (h1.trans (.one (step_leave_returned h2)))

theorem st_enters {ops : Array Oper} {i : Nat} {is : List Nat} {k : List Item} {o : Oper} {frE : Frame} (hm : fr.mode = .run) (ht : fr.todo = .inRegion ops (i :: is) :: k) (ho : ops[i]? = some o)
    (hw : Region.wanted o (yielded ops fr.tmps) = true) (hd : ∀ c, o.op ≠ .defer c) (ha : Enters P (execOp fr.eval o) w frE) : Steps P (lone fr crs w) (lone frE (fr :: crs) w) := by
  have hk : ∀ a b c k', fr.todo ≠ .call a true b c :: k' := by intro a b c k'; rw [ht]; simp
  have hst := stG_op (P := P) (cs := crs) (w := w) hm ht ho hw hd
  obtain ⟨n, e, hn⟩ := ha
  rcases hn with ⟨g, args, rfl, rfl⟩ | ⟨l, g, tmps, a, b, rfl, rfl⟩
  · exact .one (st_apply hk (by rw [hst]) e (.enter g args w))
  · exact .one (st_apply hk (by rw [hst]) e (.round l g tmps a b w))

theorem GoodN.answers {B : List Frame} {s : Sem Next} (g : GoodN P s ι h c W w out K) : ∃ v v' ι' h' c' r' W' w', run (K v) h' c' r' W' = some out ∧ VR ι' v v' ∧ Way ι h c W w ι' h' c' W' w' ∧ Answers P B s w v' w' := by
  obtain ⟨n, v, v', ι', h', c', r', W', w', g1, g2, g3, g4, g5⟩ := g
  exact ⟨v, v', ι', h', c', r', W', w', g1, g4, g5, .inl ⟨n, g2, g3⟩⟩

/-- An operation that is wanted: what it comes to. -/
theorem op_any {B : List Frame} (O : Ok P T) (H : GoOk P T ih) {ρ : Operand → V} {ρ' : Operand → Value} (hρ : ∀ o, VR ι (ρ o) (ρ' o)) {o : Oper} (S : Sim ι h w) (G : Glob T.ng ι) (F : Fresh ι h c out)
    (hr : run (match o.op with | .call c => callC T ih ρ c cs K | .defer _ => .fail | op => aop T.ty ρ op K) h c r W = some out) : (∀ c, o.op ≠ .defer c) ∧ CallR P B ih (execOp ρ' o) ι h c W w out cs K := by
  split at hr
  · rename_i cl hop
    refine ⟨fun c e => (by rw [hop] at e; cases e), ?_⟩
    refine CallR.of_run ?_ (callC_ok (ty := o.type) O hρ hr S G F)
    simp only [execOp, hop]
  · simp [run_fail] at hr
  · rename_i h1 h2
    refine ⟨fun c e => h2 c e, .inl ?_⟩
    exact (aop_ok O.ty S F hρ hr).answers

theorem opstep_ok (O : Ok P T) (H : GoOk P T ih) {ops : Array Oper} {nt : Nat} {k : List Item} (hm : fr.mode = .run) : OpStep P T ih ops nt fr k crs := by
  intro i o rest tmps tm ι h c w out ho hr S G F htm hsz
  have ht : (atReg fr tmps ops (i :: rest) k).todo = .inRegion ops (i :: rest) :: k := rfl
  have hm' : (atReg fr tmps ops (i :: rest) k).mode = .run := hm
  unfold opM at hr
  split at hr
  · simp [run_fail] at hr
  · rename_i hw
    have hw' := want_ok hw htm
    rw [run_ret] at hr
    cases hr
    exact ⟨undef, ι, w, .one (st_unwanted hm' ht ho hw'), VR_tu0, Way.refl S⟩
  · rename_i hw
    have hw' := want_ok hw htm
    have hρ : ∀ x, VR ι (ev T.ng tm x) ((atReg fr tmps ops (i :: rest) k).eval x) := eval_ok (fr := atReg fr tmps ops (i :: rest) k) G htm
    obtain ⟨hd, hc⟩ := op_any (B := atReg fr tmps ops (i :: rest) k :: crs) (ρ' := (atReg fr tmps ops (i :: rest) k).eval) (o := o) (cs := []) (K := .ret) O H hρ S G F hr
    rcases hc with ⟨v, v', ι', h', c', r', W', w', g1, g2, g3, g4⟩ | ⟨f2, frE, r', g1, g2, g3⟩
    · rw [run_ret] at g1
      cases g1
      exact ⟨v', ι', w', st_answer hm' ht ho hw' hd g4, g2, g3⟩
    · obtain ⟨v', ι', w', d, hv, q⟩ := H f2 [] frE [] (atReg fr tmps ops (i :: rest) k :: crs) ι h c r' 0 w out g1 S G F g2 trivial
      exact ⟨v', ι', w', (st_enters hm' ht ho hw' hd g3).trans d.back, hv, q⟩

theorem stepO_ok (O : Ok P T) (H : GoOk P T ih) {ops : List Oper} {o : Oper} {rest : List Oper} {k : List It} (htd : f.td = .reg ops (o :: rest) :: k) (hr : run (stepO T ih f cs ops o rest k) h c r W = some out) (S : Sim ι h w)
    (G : Glob T.ng ι) (F : Fresh ι h c out) (hf : FR ι f fr) (hc : CsR ι cs crs) : Concl P T ι h c W w out (lone fr (crs ++ base) w) f cs base := by
  have ht := hf.td
  rw [htd] at ht
  obtain ⟨ops', is, k', hto, e1, e2, ht'⟩ := ht.reg_inv
  obtain ⟨i, is', rfl, ho, e3⟩ := reg_front e2
  subst e1
  unfold stepO at hr
  split at hr
  · simp [run_fail] at hr
  · rename_i hw
    have hw' := want_ok hw hf.tm
    obtain ⟨f2, g1, g2, g3, g4⟩ := put_ok (v' := undef) (todo := .inRegion ops' is' :: k') hr hf VR_tu0 (by simp only [TdR]; exact ⟨⟨trivial, e3⟩, ht'⟩)
    have := st_unwanted (P := P) (cs := crs ++ base) (w := w) hf.mode hto ho hw'
    rw [finish_op hto ho] at this
    exact H.use (Way.refl S) F G (.one this) g1 g2 hc (lastF_same g3 g4 cs)
  · rename_i hw
    have hw' := want_ok hw hf.tm
    have hρ : ∀ x, VR ι (ev T.ng f.tm x) (fr.eval x) := eval_ok G hf.tm
    obtain ⟨hd, hcr⟩ := op_any (B := fr :: (crs ++ base)) (ρ' := fr.eval) (o := o) (cs := f :: cs) (K := fun v => f.put o.dst v (.reg ops'.toList rest :: k) fun f => ih f cs) O H hρ S G F hr
    rcases hcr with ⟨v, v', ι', h', c', r', W', w', g1, g2, g3, g4⟩ | ⟨f2, frE, r', g1, g2, g3⟩
    · obtain ⟨f2, k1, k2, k3, k4⟩ := put_ok (todo := .inRegion ops' is' :: k') g1 (hf.le g3.le) g2 (by simp only [TdR]; exact ⟨⟨trivial, e3⟩, TdR.le g3.le _ _ ht'⟩)
      have := st_answer (P := P) (crs := crs ++ base) hf.mode hto ho hw' hd g4
      rw [finish_op hto ho] at this
      exact H.use g3 F G this k1 k2 (CsR.le g3.le _ _ hc) (lastF_same k3 k4 cs)
    · have := st_enters (P := P) (crs := crs ++ base) hf.mode hto ho hw' hd g3
      exact H.use (crs2 := fr :: crs) (Way.refl S) F G this g1 g2 (by simp only [CsR]; exact ⟨hf, hc⟩) ⟨rfl, rfl⟩

theorem drawn_cons (T : Tab) (ih : Go) (nt : Nat) (ops : List Oper) (K : Tr V → M) (o : Oper) (rest : List Oper) (tm : Tr V) (ms : List (Nat × Nat)) :
    drawn T ih nt ops K (o :: rest) tm ms = .sub (opM T ih ops tm o) fun v a b => match o.dst with
      | some d => bif Nat.blt d nt then drawn T ih nt ops K rest (tm.set v d) (ms ++ [(a, b)]) else .fail
      | none => drawn T ih nt ops K rest tm (ms ++ [(a, b)]) := rfl
theorem drawn_nil (T : Tab) (ih : Go) (nt : Nat) (ops : List Oper) (K : Tr V → M) (tm : Tr V) (ms : List (Nat × Nat)) : drawn T ih nt ops K [] tm ms = bif okMasks ops ms then K tm else .fail := rfl

/-- What was run, one by one. -/
theorem drawn_some {nt : Nat} {ops : List Oper} {K : Tr V → M} : ∀ (rest : List Oper) (tm : Tr V) (ms : List (Nat × Nat)) (h : Tr Blk) (c r W : Nat), run (drawn T ih nt ops K rest tm ms) h c r W = some out →
    ∃ (tmS : Nat → Tr V) (hS : Nat → Tr Blk) (cS : Nat → Nat) (oS : Nat → Out) (rn Wn : Nat), tmS 0 = tm ∧ hS 0 = h ∧ cS 0 = c ∧
      (∀ (j : Nat) (o : Oper), rest[j]? = some o → run (opM T ih ops (tmS j) o) (hS j) (cS j) 0 0 = some (oS j) ∧ hS (j + 1) = (oS j).h ∧ cS (j + 1) = (oS j).c ∧ tmS (j + 1) = putT o.dst (oS j).v (tmS j) ∧
        (∀ d, o.dst = some d → d < nt) ∧ ∀ b, (oS j).w.testBit b = true → Wn.testBit b = true) ∧
      (∀ b, W.testBit b = true → Wn.testBit b = true) ∧ okMasks ops (ms ++ (List.range rest.length).map fun j => ((oS j).r, (oS j).w ||| span (cS j) (oS j).c)) = true ∧
      run (K (tmS rest.length)) (hS rest.length) (cS rest.length) rn Wn = some out
  | [], tm, ms, h, c, r, W, hr => by
    rw [drawn_nil] at hr
    obtain ⟨h1, h2⟩ := run_bif hr
    exact ⟨fun _ => tm, fun _ => h, fun _ => c, fun _ => out, r, W, rfl, rfl, rfl, fun j o hj => by simp at hj, fun b hb => hb, by simpa using h1, h2⟩
  | o :: rest, tm, ms, h, c, r, W, hr => by
    rw [drawn_cons, run_sub] at hr
    split at hr
    · rename_i o1 ho1
      have hgo : ∃ tm', tm' = putT o.dst o1.v tm ∧ (∀ d, o.dst = some d → d < nt) ∧ run (drawn T ih nt ops K rest tm' (ms ++ [(o1.r, o1.w ||| span c o1.c)])) o1.h o1.c (r ||| o1.r) (W ||| o1.w) = some out := by
        cases hd : o.dst with
        | none => rw [hd] at hr; exact ⟨tm, rfl, fun d e => (by cases e), hr⟩
        | some d =>
          rw [hd] at hr
          obtain ⟨h1, h2⟩ := run_bif hr
          rw [nblt_iff, decide_eq_true_eq] at h1
          exact ⟨_, rfl, fun d' e => (by cases e; exact h1), h2⟩
      obtain ⟨tm', e1, e2, hr'⟩ := hgo
      obtain ⟨tmS, hS, cS, oS, rn, Wn, q1, q2, q3, q4, q5, q6, q7⟩ := drawn_some rest tm' _ _ _ _ _ hr'
      refine ⟨fun j => match j with | 0 => tm | j + 1 => tmS j, fun j => match j with | 0 => h | j + 1 => hS j, fun j => match j with | 0 => c | j + 1 => cS j, fun j => match j with | 0 => o1 | j + 1 => oS j, rn, Wn, rfl, rfl, rfl, fun j o' hj => ?_, fun b hb => q5 b (by rw [Nat.testBit_or, hb]; rfl), ?_, q7⟩
      · cases j with
        | zero =>
          simp only [List.getElem?_cons_zero, Option.some.injEq] at hj
          subst hj
          exact ⟨ho1, q2, q3, q1.trans e1, e2, fun b hb => q5 b (by rw [Nat.testBit_or, hb]; simp)⟩
        | succ j => exact q4 j o' (by simpa using hj)
      · rw [List.length_cons, List.range_succ_eq_map, List.map_cons, List.map_map]
        have : (ms ++ (o1.r, o1.w ||| span c o1.c) :: (List.range rest.length).map ((fun j => (((match j with | 0 => o1 | j + 1 => oS j) : Out).r, ((match j with | 0 => o1 | j + 1 => oS j) : Out).w ||| span (match j with | 0 => c | j + 1 => cS j) ((match j with | 0 => o1 | j + 1 => oS j) : Out).c)) ∘ Nat.succ)) =
            ms ++ [(o1.r, o1.w ||| span c o1.c)] ++ (List.range rest.length).map fun j => ((oS j).r, (oS j).w ||| span (cS j) (oS j).c) := by
          rw [List.append_assoc, List.singleton_append]
          rfl
        exact this ▸ q6
    · cases hr

theorem region_ok (O : Ok P T) (H : GoOk P T ih) {ops : Array Oper} {k : List It} {k' : List Item} {id : Nat} (hto : fr.todo = .code (.region id ops true) :: k') (hreg : regOk ops.toList = true) (ht : TdR ι k k')
    (hr : run (drawn T ih f.nt ops.toList (fun tm => ih ⟨f.fn, f.nt, tm, k, f.df, f.rd⟩ cs) ops.toList f.tm []) h c r W = some out) (S : Sim ι h w) (G : Glob T.ng ι) (F : Fresh ι h c out) (hf : FR ι f fr) (hc : CsR ι cs crs) :
    Concl P T ι h c W w out (lone fr (crs ++ base) w) f cs base := by
  obtain ⟨tmS, hS, cS, oS, rn, Wn, q1, q2, q3, q4, q5, q6, q7⟩ := drawn_some ops.toList f.tm [] h c r W hr
  have hlen : ops.toList.length = ops.size := by simp
  have hat : ∀ j, j < ops.toList.length → ops.toList[j]? = some (ops.toList[j]!) := by
    intro j hj
    rw [List.getElem?_eq_getElem hj, getElem!_pos ops.toList j hj]
  let X : Text T ih ops.toList f.nt :=
    { tmS := tmS, hS := hS, cS := cS, oS := oS, run_ := fun j o ho => (q4 j o ho).1, h_ := fun j hj => (q4 j _ (hat j hj)).2.1, c_ := fun j hj => (q4 j _ (hat j hj)).2.2.1
      t_ := fun j o ho => (q4 j o ho).2.2.2.1, d_ := fun j o ho => (q4 j o ho).2.2.2.2.1, m_ := by simpa using q6 }
  have hout : X.cS ops.size ≤ out.c := by
    have := run_c_le _ q7
    rw [hlen] at this
    exact this
  have hn : ∀ i, (Array.replicate ops.size false).getD i true = true → ¬ i < ops.size := by
    intro i hi hlt
    simp [Array.getD_eq_getD_getElem?, hlt] at hi
  have I : Inv X (Array.replicate ops.size false) ι h w.drew fr.tmps := by
    refine ⟨by simp, fun j o hj hd => ?_, fun k hk b hb => ?_, fun k hk t ht v hv => ?_, fun i hi _ b h1 h2 => ?_, S.world rfl, hf.nt, G⟩
    · have : j < ops.size := by rw [List.getElem?_eq_some_iff] at hj; have := hj.1; omega
      exact absurd this (hn j hd)
    · have e := X.keep (Nat.zero_le k) hk (b := b) fun j _ hj hw => absurd ((hb j (by omega) hw).2 hj) fun hd => hn j hd (by omega)
      rw [e]
      show h.get b = (hS 0).get b
      rw [q2]
    · have e := X.keepT (Nat.zero_le k) hk (t := t) fun j o hj _ hjk hdj => absurd ((ht j o hj hdj).2 hjk) fun hd => hn j hd (by omega)
      rw [e] at hv
      have : (tmS 0).get t = some v := hv
      rw [q1] at this
      exact hf.tm t v this
    · have hmono1 := X.mono 0 i (Nat.zero_le _) (by omega)
      have hci : (X.oS i).c = X.cS (i + 1) := (X.c_ i (by omega)).symm
      have hmono2 := X.mono (i + 1) ops.size (by omega) (Nat.le_refl _)
      have h0 : X.cS 0 = c := q3
      exact F b (by omega) (by omega)
  obtain ⟨m, t, hsch⟩ : ∃ m t, Region.schedule (P.follows .mixedOrders) ops (w.tape w.drawn (.order fr.fn id)) = Region.linearise.go m ops ops.size t (Array.replicate ops.size false) [] := by
    unfold Region.schedule
    split
    · exact ⟨.any, _, rfl⟩
    · exact ⟨_, _, rfl⟩
  obtain ⟨ι', h', w', tmps', s1, s2, s3, s4, s5⟩ := order_ok (m := m) (fr := fr) (k := k') (crs := crs ++ base) X hreg (opstep_ok (crs := crs ++ base) O H hf.mode) (W0 := W) (Wn := Wn)
    (fun j hj b hb => (q4 j _ (hat j (by omega))).2.2.2.2.2 b hb) q5 ops.size t _ ι h w.drew fr.tmps I (by
      have : (unl ops.size (Array.replicate ops.size false)).length ≤ (List.range ops.size).length := List.length_filter_le _ _
      simpa using this)
  have st := st_draw (P := P) (cs := crs ++ base) (w := w) hf.mode hto
  rw [hsch] at st
  have st2 : Steps P (lone fr (crs ++ base) w) (lone { fr with tmps := tmps', todo := k' } (crs ++ base) w') := by
    refine .head st (s1.trans (.one ?_))
    exact st_regEnd (fr := atReg fr tmps' ops [] k') hf.mode rfl
  have e0 : X.cS 0 = c := q3
  have way : Way ι h c W w ι' (hS ops.toList.length) (cS ops.toList.length) Wn w' := by
    have w1 := s2.ext (h₂ := hS ops.size) (fun b => (s3 b).symm)
    rw [hlen]
    have w2 : Way ι h c W w ι h c W w.drew := Way.draw w.drew S rfl rfl rfl rfl
    rw [e0] at w1
    exact w2.trans w1
  refine H.use way F G st2 q7 ⟨hf.fn, hf.mode, hf.kind, (hf.le s2.le).rd, s5, by rw [hlen]; exact s4, TdR.le s2.le _ _ ht, DfR.le s2.le _ _ hf.df⟩ (CsR.le s2.le _ _ hc) (lastF_same (f := f) (f2 := ⟨f.fn, f.nt, tmS ops.toList.length, k, f.df, f.rd⟩) rfl rfl cs)
end
end Go.Ev
