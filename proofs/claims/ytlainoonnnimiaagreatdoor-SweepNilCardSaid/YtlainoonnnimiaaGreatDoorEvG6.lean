/- THE ABSTRACT MACHINE AND THE MODEL: every step, and the whole. Own work. -/
import Derived.Test.YtlainoonnnimiaaGreatDoorEvG5
set_option linter.all false
set_option linter.unusedVariables false
set_option linter.constructorNameAsVariable false
set_option linter.unnecessarySimpa false
set_option linter.unusedSimpArgs false
set_option linter.unusedSimpArgs false
set_option linter.unusedVariables false
set_option linter.constructorNameAsVariable false
namespace Go.Ev

section
variable {P : Program} {T : Tab} {ih : Go} {ι ι2 : Ren} {h h2 : Tr Blk} {c c2 r r2 W W2 : Nat} {w w2 : World} {out : Out} {m : Machine} {f f2 : AF} {cs : List AF} {fr fr₂ : Frame} {crs base : List Frame}

theorem ap_answer {s : Sem Next} {w₁ w' : World} {v' : Value} (hk : ∀ a b c k, fr₂.todo ≠ .call a true b c :: k)
    (hst : (stepG P true { frame := fr, callers := crs, status := .running, dying := none } w).bare = (stepG.apply P true fr₂ crs none s w₁).bare) (ha : Answers P (fr₂ :: crs) s w₁ v' w') : Steps P (lone fr crs w) (lone (fr₂.finish v') crs w') := by
  rcases ha with ⟨n, e, hn⟩ | ⟨g, args, e, hb⟩
  · rcases hn with rfl | ⟨rfl, rfl⟩
    · exact .one (st_apply hk hst e (.value v' w'))
    · exact .one (st_apply hk hst e (.skip w'))
  · obtain ⟨fr₁, h1, h2⟩ := hb
    exact .head (st_apply hk hst e (.enter g args w₁)) (h1.trans (.one (step_leave_returned h2)))

theorem ap_enters {s : Sem Next} {w₁ : World} {frE : Frame} (hk : ∀ a b c k, fr₂.todo ≠ .call a true b c :: k)
    (hst : (stepG P true { frame := fr, callers := crs, status := .running, dying := none } w).bare = (stepG.apply P true fr₂ crs none s w₁).bare) (ha : Enters P s w₁ frE) : Steps P (lone fr crs w) (lone frE (fr₂ :: crs) w₁) := by
  obtain ⟨n, e, hn⟩ := ha
  rcases hn with ⟨g, args, rfl, rfl⟩ | ⟨l, g, tmps, a, b, rfl, rfl⟩
  · exact .one (st_apply hk hst e (.enter g args w₁))
  · exact .one (st_apply hk hst e (.round l g tmps a b w₁))

theorem shut_ok {K : M} : ∀ (ds : List Nat) (defers : List Deferred) (h : Tr Blk) (r W : Nat) (w : World) (fr : Frame), run (shut ds K) h c r W = some out → Sim ι h w → DfR ι ds defers → fr.mode = .returning → fr.defers = defers →
    ∃ h' r' W' w', run K h' c r' W' = some out ∧ Way ι h c W w ι h' c W' w' ∧ Steps P (lone fr crs w) (lone { fr with defers := [] } crs w')
  | [], [], h, r, W, w, fr, hr, S, _, hm, hd => ⟨h, r, W, w, hr, Way.refl S, by rw [← hd]; exact .refl _ _⟩
  | [], _ :: _, h, r, W, w, fr, hr, S, hD, hm, hd => by simp [DfR] at hD
  | _ :: _, [], h, r, W, w, fr, hr, S, hD, hm, hd => by simp [DfR] at hD
  | d :: ds, x :: defers, h, r, W, w, fr, hr, S, hD, hm, hd => by
    simp only [DfR] at hD
    obtain ⟨⟨L, hL, rfl⟩, hD⟩ := hD
    have hr' : run (.rd d fun q => match q with | .defs true => .wr d (.defs false) (shut ds K) | _ => .fail) h c r W = some out := hr
    obtain ⟨q, hq, hr1⟩ := run_rd_some hr'
    split at hr1
    · have hr2 := run_wr_some hr1
      obtain ⟨hB, _⟩ := S.at hq hL
      have hb : w.heap[L.blk]? = some (.deferred (some [])) := hB
      obtain ⟨w', s1, s2⟩ := Way.set1 (P := P) (c := c) (W := W) (x' := .defs false) (o' := .deferred none) S hq trivial hL hb (by simp only [setObj, Sem.run, hb]) (fun w' e => e)
      have ht : (Instr.takeDeferred L.blk).run P w = .ok [] w' := by
        simp only [Instr.takeDeferred, getObj, Sem.run_bind, Sem.run, hb, Result.andThen_ok, s1, Sem.run_pure]
      have hst := st_take (P := P) (cs := crs) hm hd ht
      obtain ⟨h3, r3, W3, w3, g1, g2, g3⟩ := shut_ok ds defers _ _ _ w' { fr with defers := defers } hr2 s2.sim hD hm rfl
      exact ⟨h3, r3, W3, w3, g1, s2.trans g2, .head hst g3⟩
    · simp [run_fail] at hr1

def stOf (j : Option Code) : LoopState := match j with | none => .ready | some _ => .done

theorem run_setLoop {b : Nat} {o : Loop} {o' : Obj} (e : w.heap[b]? = some (.loop o)) : (setObj b o').run P w = .ok () { w with heap := w.heap.setIfInBounds b o' } := by
  simp only [setObj, Sem.run, e]

theorem leave_ok (O : Ok P T) (H : GoOk P T ih) {j : Option Code} (hr : run (leave T ih j f cs) h c r W = some out) (S : Sim ι h w) (G : Glob T.ng ι) (F : Fresh ι h c out) (hf : FR ι f fr) (hc : CsR ι cs crs)
    (hfun : fr.roundOf = none → Exit0 j = true → Steps P m (lone { fr with mode := .returning } (crs ++ base) w))
    (hrnd : ∀ L, fr.roundOf = some L → ∀ c0 base' v w', crs ++ base = c0 :: base' → (Instr.endRound L j).run P w = .ok v w' → Steps P m (lone (c0.finish v) base' w'))
    (hj : ∀ c, j = some c → codeOk c = true) : Concl P T ι h c W w out m f cs base := by
  unfold leave at hr
  have hrd := hf.rd
  split at hr
  · rename_i hn
    rw [hn] at hrd
    obtain ⟨hx, hr1⟩ := run_bif hr
    have st := hfun hrd hx
    obtain ⟨h1, r1, W1, w1, g1, g2, g3⟩ := shut_ok (P := P) (crs := crs ++ base) f.df fr.defers h r W w { fr with mode := .returning } hr1 S hf.df rfl rfl
    split at g1
    · simp [run_fail] at g1
    · rename_i fi hfi
      obtain ⟨fn, e1, e2, e3, e4, e5, e6⟩ := O.fn _ fi hfi
      obtain ⟨l, vs, r2, k1, k2, k3⟩ := resV_ok (P := P) O.ty g2.sim (fun t v hv => hf.tm t v hv) fi.res [] r1 g1
      have hres := results_ok (P := P) e4 k2
      rw [List.nil_append] at k1
      have hfn : P.funcs[fr.fn]? = some fn := by rw [hf.fn]; exact e1
      have hdone : ∀ v', (results fn fr.tmps).run P w1 = .ok v' w1 → Done P m f.rd f.fn (crs ++ base) v' w1 := by
        intro v' hv'
        rw [hn]
        exact ⟨{ fr with mode := .returning, defers := [] }, st.trans g3, hf.fn, rfl, rfl, hf.kind, fn, hfn, hv'⟩
      split at k1
      · rename_i v
        obtain ⟨v', rfl⟩ : ∃ v', vs = [v'] := by
          rcases vs with _ | ⟨v', _ | ⟨_, _⟩⟩ <;> simp only [VRL, and_false] at k3
          exact ⟨v', rfl⟩
        simp only [VRL, and_true] at k3
        exact back_ok H g2 F G k1 (hdone _ hres) k3 hc
      · rename_i hne
        have hres' : (results fn fr.tmps).run P w1 = .ok (.tuple vs.toArray) w1 := by
          rcases vs with _ | ⟨v', _ | ⟨_, _⟩⟩
          · exact hres
          · rcases l with _ | ⟨v, _ | ⟨_, _⟩⟩ <;> simp only [VRL, and_false] at k3
            exact absurd rfl (hne v)
          · exact hres
        exact back_ok H g2 F G k1 (hdone _ hres') (by simp only [VR]; exact ⟨_, rfl, by simpa using k3⟩) hc
  · rename_i l hn
    rw [hn] at hrd
    obtain ⟨L, hL, hro⟩ := hrd
    obtain ⟨q, hq, hr1⟩ := run_rd_some hr
    split at hr1
    · rename_i st pend fn nt tm ps a b d
      have hr2 := run_wr_some hr1
      obtain ⟨hB, _⟩ := S.at hq hL
      obtain ⟨⟨o1, o2, o3⟩, tmps, D, e1, e2, e3, e4⟩ := hB
      obtain ⟨w', s1, s2⟩ := Way.set1 (P := P) (c := c) (W := W) (x' := .loop (stOf j) j fn nt tm ps a b d)
        (o' := .loop { state := stOf j, pending := j, fn, tmps, params := ps.toArray, assign := a, body := b, defers := D.blk }) S hq trivial hL e1 (run_setLoop e1)
        (fun w' e => ⟨⟨o1, o2, hj⟩, tmps, D, e, e2, e3, e4⟩)
      have hend : (Instr.endRound L.blk j).run P w = .ok (.bool j.isNone) w' := by
        have hs : (if j.isNone = true then LoopState.ready else LoopState.done) = stOf j := by cases j <;> rfl
        simp only [Instr.endRound, Sem.run_bind, run_getLoop e1, Result.andThen_ok]
        rw [hs]
        simp only [s1, Result.andThen_ok, Sem.run_pure]
      have hdone : Done P m f.rd f.fn (crs ++ base) (.bool j.isNone) w' := by
        rw [hn]
        exact fun c0 base' e => hrnd L.blk hro c0 base' _ w' e hend
      exact back_ok H s2 F G hr2 hdone (by cases j <;> simp [VR]) hc
    · simp [run_fail] at hr1

theorem codeOk_seq {a b : Code} (h : codeOk (.seq a b) = true) : codeOk a = true ∧ codeOk b = true := by
  have h' : (bif codeOk a then codeOk b else false) = true := h
  cases ha : codeOk a <;> rw [ha] at h'
  · cases h'
  · exact ⟨rfl, h'⟩
theorem codeOk_cond {x : Operand} {a b : Code} (h : codeOk (.cond x a b) = true) : codeOk a = true ∧ codeOk b = true := by
  have h' : (bif codeOk a then codeOk b else false) = true := h
  cases ha : codeOk a <;> rw [ha] at h'
  · cases h'
  · exact ⟨rfl, h'⟩
theorem codeOk_rf {x : Operand} {ps : Array Nat} {a b : Code} (h : codeOk (.rangeFunc x ps a b) = true) : codeOk a = true ∧ codeOk b = true := by
  have h' : (bif codeOk a then codeOk b else false) = true := h
  cases ha : codeOk a <;> rw [ha] at h'
  · cases h'
  · exact ⟨rfl, h'⟩

theorem rf_call {g : Operand} {l : Nat} : (do let d ← resolve fr.eval { callee := .value g, args := #[.const (.func (.yield l) #[] #[])], argTypes := #[] } 0; invoke d.target d.args : Sem Next) =
    (do let d ← Deferred.ofValue (fr.eval g) #[.func (.yield l) #[] #[]]; invoke d.target d.args) := by
  simp [resolve, Frame.eval]

/-- A loop over a function, when its blocks are made. -/
theorem rf_ok (O : Ok P T) (H : GoOk P T ih) {g : Operand} {ps : Array Nat} {a b : Code} {k : List It} {k' : List Item} {l : Nat} {L : Loc} {mark : List Deferred} {df : List Nat} (hto : fr.todo = .code (.rangeFunc g ps a b) :: k')
    (hen : (Instr.enterLoop fr.fn fr.tmps ps a b fr.roundOf).run P w = .ok (L.blk, mark) w2) (p : Way ι h c W w ι2 h2 c2 W2 w2) (G : Glob T.ng ι) (F : Fresh ι h c out) (hf : FR ι f fr) (hc : CsR ι cs crs)
    (hl : ι2 l = some L) (ht : TdR ι k k') (hdf : DfR ι2 df (mark ++ fr.defers))
    (hr : run (callV T ih (ev T.ng f.tm g) [.f (.yield l) [] []] (⟨f.fn, f.nt, f.tm, .inRF l :: k, df, f.rd⟩ :: cs) (fun v => back ih v (⟨f.fn, f.nt, f.tm, .inRF l :: k, df, f.rd⟩ :: cs))) h2 c2 r2 W2 = some out) :
    Concl P T ι h c W w out (lone fr (crs ++ base) w) f cs base := by
  have hst := stG_rangeFunc (P := P) (cs := crs ++ base) hf.mode hto hen
  rw [rf_call] at hst
  have hk : ∀ a' b' c' k'', ({ fr with todo := .inRangeFunc L.blk :: k', defers := mark ++ fr.defers } : Frame).todo ≠ .call a' true b' c' :: k'' := by intro a' b' c' k''; simp
  have hf2 : FR ι2 ⟨f.fn, f.nt, f.tm, .inRF l :: k, df, f.rd⟩ { fr with todo := .inRangeFunc L.blk :: k', defers := mark ++ fr.defers } :=
    ⟨hf.fn, hf.mode, hf.kind, (hf.le p.le).rd, hf.nt, hf.tm.le p.le, by simp only [TdR]; exact ⟨⟨L, hl, rfl⟩, TdR.le p.le _ _ ht⟩, hdf⟩
  have hg : VR ι2 (ev T.ng f.tm g) (fr.eval g) := eval_ok (G.le p.le) (hf.tm.le p.le) g
  have ha : VRL ι2 [.f (.yield l) [] []] (#[.func (.yield L.blk) #[] #[]] : Array Value).toList := by
    simp only [VRL, VR, and_true]
    exact ⟨_, _, _, rfl, ⟨L, hl, rfl⟩, by simp [VRL], by simp [VRL]⟩
  rcases callV_ok O hr p.sim (G.le p.le) (F.way p) hg ha with ⟨v, v', ι', h', c', r', W', w', g1, g2, g3, g4⟩ | ⟨f3, frE, r', g1, g2, g3⟩
  · have g1' : run (AF.fin ⟨f.fn, f.nt, f.tm, .inRF l :: k, df, f.rd⟩ v fun c => ih c cs) h' c' r' W' = some out := g1
    obtain ⟨f4, k1, k2, k3, k4⟩ := fin_ok g1' (hf2.le g3.le) g2
    exact H.use (p.trans g3) F G (ap_answer hk hst g4) k1 k2 (CsR.le g3.le _ _ (CsR.le p.le _ _ hc)) (lastF_same (f := f) k3 k4 cs)
  · exact H.use (crs2 := { fr with todo := .inRangeFunc L.blk :: k', defers := mark ++ fr.defers } :: crs) p F G (ap_enters hk hst g3) g1 g2 (by simp only [CsR]; exact ⟨hf2, CsR.le p.le _ _ hc⟩) (lastF_same (f := f) (f2 := ⟨f.fn, f.nt, f.tm, .inRF l :: k, df, f.rd⟩) rfl rfl cs)

theorem Way.newBlk {x : Blk} {o : Obj} (S : Sim ι h w) (f2 : h.get c = none) (f1 : ι c = none) (hr : ∀ w' : World, w'.heap[w.heap.size]? = some o → BR (ι.put c ⟨w.heap.size, 0, 0, 0⟩) w' ⟨w.heap.size, 0, 0, 0⟩ x) :
    Way ι h c W w (ι.put c ⟨w.heap.size, 0, 0, 0⟩) (h.set x c) (c + 1) W { w with heap := w.heap.push o } :=
  Way.alloc (w' := { w with heap := w.heap.push o }) S f2 f1 rfl (by simp) (fun k hk => by simp [Array.getElem?_push_lt hk]) rfl rfl rfl (hr _ (by simp))

theorem stepC_ok (O : Ok P T) (H : GoOk P T ih) {x : Code} {k : List It} (htd : f.td = .code x :: k) (hr : run (stepC T ih f cs x k) h c r W = some out) (S : Sim ι h w) (G : Glob T.ng ι) (F : Fresh ι h c out) (hf : FR ι f fr) (hc : CsR ι cs crs) :
    Concl P T ι h c W w out (lone fr (crs ++ base) w) f cs base := by
  have ht := hf.td
  rw [htd] at ht
  obtain ⟨k', hto, hok, ht'⟩ := ht.code_inv
  have go : ∀ {td : List It} {todo : List Item} {r' : Nat}, run (ih (f.at_ td) cs) h c r' W = some out → TdR ι td todo → step P (lone fr (crs ++ base) w) = .next (lone { fr with todo := todo } (crs ++ base) w) → Concl P T ι h c W w out (lone fr (crs ++ base) w) f cs base :=
    fun {td} {todo} {r'} h1 h2 h3 => H.use (Way.refl S) F G (.one h3) h1 (hf.at h2) hc (lastF_same (f := f) (f2 := f.at_ td) rfl rfl cs)
  have hm := hf.mode
  unfold stepC at hr
  split at hr
  · exact go hr ht' (st_skip hm hto)
  · exact go hr ht' (st_label hm hto)
  · refine leave_ok O H hr S G F hf hc (fun hn _ => .one (st_ret hm hn hto)) (fun L hL c0 base' v w' e hs => ?_) (fun c e => by cases e; rfl)
    rw [e]; exact .one (st_roundRet hm hf.kind hL hto hs)
  · rename_i a b
    obtain ⟨h1, h2⟩ := codeOk_seq hok
    exact go hr (by simp only [TdR]; exact ⟨⟨trivial, h1⟩, ⟨trivial, h2⟩, ht'⟩) (st_seq hm hto)
  · rename_i x a b
    obtain ⟨h1, h2⟩ := codeOk_cond hok
    split at hr
    · rename_i t hx
      have hv := eval_ok (fr := fr) G hf.tm x
      rw [hx] at hv
      simp only [VR] at hv
      refine go hr ?_ (st_cond hm hto hv)
      cases t
      · simp only [TdR]; exact ⟨⟨rfl, h2⟩, ht'⟩
      · simp only [TdR]; exact ⟨⟨rfl, h1⟩, ht'⟩
    · simp [run_fail] at hr
  · exact go hr (by simp only [TdR]; exact ⟨⟨trivial, hok⟩, trivial, ht'⟩) (st_block hm hto)
  · exact go hr (by simp only [TdR]; exact ⟨⟨trivial, hok⟩, ⟨trivial, hok⟩, ht'⟩) (st_loop hm hto)
  · exact go hr (by simp only [TdR]; exact ⟨⟨trivial, hok⟩, ht'⟩) (st_scope hm hto)
  · rename_i id
    have hex := exitTo_ok id k k' ht'
    split at hr
    · rename_i k2 hk2
      rw [hk2] at hex
      obtain ⟨k2', e1, e2⟩ := hex
      exact go hr e2 (st_exit hm hto e1)
    · rename_i hk2
      rw [hk2] at hex
      refine leave_ok O H hr S G F hf hc (fun hn he => (by cases he)) (fun L hL c0 base' v w' e hs => ?_) (fun c e => by cases e; rfl)
      rw [e]; exact .one (st_roundExit hm hf.kind hL hto hex hs)
  · rename_i id ops d
    cases d with
    | true =>
      rw [cond_true] at hr
      exact region_ok O H hto hok ht' hr S G F hf hc
    | false =>
      rw [cond_false] at hr
      refine go hr ?_ (st_region hm hto)
      simp only [TdR]
      refine ⟨⟨trivial, ?_⟩, ht'⟩
      apply List.ext_getElem?
      intro j
      simp only [List.getElem?_map, Array.getElem?_toList]
      by_cases hj : j < ops.size
      · simp [hj]
      · simp [hj]
  · rename_i g ps a b
    obtain ⟨ok1, ok2⟩ := codeOk_rf hok
    have hrd := hf.rd
    split at hr
    · rename_i hn
      rw [hn] at hrd
      have hr1 := run_al_some hr
      have hr2 := run_al_some hr1
      have hle := run_c_le _ hr2
      obtain ⟨f1, f2⟩ := F c (Nat.le_refl _) (by omega)
      have w1 := Way.newBlk (W := W) (x := .defs true) (o := .deferred (some [])) S f2 f1 (fun w' e => e)
      obtain ⟨f3, f4⟩ := F.way w1 (c + 1) (Nat.le_refl _) (by omega)
      have w2 := Way.newBlk (W := W) (x := .loop .ready none f.fn f.nt f.tm ps.toList a b c)
        (o := .loop { state := .ready, pending := none, fn := fr.fn, tmps := fr.tmps, params := ps, assign := a, body := b, defers := w.heap.size }) w1.sim f4 f3
        (fun w' e => ⟨⟨ok1, ok2, fun c e => by cases e⟩, fr.tmps, ⟨w.heap.size, 0, 0, 0⟩, by rw [e]; simp [hf.fn], (Ren.put_le f3) _ _ (Ren.put_same _ _ _), hf.nt, fun t v hv => VR.le (Ren.le_trans w1.le (Ren.put_le f3)) _ _ (hf.tm t v hv)⟩)
      refine rf_ok (L := ⟨w.heap.size + 1, 0, 0, 0⟩) (mark := [{ target := .collected w.heap.size, args := #[] }]) O H hto ?_ (w1.trans w2) G F hf hc ?_ ht' ?_ hr2
      · rw [hrd]
        simp only [Instr.enterLoop, Sem.run_bind, run_newObj, Result.andThen_ok, Sem.run_pure, Array.size_push]
      · rw [Ren.put_same]; simp
      · simp only [List.singleton_append, DfR]
        exact ⟨⟨⟨w.heap.size, 0, 0, 0⟩, (Ren.put_le f3) _ _ (Ren.put_same _ _ _), rfl⟩, DfR.le (Ren.le_trans w1.le w2.le) _ _ hf.df⟩
    · rename_i l0 hn
      rw [hn] at hrd
      obtain ⟨L0, hL0, hro⟩ := hrd
      obtain ⟨q, hq, hr1⟩ := run_rd_some hr
      split at hr1
      · rename_i st0 p0 fn0 nt0 tm0 ps0 a0 b0 d0
        obtain ⟨hB, _⟩ := S.at hq hL0
        obtain ⟨_, tmps0, D0, e1, e2, e3, e4⟩ := hB
        have hr2 := run_al_some hr1
        have hle := run_c_le _ hr2
        obtain ⟨f1, f2⟩ := F c (Nat.le_refl _) (by omega)
        have w1 := Way.newBlk (W := W) (x := .loop .ready none f.fn f.nt f.tm ps.toList a b d0)
          (o := .loop { state := .ready, pending := none, fn := fr.fn, tmps := fr.tmps, params := ps, assign := a, body := b, defers := D0.blk }) S f2 f1
          (fun w' e => ⟨⟨ok1, ok2, fun c e => by cases e⟩, fr.tmps, D0, by rw [e]; simp [hf.fn], (Ren.put_le f1) _ _ e2, hf.nt, fun t v hv => VR.le (Ren.put_le f1) _ _ (hf.tm t v hv)⟩)
        refine rf_ok (L := ⟨w.heap.size, 0, 0, 0⟩) (mark := []) O H hto ?_ w1 G F hf hc (Ren.put_same _ _ _) ht' (DfR.le w1.le _ _ hf.df) hr2
        rw [hro]
        simp only [Instr.enterLoop, Sem.run_bind, run_getLoop e1, run_newObj, Result.andThen_ok, Sem.run_pure]
      · simp [run_fail] at hr1
  · simp [run_fail] at hr

theorem step1_ok (O : Ok P T) (H : GoOk P T ih) : GoOk P T (step1 T ih) := by
  intro f cs fr crs base ι h c r W w out hr S G F hf hc
  have go : ∀ {td : List It} {todo : List Item} {r' : Nat}, run (ih (f.at_ td) cs) h c r' W = some out → TdR ι td todo → step P (lone fr (crs ++ base) w) = .next (lone { fr with todo := todo } (crs ++ base) w) → Concl P T ι h c W w out (lone fr (crs ++ base) w) f cs base :=
    fun {td} {todo} {r'} h1 h2 h3 => H.use (Way.refl S) F G (.one h3) h1 (hf.at h2) hc (lastF_same (f := f) (f2 := f.at_ td) rfl rfl cs)
  have hm := hf.mode
  have ht := hf.td
  unfold step1 at hr
  split at hr
  · rename_i htd
    rw [htd] at ht
    have hto := ht.nil_inv
    refine leave_ok O H hr S G F hf hc (fun hn _ => .one (st_end hm hn hto)) (fun L hL c0 base' v w' e hs => ?_) (fun c e => by cases e)
    rw [e]; exact .one (st_roundEnd hm hf.kind hL hto hs)
  · rename_i x k htd
    exact stepC_ok O H htd hr S G F hf hc
  · rename_i k htd
    rw [htd] at ht
    obtain ⟨k', hto, ht'⟩ := ht.block_inv
    exact go hr ht' (st_inBlock hm hto)
  · rename_i k htd
    rw [htd] at ht
    obtain ⟨c', k', hto, ht'⟩ := ht.scope_inv
    exact go hr ht' (st_inScope hm hto)
  · rename_i x k htd
    rw [htd] at ht
    obtain ⟨k', hto, hok, ht'⟩ := ht.loop_inv
    exact go hr (by simp only [TdR]; exact ⟨⟨trivial, hok⟩, ⟨trivial, hok⟩, ht'⟩) (st_inLoop hm hto)
  · rename_i ops k htd
    rw [htd] at ht
    obtain ⟨ops', is, k', hto, e1, e2, ht'⟩ := ht.reg_inv
    have : is = [] := by cases is with | nil => rfl | cons _ _ => simp at e2
    subst this
    exact go hr ht' (st_regEnd hm hto)
  · rename_i ops o rest k htd
    exact stepO_ok O H htd hr S G F hf hc
  · simp [run_fail] at hr
  · rename_i k htd
    rw [htd] at ht
    obtain ⟨k', hto, ht'⟩ := ht.begR_inv
    have hrd := hf.rd
    split at hr
    · simp [run_fail] at hr
    · rename_i l hn
      rw [hn] at hrd
      obtain ⟨L, hL, hro⟩ := hrd
      obtain ⟨q, hq, hr1⟩ := run_rd_some hr
      split at hr1
      · rename_i p fn nt tm ps a b d
        have hr2 := run_wr_some hr1
        obtain ⟨hB, _⟩ := S.at hq hL
        obtain ⟨ok, tmps, D, e1, e2, e3, e4⟩ := hB
        obtain ⟨w', s1, s2⟩ := Way.set1 (P := P) (c := c) (W := W) (x' := .loop .busy p fn nt tm ps a b d)
          (o' := .loop { state := .busy, pending := p, fn, tmps, params := ps.toArray, assign := a, body := b, defers := D.blk }) S hq trivial hL e1 (run_setLoop e1)
          (fun w' e => ⟨ok, tmps, D, e, e2, e3, e4⟩)
        have hb : (Instr.beginRound L.blk).run P w = .ok () w' := by
          simp only [Instr.beginRound, Sem.run_bind, run_getLoop e1, Result.andThen_ok, s1, Sem.run_pure]
        exact H.use s2 F G (.one (st_begin hm hro hto hb)) hr2 ((hf.le s2.le).at (TdR.le s2.le _ _ ht')) (CsR.le s2.le _ _ hc) (lastF_same (f := f) (f2 := f.at_ k) rfl rfl cs)
      · simp [run_fail] at hr1
  · rename_i l k htd
    rw [htd] at ht
    obtain ⟨L, k', hto, hL, ht'⟩ := ht.endRF_inv
    obtain ⟨q, hq, hr1⟩ := run_rd_some hr
    split at hr1
    · simp [run_fail] at hr1
    · rename_i st p fn nt tm ps a b d hnb
      have hr2 := run_wr_some hr1
      obtain ⟨hB, _⟩ := S.at hq hL
      obtain ⟨ok, tmps, D, e1, e2, e3, e4⟩ := hB
      obtain ⟨w', s1, s2⟩ := Way.set1 (P := P) (c := c) (W := W) (x' := .loop .exhausted p fn nt tm ps a b d)
        (o' := .loop { state := .exhausted, pending := p, fn, tmps, params := ps.toArray, assign := a, body := b, defers := D.blk }) S hq trivial hL e1 (run_setLoop e1)
        (fun w' e => ⟨ok, tmps, D, e, e2, e3, e4⟩)
      have hb : (Instr.endLoop L.blk).run P w = .ok p w' := by
        have hst : (st == LoopState.busy) = false := by
          cases st <;> first | rfl | exact (hnb rfl).elim | exact (hnb _ _ _ _ _ _ _ _ rfl).elim
        simp only [Instr.endLoop, Sem.run_bind, run_getLoop e1, Result.andThen_ok, hst, Bool.false_eq_true, if_false, s1, Sem.run_pure]
      refine H.use s2 F G (.one (st_endLoop hm hto hb)) hr2 ((hf.le s2.le).at ?_) (CsR.le s2.le _ _ hc) (by cases cs <;> exact ⟨rfl, rfl⟩)
      cases p with
      | none => exact TdR.le s2.le _ _ ht'
      | some x => simp only [Option.map_some, Option.toList, List.singleton_append, TdR]; exact ⟨⟨trivial, ok.2.2 x rfl⟩, TdR.le s2.le _ _ ht'⟩
    · simp [run_fail] at hr1

theorem go_ok (O : Ok P T) : ∀ n, GoOk P T (go T n)
  | 0 => fun f cs fr crs base ι h c r W w out hr => by simp [go_zero, run_fail] at hr
  | n + 1 => by
    have := step1_ok O (go_ok O n)
    intro f cs fr crs base ι h c r W w out hr
    exact this f cs fr crs base ι h c r W w out hr
end
end Go.Ev
