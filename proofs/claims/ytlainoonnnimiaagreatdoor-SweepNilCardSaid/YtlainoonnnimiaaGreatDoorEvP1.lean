/- THE ABSTRACT MACHINE AND THE MODEL: an operation that calls nothing, whole. Own work. -/
import Derived.Test.YtlainoonnnimiaaGreatDoorEvO16
set_option linter.all false
set_option linter.unusedVariables false
set_option linter.constructorNameAsVariable false
set_option linter.unnecessarySimpa false
set_option linter.unusedSimpArgs false
set_option linter.unusedSimpArgs false
set_option linter.unusedVariables false
namespace Go.Ev

/-- What an operation leaves: a value, or what stands for none. -/
def NV (n : Next) (v : Value) : Prop := n = .value v ∨ (n = .skip ∧ v = undef)

def GoodN (P : Program) (s : Sem Next) (ι : Ren) (h : Tr Blk) (c W : Nat) (w : World) (out : Out) (K : V → M) : Prop :=
  ∃ n v v' ι' h' c' r' W' w', run (K v) h' c' r' W' = some out ∧ s.run P w = .ok n w' ∧ NV n v' ∧ VR ι' v v' ∧ Way ι h c W w ι' h' c' W' w'

section
variable {P : Program} {T : Tr TI} {ι : Ren} {h : Tr Blk} {c r W : Nat} {w : World} {out : Out} {K : V → M}

theorem Good.toN {s : Sem Value} (g : Good P s ι h c W w out K) : GoodN P (do pure (.value (← s))) ι h c W w out K := by
  obtain ⟨v, v', ι', h', c', r', W', w', g1, g2, g3, g4⟩ := g
  exact ⟨.value v', v, v', ι', h', c', r', W', w', g1, by simp only [Sem.run_bind, g2, Result.andThen_ok, Sem.run_pure], .inl rfl, g3, g4⟩

theorem GoodU.toN {s : Sem Unit} (g : GoodU P s ι h c W w out K) : GoodN P (do s; pure .skip) ι h c W w out K := by
  obtain ⟨ι', h', c', r', W', w', g1, g2, g4⟩ := g
  exact ⟨.skip, .tu [], undef, ι', h', c', r', W', w', g1, by simp only [Sem.run_bind, g2, Result.andThen_ok, Sem.run_pure], .inr ⟨rfl, rfl⟩, VR_tu0, g4⟩

theorem Good.toU {s : Sem Unit} (g : Good P (do s; pure undef) ι h c W w out K) : GoodN P (do s; pure .skip) ι h c W w out K := by
  obtain ⟨v, v', ι', h', c', r', W', w', g1, g2, g3, g4⟩ := g
  rw [Sem.run_bind] at g2
  cases hs : s.run P w with
  | halt a b => rw [hs] at g2; cases g2
  | ok u w'' =>
    rw [hs, Result.andThen_ok, Sem.run_pure] at g2
    injection g2 with e1 e2
    subst e1 e2
    exact ⟨.skip, v, undef, ι', h', c', r', W', w'', g1, by rw [Sem.run_bind, hs, Result.andThen_ok, Sem.run_pure], .inr ⟨rfl, rfl⟩, g3, g4⟩

theorem GoodN.now {s : Sem Next} {v : V} {v' : Value} (S : Sim ι h w) (hr : run (K v) h c r W = some out) (hs : s.run P w = .ok (.value v') w) (hv : VR ι v v') : GoodN P s ι h c W w out K :=
  ⟨_, v, v', ι, h, c, r, W, w, hr, hs, .inl rfl, hv, Way.refl S⟩

theorem VRL.at0 {x : V} {l : List V} {args' : Array Value} (hl : VRL ι (x :: l) args'.toList) : ∃ x', args'[0]? = some x' ∧ VR ι x x' := by
  obtain ⟨v, h1, h2⟩ := hl.get 0 x rfl
  exact ⟨v, by rw [← Array.getElem?_toList]; exact h1, h2⟩
theorem VRL.at1 {x y : V} {l : List V} {args' : Array Value} (hl : VRL ι (x :: y :: l) args'.toList) : ∃ y', args'[1]? = some y' ∧ VR ι y y' := by
  obtain ⟨v, h1, h2⟩ := hl.get 1 y rfl
  exact ⟨v, by rw [← Array.getElem?_toList]; exact h1, h2⟩

theorem aBuiltin_ok (hT : TyOk P T) (S : Sim ι h w) (F : Fresh ι h c out) {b : Builtin} {ts' : Array TypeId} {ty : TypeId} {cs : Array Bool} {l : List V} {args' : Array Value} (hl : VRL ι l args'.toList)
    (hr : run (aBuiltin T b ts'.toList l K) h c r W = some out) : GoodN P (builtin b ts' ty cs args') ι h c W w out K := by
  unfold aBuiltin at hr
  split at hr
  · obtain ⟨x', h0, hx⟩ := hl.at0
    exact (aLen_ok (ty := ty) hT S h0 hx hr).toN
  · obtain ⟨s', h0, hs⟩ := hl.at0
    obtain ⟨x', h1, hx⟩ := hl.at1
    exact (aAppend_ok (ty := ty) hT S F h0 h1 hs hx hr).toN
  · obtain ⟨s', h0, hs⟩ := hl.at0
    obtain ⟨x', h1, hx⟩ := hl.at1
    exact (aCopy_ok (ty := ty) hT S h0 h1 hs hx hr).toN
  · exact (aMin_ok (ts' := ts') (ty := ty) S hl hr).toN
  · exact (aMax_ok (ts' := ts') (ty := ty) S hl hr).toN
  · obtain ⟨x', h0, hx⟩ := hl.at0
    exact (aClear_ok (ty := ty) hT S h0 hx hr).toN
  · obtain ⟨s', h0, hs⟩ := hl.at0
    obtain ⟨x', h1, hx⟩ := hl.at1
    split at hr
    · rename_i hts
      exact (aDelete_ok (ty := ty) hT S (ts_at hts) h0 h1 hs hx hr).toN
    · simp [run_fail] at hr
  · simp [run_fail] at hr

theorem VRL.map {α : Type} {ρ : α → V} {ρ' : α → Value} (hρ : ∀ o, VR ι (ρ o) (ρ' o)) : ∀ l : List α, VRL ι (l.map ρ) (l.map ρ')
  | [] => by simp [VRL]
  | o :: l => by simp only [List.map_cons, VRL]; exact ⟨hρ o, VRL.map hρ l⟩

theorem VRL.mapA {ρ : Operand → V} {ρ' : Operand → Value} (hρ : ∀ o, VR ι (ρ o) (ρ' o)) (a : Array Operand) : VRL ι (a.toList.map ρ) (a.map ρ').toList := by
  rw [Array.toList_map]; exact VRL.map hρ _

theorem OVR.map {ρ : Operand → V} {ρ' : Operand → Value} (hρ : ∀ o, VR ι (ρ o) (ρ' o)) (a : Option Operand) : OVR ι (a.map ρ) (a.map ρ') := by
  cases a with
  | none => trivial
  | some o => exact hρ o

set_option maxHeartbeats 1000000 in
theorem aop_ok (hT : TyOk P T) (S : Sim ι h w) (F : Fresh ι h c out) {ρ : Operand → V} {ρ' : Operand → Value} (hρ : ∀ o, VR ι (ρ o) (ρ' o)) {o : Oper}
    (hr : run (aop T ρ o.op K) h c r W = some out) : GoodN P (execOp ρ' o) ι h c W w out K := by
  obtain ⟨dst, op, ty, pos, after, guard⟩ := o
  cases op with
  | move x => exact GoodN.now S hr rfl (hρ _)
  | assign x => exact GoodN.now S hr rfl (hρ _)
  | pick c₀ a b =>
    simp only [aop] at hr
    split at hr
    · rename_i x hx
      have hc := hρ c₀
      rw [hx] at hc
      simp only [VR] at hc
      refine GoodN.now (v' := if x then ρ' a else ρ' b) S hr ?_ ?_
      · simp only [execOp, hc, asBool, Sem.run_bind, Sem.run_pure, Result.andThen_ok]
      · cases x
        · exact hρ b
        · exact hρ a
    · simp [run_fail] at hr
  | alloc t =>
    simp only [aop] at hr
    split at hr
    · rename_i ti ht
      exact (aAlloc_ok hT S F ht hr).toN
    · simp [run_fail] at hr
  | box t x => exact (aBox_ok S F (hρ _) hr).toN
  | build t parts =>
    refine (aBuild_ok (ps' := parts.map fun (i, x) => (i, ρ' x)) hT S (by simp) ?_ hr).toN
    intro j a b ha hb
    rw [Array.toList_map, List.getElem?_map] at hb
    rw [List.getElem?_map] at ha
    cases hp : parts.toList[j]? with
    | none => rw [hp] at ha; cases ha
    | some p => rw [hp] at ha hb; cases ha; cases hb; exact ⟨rfl, hρ _⟩
  | buildSlice t n parts =>
    refine (aBuildSlice_ok (ps' := parts.map fun (i, x) => (i, ρ' x)) hT S F (by simp) ?_ hr).toN
    intro j a b ha hb
    rw [Array.toList_map, List.getElem?_map] at hb
    rw [List.getElem?_map] at ha
    cases hp : parts.toList[j]? with
    | none => rw [hp] at ha; cases ha
    | some p => rw [hp] at ha hb; cases ha; cases hb; exact ⟨rfl, hρ _⟩
  | load t a => exact (aLoad_ok hT S (hρ _) hr).toN
  | store t a x => exact (aStore_ok hT S (hρ _) (hρ _) hr).toN
  | nilCheck x =>
    simp only [aop] at hr
    split at hr
    · rename_i b q hx
      have hc := hρ x
      rw [hx] at hc
      have hc' := hc
      simp only [VR] at hc
      obtain ⟨L, hL, e⟩ := hc
      refine GoodN.now (v' := ρ' x) S hr ?_ hc'
      simp only [execOp, e]
      rfl
    · simp [run_fail] at hr
  | binOp op t x y yt => exact (aBin_ok hT S (hρ _) (hρ _) _ _ hr).toN
  | unOp op t x => exact (aUn_ok S (hρ _) hr).toN
  | convert a b x => exact (aConv_ok hT S F (hρ _) hr).toN
  | makeInterface t x =>
    simp only [aop] at hr
    split at hr
    · simp [run_fail] at hr
    · rename_i ti hni hti
      obtain ⟨d, hd⟩ := hT.at hti
      refine Good.toN (Good.now S hr (v' := .iface t (ρ' x)) ?_ ?_)
      · unfold Instr.makeInterface
        simp only [Sem.run_bind, hd.run_und, Result.andThen_ok]
        cases d <;> first | rfl | skip
        have := hd.td
        simp only [tdOf, Option.some.injEq] at this
        obtain ⟨a1, a2, a3, a4, a5⟩ := ti
        simp only at this
        subst this
        exact (hni _ _ _ _ rfl).elim
      · simp only [VR]; exact ⟨_, rfl, hρ x⟩
    · simp [run_fail] at hr
  | makeFunc fn a cc =>
    have hny : ∀ l, fn ≠ .yield l := by
      intro l e
      subst e
      simp [aop, run_fail] at hr
    have hr' : run (K (.f fn (a.toList.map ρ) (cc.toList.map ρ))) h c r W = some out := by
      cases fn <;> first | exact hr | exact absurd rfl (hny _)
    refine Good.toN (Good.now S hr' (v' := .func fn (a.map ρ') (cc.map ρ')) rfl ?_)
    simp only [VR]
    refine ⟨_, _, _, rfl, ?_, VRL.mapA hρ a, VRL.mapA hρ cc⟩
    cases fn <;> first | rfl | exact absurd rfl (hny _)
  | makeMap t r' =>
    simp only [aop] at hr
    split at hr
    · have hr1 := run_al_some hr
      have hc : c < out.c := by have := run_c_le _ hr1; omega
      obtain ⟨f1, f2⟩ := F c (Nat.le_refl _) hc
      refine Good.toN ⟨_, .map (some w.heap.size), ι.put c ⟨w.heap.size, 0, 0, 0⟩, _, _, _, _, { w with heap := w.heap.push (.map #[] 0) }, hr1, ?_, ?_, Way.alloc (w' := { w with heap := w.heap.push (.map #[] 0) }) S f2 f1 rfl (by simp) ?_ rfl rfl rfl ?_⟩
      · simp only [Instr.makeMap, Option.map_none, Sem.run_bind, Sem.run_pure, Result.andThen_ok, run_newObj]
      · simp only [VR]; exact ⟨_, Ren.put_same _ _ _, rfl⟩
      · intro k hk; simp [Array.getElem?_push_lt hk]
      · exact ⟨#[], by simp, rfl, fun j e he => by simp at he⟩
    · simp [run_fail] at hr
  | makeSlice t l cp =>
    simp only [aop] at hr
    cases hq : (isQ (ρ l) && sameTmp l cp) with
    | false => rw [hq, cond_false] at hr; exact (aMakeSlice_ok hT S F (hρ _) (hρ _) hr).toN
    | true =>
      rw [hq, cond_true] at hr
      rw [Bool.and_eq_true] at hq
      have hs : l = cp := by
        have := hq.2
        unfold sameTmp at this
        split at this
        · rw [Nat.eq_of_beq_eq_true this]
        · cases this
      subst hs
      exact (aMakeSliceQ_ok hT S F (hρ _) hr).toN
  | slice t x lo hi mx => exact (aSlice_ok hT S (hρ _) (OVR.map hρ _) (OVR.map hρ _) (OVR.map hρ _) hr).toN
  | fieldAddr t x f => exact (aFieldAddr_ok hT S (hρ _) hr).toN
  | field t x f => exact (aField_ok hT S (hρ _) hr).toN
  | indexAddr t x i => exact (aIndexAddr_ok hT S (hρ _) (hρ _) hr).toN
  | index t x i => exact (aIndex_ok hT S (hρ _) (hρ _) hr).toN
  | lookup t x i ok => exact (aLookup_ok hT S (hρ _) (hρ _) hr).toN
  | mapUpdate t m k x => exact (aMapUpdate_ok hT S (hρ _) (hρ _) (hρ _) hr).toU
  | insert t m k x => exact (aMapUpdate_ok hT S (hρ _) (hρ _) (hρ _) hr).toU
  | mapEntry t m k => exact (aMapEntry_ok hT S (hρ _) (hρ _) hr).toN
  | entryStore t m s x => exact (aEntryStore_ok (t := t) S (hρ _) (hρ _) (hρ _) hr).toU
  | range t x => exact (aRange_ok hT S F (hρ _) hr).toN
  | next x str => exact (aNext_ok (ty := ty) S (hρ _) hr).toN
  | entry x => exact (aEntry_ok S (hρ _) hr).toN
  | extract x i =>
    simp only [aop] at hr
    split at hr
    · rename_i l hx
      split at hr
      · rename_i v hv
        have hc := hρ x
        rw [hx] at hc
        simp only [VR] at hc
        obtain ⟨cs, e, hl⟩ := hc
        obtain ⟨v', h1, h2⟩ := hl.get i v hv
        refine Good.toN (Good.now S hr (v' := v') ?_ h2)
        have : cs[i]? = some v' := by rw [← Array.getElem?_toList]; exact h1
        simp only [e, Instr.extract, this, Sem.run_pure]
      · simp [run_fail] at hr
    · simp [run_fail] at hr
  | call cl =>
    obtain ⟨callee, args, ts⟩ := cl
    cases callee with
    | builtin b =>
      obtain ⟨n, v, v', ι', h', c', r', W', w', g1, g2, g3⟩ := aBuiltin_ok (ty := ty) (cs := args.map fun | .const _ => true | _ => false) hT S F (VRL.mapA hρ args) hr
      refine ⟨n, v, v', ι', h', c', r', W', w', g1, ?_, g3⟩
      simp only [execOp, resolve, Sem.run_bind, Sem.run_pure, Result.andThen_ok, invoke]
      exact g2
    | value g => simp [aop, run_fail] at hr
    | invoke g n => simp [aop, run_fail] at hr
  | _ => simp [aop, run_fail] at hr
end
end Go.Ev
