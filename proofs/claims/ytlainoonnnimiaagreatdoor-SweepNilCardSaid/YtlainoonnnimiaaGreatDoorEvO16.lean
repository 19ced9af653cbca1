/- THE ABSTRACT MACHINE AND THE MODEL: range, next, entry. Own work. -/
import Derived.Test.YtlainoonnnimiaaGreatDoorEvO15
import Derived.Laws.RangeString
set_option linter.all false
set_option linter.unusedVariables false
set_option linter.constructorNameAsVariable false
set_option linter.unnecessarySimpa false
set_option linter.unusedSimpArgs false
set_option linter.unusedSimpArgs false
set_option linter.unusedVariables false
namespace Go.Ev

section
variable {P : Program} {T : Tr TI} {ι : Ren} {h : Tr Blk} {c r W : Nat} {w : World} {out : Out} {K : V → M}

/-- A new iterator. -/
theorem Good.iter (S : Sim ι h w) (F : Fresh ι h c out) {x : Blk} {o : Obj} (hr : run (K (.p c 0)) (h.set x c) (c + 1) r W = some out)
    (hb : ∀ w' : World, w'.heap[w.heap.size]? = some o → BR (ι.put c ⟨w.heap.size, 0, 0, 0⟩) w' ⟨w.heap.size, 0, 0, 0⟩ x) {s : Sem Value} (hs : s.run P w = .ok (.pointer (some ⟨w.heap.size, 0, none⟩)) { w with heap := w.heap.push o }) : Good P s ι h c W w out K := by
  have hc : c < out.c := by have := run_c_le _ hr; omega
  obtain ⟨f1, f2⟩ := F c (Nat.le_refl _) hc
  refine ⟨_, _, ι.put c ⟨w.heap.size, 0, 0, 0⟩, _, _, _, _, { w with heap := w.heap.push o }, hr, hs, ?_, Way.alloc (w' := { w with heap := w.heap.push o }) S f2 f1 rfl (by simp) ?_ rfl rfl rfl (hb _ (by simp))⟩
  · simp only [VR]
    exact ⟨_, Ren.put_same _ _ _, rfl⟩
  · intro k hk
    simp [Array.getElem?_push_lt hk]

theorem aRange_ok (hT : TyOk P T) (S : Sim ι h w) (F : Fresh ι h c out) {t : Nat} {x : V} {x' : Value} (hx : VR ι x x') (hr : run (aRange T t x K) h c r W = some out) :
    Good P (Instr.range t x') ι h c W w out K := by
  unfold aRange at hr
  split at hr
  · rename_i l _ _ _ _ hti
    obtain ⟨d, hd⟩ := hT.at hti
    have := hd.str rfl
    subst this
    simp only [VR] at hx
    obtain ⟨s, rfl, rfl⟩ := hx
    refine Good.iter (o := .stringIter s 0) S F (run_al_some hr) (fun w' e => ⟨rfl, s, e, rfl⟩) ?_
    simp only [Instr.range, Sem.run_bind, hd.run_und, Result.andThen_ok, Sem.run_pure, run_newObj]
  · rename_i m k et _ _ _ _ hti
    obtain ⟨d, hd⟩ := hT.at hti
    have := hd.map rfl
    subst this
    obtain ⟨q, hq, hr1⟩ := run_rd_some hr
    split at hr1
    · rename_i es clock
      simp only [VR] at hx
      obtain ⟨L, hL, rfl⟩ := hx
      obtain ⟨hB, _⟩ := S.at hq hL
      obtain ⟨arr, ha, hM⟩ := hB.mapR
      have hc : c < out.c := by have := run_c_le _ (run_al_some hr1); omega
      obtain ⟨f1, f2⟩ := F c (Nat.le_refl _) hc
      refine Good.iter (o := .mapIter (some L.blk) clock #[] clock) S F (run_al_some hr1) (fun w' e => ⟨rfl, some L.blk, e, L, (Ren.put_le f1) _ _ hL, rfl⟩) ?_
      simp only [Instr.range, Sem.run_bind, hd.run_und, Result.andThen_ok, Sem.run_pure, run_getMap ha, run_newObj]
    · simp [run_fail] at hr1
  · rename_i k et _ _ _ _ hti
    obtain ⟨d, hd⟩ := hT.at hti
    have := hd.map rfl
    subst this
    simp only [VR] at hx
    subst hx
    refine Good.iter (o := .mapIter none 0 #[] 0) S F (run_al_some hr) (fun w' e => ⟨rfl, none, e, rfl⟩) ?_
    simp only [Instr.range, Sem.run_bind, hd.run_und, Result.andThen_ok, Sem.run_pure, run_newObj]
  · simp [run_fail] at hr

theorem Way.set1 {b : Nat} {x x' : Blk} {L : Loc} {o o' : Obj} (S : Sim ι h w) (hb : h.get b = some x) (hx : live x) (hL : ι b = some L) (ha : w.heap[L.blk]? = some o)
    (hrun : (setObj L.blk o').run P w = .ok () { w with heap := w.heap.setIfInBounds L.blk o' }) (hr : ∀ w' : World, w'.heap[L.blk]? = some o' → BR ι w' L x') :
    ∃ w', (setObj L.blk o').run P w = .ok () w' ∧ Way ι h c W w ι (h.set x' b) c (bit W b) w' := by
  have hlt : L.blk < w.heap.size := by
    rcases Nat.lt_or_ge L.blk w.heap.size with h | h
    · exact h
    · rw [Array.getElem?_eq_none h] at ha; cases ha
  refine ⟨{ w with heap := w.heap.setIfInBounds L.blk o' }, hrun, Way.write S hb hx hL ?_ ?_ rfl rfl rfl (hr _ ?_)⟩
  · intro k hk; simp [Array.getElem?_setIfInBounds, Ne.symm hk]
  · simp
  · simp [Array.getElem?_setIfInBounds, hlt]

theorem unseen_ok {es : List (V × V × Nat)} {l : List MapEntry} (hm : MapR ι es l) (seen : List Nat) : MapR ι (unseen seen es) (l.filter fun e => !seen.toArray.contains e.born) := by
  induction es generalizing l with
  | nil =>
    have : l = [] := by have := hm.1; cases l with | nil => rfl | cons _ _ => simp at this
    subst this
    exact ⟨rfl, fun j e he => by simp [unseen] at he⟩
  | cons e es ih =>
    cases l with
    | nil => have := hm.1; simp at this
    | cons m l =>
      have hh := MapR.at hm (j := 0) (e := e) (m := m) rfl rfl
      have hm' : MapR ι es l := ⟨by have := hm.1; simpa using this, fun j e' he' => hm.2 (j + 1) e' (by simpa using he')⟩
      have := ih hm'
      simp only [unseen, List.filter_cons] at this ⊢
      have hc : (!seen.toArray.contains m.born) = (!seen.contains e.2.2) := by rw [hh.2.2]; simp
      rw [hc]
      split
      · refine ⟨by simpa using this.1, fun j x hx => ?_⟩
        cases j with
        | zero => simp at hx; subst hx; exact ⟨m, rfl, hh⟩
        | succ j => exact this.2 j x (by simpa using hx)
      · exact this

theorem all_ok {es : List (V × V × Nat)} {l : List MapEntry} (hm : MapR ι es l) (last : Nat) : es.all (fun e => Nat.ble last e.2.2) = l.all (fun e => decide (e.born ≥ last)) := by
  induction es generalizing l with
  | nil =>
    have : l = [] := by have := hm.1; cases l with | nil => rfl | cons _ _ => simp at this
    subst this; rfl
  | cons e es ih =>
    cases l with
    | nil => have := hm.1; simp at this
    | cons m l =>
      have hh := MapR.at hm (j := 0) (e := e) (m := m) rfl rfl
      have hm' : MapR ι es l := ⟨by have := hm.1; simpa using this, fun j e' he' => hm.2 (j + 1) e' (by simpa using he')⟩
      rw [List.all_cons, List.all_cons, ih hm', ble_iff, hh.2.2]

theorem aNext_ok (S : Sim ι h w) {x : V} {x' : Value} {str : Bool} {ty : TypeId} (hx : VR ι x x') (hr : run (aNext x str K) h c r W = some out) :
    Good P (Instr.next x' str ty) ι h c W w out K := by
  unfold aNext at hr
  split at hr
  · rename_i rr
    simp only [VR] at hx
    obtain ⟨L, hL, rfl⟩ := hx
    obtain ⟨q, hq, hr1⟩ := run_rd_some hr
    obtain ⟨hB, _⟩ := S.at hq hL
    split at hr1
    · -- a text
      rename_i s pos
      obtain ⟨h0, bs, hb, hbs⟩ := hB
      have hob : (getObj L.blk).run P w = .ok (.stringIter bs pos) w := by simp only [getObj, Sem.run, hb]
      split at hr1
      · rename_i hn
        refine Good.now S hr1 (v' := .tuple #[.bool false]) ?_ (by simp [VR, VRL])
        have hns : ¬ pos < bs.size := by
          rw [List.getElem?_eq_none_iff] at hn
          rw [← hbs] at hn
          simp [bytes] at hn
          omega
        rw [h0, Nat.zero_add]
        simp only [Instr.next, Sem.run_bind, hob, Result.andThen_ok, hns, if_false, Sem.run_pure]
      · rename_i c0 hn
        obtain ⟨hlt, hr2⟩ := run_bif hr1
        rw [nblt_iff, decide_eq_true_eq] at hlt
        have hps : pos < bs.size := by
          rw [List.getElem?_eq_some_iff] at hn
          obtain ⟨g, _⟩ := hn
          rw [← hbs] at g
          simpa [bytes] using g
        have hval : (bs[pos]'hps).toNat = c0 := by
          rw [← hbs] at hn
          simp only [bytes, toList_bytes, List.getElem?_map] at hn
          rw [List.getElem?_eq_getElem (by simpa using hps)] at hn
          simp only [Option.map_some, Option.some.injEq] at hn
          rw [← hn]
          rfl
        obtain ⟨w', s1, s2⟩ := Way.set1 (P := P) (c := c) (W := W) (x' := .siter s (pos + 1)) (o' := .stringIter bs (pos + 1)) S hq trivial hL hb (by simp only [setObj, Sem.run, hb]) (fun w' e => ⟨h0, bs, e, hbs⟩)
        refine ⟨_, .tuple #[.bool true, .int .i64 pos, .int .i32 c0], ι, _, _, _, _, w', run_wr_some hr2, ?_, by simp [VR, VRL], s2⟩
        rw [h0, Nat.zero_add]
        simp only [Instr.next, Sem.run_bind, hob, Result.andThen_ok, hps, if_true, Go.decode_ascii bs pos hps (by omega), s1, Sem.run_pure, hval]
        rfl
    · -- no map
      obtain ⟨h0, m', hb, rfl⟩ := hB
      rename_i a b d
      have hob : (getObj L.blk).run P w = .ok (.mapIter none a b.toArray d) w := by simp only [getObj, Sem.run, hb]
      refine Good.now S hr1 (v' := .tuple #[.bool false]) ?_ (by simp [VR, VRL])
      rw [h0, Nat.zero_add]
      simp only [Instr.next, Sem.run_bind, hob, Result.andThen_ok, Sem.run_pure]
    · -- a map
      rename_i m since seen last
      obtain ⟨h0, m', hb, Lm, hLm, rfl⟩ := hB
      have hob : (getObj L.blk).run P w = .ok (.mapIter (some Lm.blk) since seen.toArray last) w := by simp only [getObj, Sem.run, hb]
      obtain ⟨q2, hq2, hr2⟩ := run_rd_some hr1
      split at hr2
      · rename_i es clock
        obtain ⟨hBm, _⟩ := S.at hq2 hLm
        obtain ⟨arr, ha, hM⟩ := hBm.mapR
        obtain ⟨hfl, hr3⟩ := run_bif' hr2
        have hU := unseen_ok hM seen
        have hempty : arr.isEmpty = es.isEmpty := by
          have hl : es.length = arr.size := by simpa using hM.1
          rw [Bool.eq_iff_iff, List.isEmpty_iff_length_eq_zero, hl]
          simp
        have htest : (!seen.toArray.isEmpty && !arr.isEmpty && arr.all fun e => decide (e.born ≥ last)) = false := by
          rw [hempty, ← Array.all_toList, ← all_ok hM last, ← hfl]
          simp
        have hfilt : (arr.filter fun e => !seen.toArray.contains e.born).toList = (arr.toList.filter fun e => !seen.toArray.contains e.born) := Array.toList_filter
        generalize (arr.toList.filter fun e => !seen.toArray.contains e.born) = LL at hU hfilt
        split at hr3
        · rename_i hu
          rw [hu] at hU
          have hnil : (arr.filter fun e => !seen.toArray.contains e.born) = #[] := by
            apply Array.toList_inj.1
            rw [hfilt]
            have := hU.1
            exact List.eq_nil_of_length_eq_zero this.symm
          refine Good.now S hr3 (v' := .tuple #[.bool false]) ?_ (by simp [VR, VRL])
          rw [h0, Nat.zero_add]
          simp only [Instr.next, Sem.run_bind, hob, Result.andThen_ok, Sem.run_pure, run_getMap ha, htest, Bool.false_eq_true, if_false, hnil, run_choose]
          simp [Question.forced]
        · rename_i e hu
          rw [hu] at hU
          obtain ⟨hlt, hr4⟩ := run_bif hr3
          rw [nblt_iff, decide_eq_true_eq] at hlt
          obtain ⟨me, g1, g2, g3, g4⟩ := hU.2 0 e rfl
          have hone : (arr.filter fun e => !seen.toArray.contains e.born) = #[me] := by
            apply Array.toList_inj.1
            rw [hfilt]
            have hl := hU.1
            rcases LL with _ | ⟨a, _ | ⟨b, t⟩⟩
            · simp at hl
            · simp at g1; rw [g1]
            · simp at hl
          obtain ⟨w', s1, s2⟩ := Way.set1 (P := P) (c := c) (W := W) (x' := .miter (some m) since (seen ++ [e.2.2]) clock) (o' := .mapIter (some Lm.blk) since (seen.toArray.push me.born) clock) S hq trivial hL hb (by simp only [setObj, Sem.run, hb])
            (fun w' e' => ⟨h0, some Lm.blk, by rw [e', g4]; simp, Lm, hLm, rfl⟩)
          refine ⟨_, .tuple #[.bool true, me.key, me.val], ι, _, _, _, _, w', run_wr_some hr4, ?_, ?_, s2⟩
          · rw [h0, Nat.zero_add]
            have hlt' : me.born < since := by omega
            have hge : ¬ (me.born ≥ since) := by omega
            simp only [Instr.next, Sem.run_bind, hob, Result.andThen_ok, Sem.run_pure, run_getMap ha, htest, Bool.false_eq_true, if_false, hone, run_choose]
            have s1' : (setObj L.blk (.mapIter (some Lm.blk) since (seen ++ [me.born]).toArray clock)).run P w = .ok () w' := by rw [← s1]; simp
            simp [hlt', hge, Question.forced, s1']
          · simp only [VR]
            exact ⟨_, rfl, by simp [VRL, VR, g2, g3]⟩
        · simp [run_fail] at hr3
      · simp [run_fail] at hr2
    · simp [run_fail] at hr1
  · simp [run_fail] at hr

theorem find_ok {es : List (V × V × Nat)} {l : List MapEntry} (hm : MapR ι es l) {st : Nat} {e : V × V × Nat} (hf : es.find? (fun e => Nat.beq e.2.2 st) = some e) :
    ∃ m, l.find? (fun m => m.born == st) = some m ∧ VR ι e.1 m.key ∧ VR ι e.2.1 m.val := by
  induction es generalizing l with
  | nil => cases hf
  | cons a es ih =>
    cases l with
    | nil => have := hm.1; simp at this
    | cons m l =>
      have hh := MapR.at hm (j := 0) (e := a) (m := m) rfl rfl
      have hm' : MapR ι es l := ⟨by have := hm.1; simpa using this, fun j e' he' => hm.2 (j + 1) e' (by simpa using he')⟩
      rw [List.find?_cons] at hf ⊢
      have hb : (m.born == st) = Nat.beq a.2.2 st := by rw [hh.2.2, nbeq_iff, Bool.eq_iff_iff]; simp
      rw [hb]
      cases hc : Nat.beq a.2.2 st with
      | true => rw [hc] at hf; cases hf; exact ⟨m, rfl, hh.1, hh.2.1⟩
      | false => rw [hc] at hf; exact ih hm' hf

theorem aEntry_ok (S : Sim ι h w) {x : V} {x' : Value} (hx : VR ι x x') (hr : run (aEntry x K) h c r W = some out) : Good P (Instr.entry x') ι h c W w out K := by
  unfold aEntry at hr
  split at hr
  · rename_i rr
    simp only [VR] at hx
    obtain ⟨L, hL, rfl⟩ := hx
    obtain ⟨q, hq, hr1⟩ := run_rd_some hr
    obtain ⟨hB, _⟩ := S.at hq hL
    split at hr1
    · rename_i m since seen last
      obtain ⟨h0, m', hb, Lm, hLm, rfl⟩ := hB
      have hob : (getObj L.blk).run P w = .ok (.mapIter (some Lm.blk) since seen.toArray last) w := by simp only [getObj, Sem.run, hb]
      split at hr1
      · simp [run_fail] at hr1
      · rename_i st hst
        obtain ⟨q2, hq2, hr2⟩ := run_rd_some hr1
        split at hr2
        · rename_i es clock
          obtain ⟨hBm, _⟩ := S.at hq2 hLm
          obtain ⟨arr, ha, hM⟩ := hBm.mapR
          obtain ⟨hcl, hr3⟩ := run_bif hr2
          rw [nbeq_iff, decide_eq_true_eq] at hcl
          subst hcl
          split at hr3
          · rename_i e hf
            obtain ⟨me, g1, g2, g3⟩ := find_ok hM hf
            refine Good.now S hr3 (v' := .tuple #[me.key, me.val]) ?_ ?_
            · rw [h0, Nat.zero_add]
              have hback : seen.toArray.back? = some st := by rw [← hst]; simp
              have hfind : arr.find? (fun m => m.born == st) = some me := by rw [← g1]; simp
              simp only [Instr.entry, Sem.run_bind, hob, Result.andThen_ok, Sem.run_pure, run_getMap ha, hback, bne_self_eq_false, Bool.false_eq_true, if_false, hfind]
            · simp only [VR]
              exact ⟨_, rfl, by simp [VRL, g2, g3]⟩
          · simp [run_fail] at hr3
        · simp [run_fail] at hr2
    · simp [run_fail] at hr1
  · simp [run_fail] at hr
end
end Go.Ev
