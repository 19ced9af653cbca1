/- THE ABSTRACT MACHINE AND THE MODEL: maps, the key's place. Own work. -/
import Derived.Test.YtlainoonnnimiaaGreatDoorEvO13
import Derived.MapKept
set_option linter.all false
set_option linter.unusedVariables false
set_option linter.constructorNameAsVariable false
set_option linter.unnecessarySimpa false
set_option linter.unusedSimpArgs false
set_option linter.unusedSimpArgs false
set_option linter.unusedVariables false
namespace Go.Ev

theorem ikEq_eq {a b : IntKind} (h : ikEq a b = true) : a = b := by cases a <;> cases b <;> first | rfl | cases h

theorem sameB_eq {a b : V} (h : sameB a b = true) : a = b := by
  unfold sameB at h
  split at h
  · rw [Bool.and_eq_true, ieq_iff, decide_eq_true_eq] at h
    rw [ikEq_eq h.1, h.2]
  · rw [cmpL_eq, beq_iff_eq] at h
    rw [h]
  · cases h

theorem sameL_cons (a : V) (l m : List V) : sameL (a :: l) m = (match m with | b :: m => bif sameB a b then sameL l m else false | [] => false) := rfl

theorem sameL_eq : ∀ (l m : List V), sameL l m = true → l = m
  | [], m, h => by cases m with | nil => rfl | cons b m => cases h
  | a :: l, m, h => by
    rw [sameL_cons] at h
    cases m with
    | nil => cases h
    | cons b m =>
      cases hb : sameB a b with
      | true => simp only [hb, cond_true] at h; rw [sameB_eq hb, sameL_eq l m h]
      | false => simp only [hb, cond_false] at h; cases h

theorem sameV_eq {a b : V} (h : sameV a b = true) : a = b := by
  unfold sameV at h
  split at h
  · rw [sameL_eq _ _ h]
  · exact sameB_eq h

/-- Entries, alike. -/
def MapR (ι : Ren) (es : List (V × V × Nat)) (l : List MapEntry) : Prop :=
  es.length = l.length ∧ ∀ (j : Nat) e, es[j]? = some e → ∃ m, l[j]? = some m ∧ VR ι e.1 m.key ∧ VR ι e.2.1 m.val ∧ m.born = e.2.2

section
variable {P : Program} {T : Tr TI} {ι : Ren} {h : Tr Blk} {c r W : Nat} {w : World} {out : Out} {K : V → M}

theorem MapR.at {es : List (V × V × Nat)} {l : List MapEntry} (hm : MapR ι es l) {j : Nat} {e : V × V × Nat} {m : MapEntry} (h1 : es[j]? = some e) (h2 : l[j]? = some m) : VR ι e.1 m.key ∧ VR ι e.2.1 m.val ∧ m.born = e.2.2 := by
  obtain ⟨m', g1, g2⟩ := hm.2 j e h1
  rw [h2] at g1; cases g1
  exact g2

theorem BR.mapR {L : Loc} {es clock} (hb : BR ι w L (.map es clock)) : ∃ arr, w.heap[L.blk]? = some (.map arr clock) ∧ MapR ι es arr.toList := by
  obtain ⟨arr, h1, h2, h3⟩ := hb
  exact ⟨arr, h1, by simpa using h2, fun j e he => by obtain ⟨m, g⟩ := h3 j e he; exact ⟨m, by rw [Array.getElem?_toList]; exact g.1, g.2⟩⟩

theorem BR.ofMapR {w' : World} {L : Loc} {es clock} {arr : Array MapEntry} (h1 : w'.heap[L.blk]? = some (.map arr clock)) (hm : MapR ι es arr.toList) : BR ι w' L (.map es clock) :=
  ⟨arr, h1, by simpa using hm.1, fun j e he => by obtain ⟨m, g⟩ := hm.2 j e he; exact ⟨m, by rw [← Array.getElem?_toList]; exact g.1, g.2⟩⟩

theorem keyOk_ok (hT : TyOk P T) {kt : Nat} {key : V} {key' : Value} (hk : VR ι key key') (h : keyOk T kt key = true) (em : Bool) (w : World) :
    (Instr.checkKey em 10000 kt key').run P w = .ok () w := by
  unfold keyOk at h
  split at h
  · rename_i hti
    obtain ⟨d, hd⟩ := hT.at hti
    cases hd.int rfl
    rw [show (10000 : Nat) = 9999 + 1 from rfl, Instr.checkKey]
    simp only [Sem.run_bind, hd.run_und, Result.andThen_ok]
    cases key' <;> rfl
  · rename_i hti
    obtain ⟨d, hd⟩ := hT.at hti
    cases hd.str rfl
    rw [show (10000 : Nat) = 9999 + 1 from rfl, Instr.checkKey]
    simp only [Sem.run_bind, hd.run_und, Result.andThen_ok]
    cases key' <;> rfl
  · rename_i n e sz a1 a2 a3 a4 hti
    obtain ⟨d, hd⟩ := hT.at hti
    obtain ⟨rfl, i, hi, hsz⟩ := hd.arr rfl
    split at h
    · rename_i k b1 b2 b3 b4 l hei
      rw [Bool.and_eq_true, nbeq_iff, ble_iff, decide_eq_true_eq, decide_eq_true_eq] at h
      obtain ⟨h1, h2⟩ := h
      subst h1
      obtain ⟨de, hde⟩ := hT.at hei
      have hint := hde.int rfl
      subst hint
      simp only [VR] at hk
      obtain ⟨cs, rfl, g1, g2⟩ := hk
      have hagg : b1 = false := hde.agg
      rw [show (10000 : Nat) = 9999 + 1 from rfl, Instr.checkKey]
      simp only [Sem.run_bind, hd.run_und, Result.andThen_ok]
      simp only [Std.Legacy.Range.forIn_eq_forIn_range', Std.Legacy.Range.size, Nat.sub_zero, Nat.add_one_sub_one, Nat.div_one]
      have hall : ∀ j ∈ List.range' 0 n, j < l.length := fun j hj => by
        rw [List.mem_range'] at hj
        obtain ⟨q, hq, rfl⟩ := hj
        omega
      generalize List.range' 0 n = is at hall
      induction is with
      | nil => simp
      | cons j is ih =>
        obtain ⟨v, p1, _⟩ := part_ok (w := w) hde g1 g2 (o := j * i.size) (fun _ => by rw [hsz, Nat.mul_one]; exact hall j (by simp))
        have p2 : (Instr.checkKey em 9999 e v).run P w = .ok () w := by
          rw [show (9999 : Nat) = 9998 + 1 from rfl, Instr.checkKey]
          simp only [Sem.run_bind, hde.run_und, Result.andThen_ok]
          cases v <;> rfl
        simp only [List.forIn_cons, Sem.run_bind, run_sizeOf_info w hi, Result.andThen_ok, p1, p2, Sem.run_pure]
        have := ih (fun y hy => hall y (by simp [hy]))
        exact this
    · cases h
  · cases h

theorem sameNow_equal {d : TypeDesc} {t : Nat} {a b : Value} {x : Bool} (hd : P.underlying t = some d) (h : Instr.sameNow d a b = some x) (w : World) : (Op.equal t a b).run P w = .ok x w := by
  unfold Op.equal
  rw [show Op.maxDepth = 9999 + 1 from rfl, Op.equalIn]
  unfold Instr.sameNow at h
  split at h
  · split at h
    · cases h
      rename_i k k' hkk
      subst hkk
      simp [run_underlying hd]
    · cases h
  · cases h; simp [run_underlying hd]
  · cases h; simp [run_underlying hd]
  · cases h

/-- A key's place, as the model finds it. -/
theorem findE_ok (hT : TyOk P T) {kt : Nat} {key : V} {key' : Value} {d : TypeDesc} (hd : P.underlying kt = some d) (hk : VR ι key key') (w : World) :
    ∀ (es : List (V × V × Nat)) (l : List MapEntry) (i : Nat) (R : Option (Nat × V × Nat)), MapR ι es l → findE T kt key es i = some R →
      ∃ R' : Option (Nat × Value), (Instr.findAsking kt key' l i).run P w = .ok R' w ∧ (Instr.findNow d key' l i = none ∨ Instr.findNow d key' l i = some R') ∧
        (match R with
        | none => R' = none
        | some (q, v, born) => ∃ j e m, q = i + j ∧ es[j]? = some e ∧ l[j]? = some m ∧ e.1 = key ∧ e.2 = (v, born) ∧ R' = some (q, m.val))
  | [], l, i, R, hm, hf => by
    have : l = [] := by have := hm.1; cases l with | nil => rfl | cons _ _ => simp at this
    subst this
    cases hf
    exact ⟨none, rfl, .inr rfl, rfl⟩
  | e :: es, [], i, R, hm, hf => by have := hm.1; simp at this
  | e :: es, m :: l, i, R, hm, hf => by
    have hh := MapR.at hm (j := 0) (e := e) (m := m) rfl rfl
    have hf' : (match aeq T 100 kt key e.1 with
      | some true => bif sameV key e.1 then some (some (i, e.2)) else none
      | some false => findE T kt key es (i + 1)
      | none => none) = some R := hf
    have heq : ∀ b, aeq T 100 kt key e.1 = some b → (Op.equal kt key' m.key).run P w = .ok b w := fun b hb =>
      aeq_ok hT 100 kt key e.1 b hb key' m.key w hk hh.1 9900
    have hsn : ∀ b x, aeq T 100 kt key e.1 = some b → Instr.sameNow d key' m.key = some x → x = b := fun b x hb hx => by
      have g1 := heq b hb
      rw [sameNow_equal hd hx] at g1
      injection g1
    split at hf'
    · rename_i ha
      have he := heq _ ha
      cases hs : sameV key e.1 with
      | false => rw [hs] at hf'; cases hf'
      | true =>
        rw [hs, cond_true] at hf'
        cases hf'
        refine ⟨some (i, m.val), ?_, ?_, 0, e, m, rfl, rfl, rfl, (sameV_eq hs).symm, rfl, rfl⟩
        · simp only [Instr.findAsking, Sem.run_bind, he, Result.andThen_ok, if_true, Sem.run_pure]
        · simp only [Instr.findNow]
          split
          · exact .inr rfl
          · rename_i hx
            cases hsn _ _ ha hx
          · exact .inl rfl
    · rename_i ha
      have he := heq _ ha
      have hm' : MapR ι es l := ⟨by have := hm.1; simpa using this, fun j e' he' => hm.2 (j + 1) e' (by simpa using he')⟩
      obtain ⟨R', g1, g2, g3⟩ := findE_ok hT hd hk w es l (i + 1) R hm' hf'
      refine ⟨R', ?_, ?_, ?_⟩
      · simp only [Instr.findAsking, Sem.run_bind, he, Result.andThen_ok, Bool.false_eq_true, if_false]
        exact g1
      · simp only [Instr.findNow]
        split
        · rename_i hx
          cases hsn _ _ ha hx
        · exact g2
        · exact .inl rfl
      · cases R with
        | none => exact g3
        | some q =>
          obtain ⟨q, v, born⟩ := q
          obtain ⟨j, e', m', a1, a2, a3, a4⟩ := g3
          exact ⟨j + 1, e', m', by omega, by simpa using a2, by simpa using a3, a4⟩
    · cases hf'

theorem findKey_ok (hT : TyOk P T) {kt : Nat} {key : V} {key' : Value} (hk : VR ι key key') (w : World) {es : List (V × V × Nat)} {l : List MapEntry} {R : Option (Nat × V × Nat)} {ti : TI} (hti : T.get kt = some ti)
    (hm : MapR ι es l) (hf : findE T kt key es 0 = some R) :
      ∃ R' : Option (Nat × Value), (Instr.findKey kt key' l).run P w = .ok R' w ∧
        (match R with
        | none => R' = none
        | some (q, v, born) => ∃ e m, es[q]? = some e ∧ l[q]? = some m ∧ e.1 = key ∧ e.2 = (v, born) ∧ R' = some (q, m.val)) := by
  obtain ⟨d, hd⟩ := hT.at hti
  obtain ⟨R', g1, g2, g3⟩ := findE_ok hT hd.und hk w es l 0 R hm hf
  refine ⟨R', ?_, ?_⟩
  · simp only [Instr.findKey, Sem.run_bind, hd.run_und, Result.andThen_ok]
    rcases g2 with g2 | g2
    · rw [g2]; exact g1
    · rw [g2]; rfl
  · cases R with
    | none => exact g3
    | some q =>
      obtain ⟨q, v, born⟩ := q
      obtain ⟨j, e', m', a1, a2, a3, a4⟩ := g3
      have : q = j := by omega
      subst this
      exact ⟨e', m', a2, a3, a4⟩

theorem keyStays (a b : Value) (w : World) : ∃ k w₁, (Instr.keyThatStays a b).run P w = .ok k w₁ ∧ (k = a ∨ k = b) ∧ w₁.heap = w.heap ∧ w₁.os = w.os ∧ w₁.tape = w.tape ∧ w₁.output = w.output := by
  unfold Instr.keyThatStays
  split
  · exact ⟨b, w, rfl, .inr rfl, rfl, rfl, rfl, rfl⟩
  · simp only [Sem.run_bind, run_choose, Question.forced, Sem.run_pure]
    simp only [show (decide ((2 : Nat) = 1)) = false from rfl, Bool.false_eq_true, if_false, Result.andThen_ok]
    exact ⟨_, _, rfl, by split <;> simp, rfl, rfl, rfl, rfl⟩

theorem MapR.set {es : List (V × V × Nat)} {arr : Array MapEntry} (hm : MapR ι es arr.toList) {q : Nat} {e : V × V × Nat} (he : es[q]? = some e) {key v : V} {key' v' : Value} (h1 : VR ι key key') (h2 : VR ι v v') :
    MapR ι (es.set q (key, v, e.2.2)) (arr.modify q fun m => { m with key := key', val := v' }).toList := by
  have hl := hm.1
  refine ⟨by simpa using hl, fun j x hx => ?_⟩
  rw [List.getElem?_set] at hx
  rw [Array.getElem?_toList, Array.getElem?_modify]
  by_cases hq : q = j
  · subst hq
    obtain ⟨m, g1, g2⟩ := hm.2 q e he
    rw [Array.getElem?_toList] at g1
    rw [if_pos rfl, g1]
    rw [if_pos rfl] at hx
    rw [if_pos (by rw [List.getElem?_eq_some_iff] at he; exact he.1)] at hx
    cases hx
    exact ⟨_, rfl, h1, h2, g2.2.2⟩
  · rw [if_neg hq] at hx ⊢
    obtain ⟨m, g1, g2⟩ := hm.2 j x hx
    rw [Array.getElem?_toList] at g1
    exact ⟨m, g1, g2⟩

theorem MapR.push {es : List (V × V × Nat)} {arr : Array MapEntry} (hm : MapR ι es arr.toList) {key v : V} {key' v' : Value} (h1 : VR ι key key') (h2 : VR ι v v') (b : Nat) :
    MapR ι (es ++ [(key, v, b)]) (arr.push { key := key', val := v', born := b }).toList := by
  have hl := hm.1
  refine ⟨by simpa using hl, fun j x hx => ?_⟩
  rw [Array.toList_push]
  by_cases hj : j < es.length
  · rw [List.getElem?_append_left hj] at hx
    rw [List.getElem?_append_left (by omega)]
    exact hm.2 j x hx
  · rw [List.getElem?_append_right (by omega)] at hx
    rw [List.getElem?_append_right (by omega), ← hl]
    cases hk : j - es.length with
    | zero => rw [hk] at hx; simp at hx; subst hx; exact ⟨_, rfl, h1, h2, rfl⟩
    | succ k => rw [hk] at hx; simp at hx

theorem MapR.erase {es : List (V × V × Nat)} {arr : Array MapEntry} (hm : MapR ι es arr.toList) {q : Nat} (hq : q < es.length) : MapR ι (es.eraseIdx q) (arr.eraseIdxIfInBounds q).toList := by
  have hl := hm.1
  have hq' : q < arr.size := by simp at hl; omega
  have ht : (arr.eraseIdxIfInBounds q).toList = arr.toList.eraseIdx q := by
    rw [Array.eraseIdxIfInBounds, dif_pos hq', Array.toList_eraseIdx]
  rw [ht]
  refine ⟨by rw [List.length_eraseIdx, List.length_eraseIdx, hl], fun j x hx => ?_⟩
  rw [List.getElem?_eraseIdx] at hx ⊢
  split at hx
  · rename_i hlt; rw [if_pos hlt]; exact hm.2 j x hx
  · rename_i hlt; rw [if_neg hlt]; exact hm.2 _ x hx

/-- A map is written. -/
theorem Way.mapSet {b : Nat} {es es' : List (V × V × Nat)} {clock clock' : Nat} {L : Loc} {arr arr' : Array MapEntry} (S : Sim ι h w) (hb : h.get b = some (.map es clock)) (hL : ι b = some L)
    {w₁ : World} (e1 : w₁.heap = w.heap) (e2 : w₁.os = w.os) (e3 : w₁.tape = w.tape) (e4 : w₁.output = w.output) (ha : w.heap[L.blk]? = some (.map arr clock)) (hm : MapR ι es' arr'.toList) :
    ∃ w', (setObj L.blk (.map arr' clock')).run P w₁ = .ok () w' ∧ Way ι h c W w ι (h.set (.map es' clock') b) c (bit W b) w' := by
  have hlt : L.blk < w.heap.size := by
    rcases Nat.lt_or_ge L.blk w.heap.size with h | h
    · exact h
    · rw [Array.getElem?_eq_none h] at ha; cases ha
  refine ⟨_, MapKept.run_setObj_map _ (by rw [e1]; exact ha), Way.write S hb trivial hL ?_ ?_ e2 e3 e4 (BR.ofMapR ?_ hm)⟩
  · intro k hk; simp [e1, Array.getElem?_setIfInBounds, Ne.symm hk]
  · simp [e1]
  · simp [e1, Array.getElem?_setIfInBounds, hlt]
end
end Go.Ev
