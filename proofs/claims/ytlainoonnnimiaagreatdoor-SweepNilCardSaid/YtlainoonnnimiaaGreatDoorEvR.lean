/- THE ABSTRACT MACHINE AND THE MODEL: a region whose operations come in any order. Own work. -/
import Derived.Test.YtlainoonnnimiaaGreatDoorEvL
import Derived.Orders
set_option linter.all false
set_option linter.unusedVariables false
set_option linter.constructorNameAsVariable false
set_option linter.unnecessarySimpa false
set_option linter.unusedSimpArgs false
set_option linter.unusedSimpArgs false
set_option linter.unusedVariables false
namespace Go.Ev

theorem bindsAny_eq (e : Edge) : bindsAny e = Region.binds .any e := by
  unfold bindsAny Region.binds
  cases e.ground <;> rfl

theorem binds_of (m : Region.Mode) (e : Edge) (h : bindsAny e = true) : Region.binds m e = true := by
  unfold bindsAny at h
  unfold Region.binds
  cases hg : e.ground <;> rw [hg] at h <;> first | rfl | cases h

theorem snocInd {α : Type} {p : List α → Prop} (h0 : p []) (h1 : ∀ l a, p l → p (l ++ [a])) (l : List α) : p l := by
  have : ∀ l : List α, p l.reverse := by
    intro l
    induction l with
    | nil => exact h0
    | cons a l ih => rw [List.reverse_cons]; exact h1 _ _ ih
  have := this l.reverse
  rwa [List.reverse_reverse] at this

theorem ahead_spec (o : Oper) (acc : List Nat) (i : Nat) (h : (ahead o acc).testBit i = true) : ∃ e ∈ o.after.toList, bindsAny e = true ∧ (i = e.on ∨ (acc.getD e.on 0).testBit i = true) := by
  unfold ahead at h
  have key : ∀ (l : List Edge) (s : Nat), (l.foldl (fun s e => match e.ground with
    | .textOnly _ | .gcOnly _ => s
    | _ => s ||| (1 <<< e.on) ||| acc.getD e.on 0) s).testBit i = true → s.testBit i = true ∨ ∃ e ∈ l, bindsAny e = true ∧ (i = e.on ∨ (acc.getD e.on 0).testBit i = true) := by
    intro l
    induction l with
    | nil => intro s h; exact .inl h
    | cons e l ih =>
      intro s h
      rw [List.foldl_cons] at h
      rcases ih _ h with h | ⟨e', h1, h2⟩
      · have h' : (bindsAny e = true ∧ (s ||| (1 <<< e.on) ||| acc.getD e.on 0).testBit i = true) ∨ s.testBit i = true := by
          unfold bindsAny
          cases hg : e.ground <;> rw [hg] at h <;> first | exact .inr h | exact .inl ⟨rfl, h⟩
        rcases h' with ⟨hbd, h'⟩ | h'
        · rw [Nat.testBit_or] at h'
          rw [Bool.or_eq_true] at h'
          rcases h' with h' | h'
          · have := bit_test s e.on i
            unfold bit at this
            rw [this, Bool.or_eq_true] at h'
            rcases h' with h' | h'
            · exact .inl h'
            · exact .inr ⟨e, by simp, hbd, .inl (by simpa using h')⟩
          · exact .inr ⟨e, by simp, hbd, .inr h'⟩
        · exact .inl h'
      · exact .inr ⟨e', by simp [h1], h2⟩
  rcases key _ 0 h with h | h
  · simp at h
  · exact h

theorem aheads_snoc (ops : List Oper) (o : Oper) : aheads (ops ++ [o]) = aheads ops ++ [ahead o (aheads ops)] := by simp [aheads, List.foldl_append]

theorem aheads_length (ops : List Oper) : (aheads ops).length = ops.length := by
  induction ops using snocInd with
  | h0 => rfl
  | h1 ops o ih => rw [aheads_snoc]; simp [ih]

theorem aheads_get (ops : List Oper) : ∀ (j : Nat) (o : Oper), ops[j]? = some o → (aheads ops).getD j 0 = ahead o (aheads (ops.take j)) := by
  induction ops using snocInd with
  | h0 => intro j o h; simp at h
  | h1 ops o' ih =>
    intro j o h
    rw [aheads_snoc]
    by_cases hj : j < ops.length
    · rw [List.getElem?_append_left hj] at h
      have := ih j o h
      rw [List.take_append_of_le_length (by omega)]
      rw [← this]
      simp only [List.getD, List.getElem?_append_left (show j < (aheads ops).length by rw [aheads_length]; exact hj)]
    · rw [List.getElem?_append_right (by omega)] at h
      have hj0 : j = ops.length := by
        rcases Nat.lt_or_ge (j - ops.length) 1 with h' | h'
        · omega
        · rw [List.getElem?_eq_none (by simpa using h')] at h; cases h
      subst hj0
      simp at h
      subst h
      rw [List.take_append_of_le_length (by omega), List.take_length]
      simp [List.getD, aheads_length]

theorem aheads_take (ops : List Oper) (j i : Nat) (h : i < j) : (aheads (ops.take j)).getD i 0 = (aheads ops).getD i 0 := by
  cases ho : ops[i]? with
  | none =>
    have hi : ops.length ≤ i := by rw [List.getElem?_eq_none_iff] at ho; exact ho
    simp only [List.getD]
    rw [List.getElem?_eq_none (by rw [aheads_length]; simp; omega), List.getElem?_eq_none (by rw [aheads_length]; omega)]
  | some o =>
    rw [aheads_get ops i o ho, aheads_get (ops.take j) i o (by rw [List.getElem?_take, if_pos h, ho])]
    rw [List.take_take, Nat.min_eq_left (by omega)]

/-- What is shut under edges is shut under their ways. -/
theorem aheads_closed {ops : List Oper} {D : Nat → Prop} (hback : ∀ (j : Nat) (o : Oper), ops[j]? = some o → ∀ e ∈ o.after.toList, bindsAny e = true → e.on < j) (hD : ∀ (j : Nat) (o : Oper), ops[j]? = some o → D j → ∀ e ∈ o.after.toList, bindsAny e = true → D e.on) :
    ∀ j i, j < ops.length → ((aheads ops).getD j 0).testBit i = true → D j → D i := by
  intro j
  induction j using Nat.strongRecOn with
  | _ j ih =>
    intro i hj hb hd
    have ho : ops[j]? = some ops[j] := List.getElem?_eq_getElem hj
    rw [aheads_get ops j _ ho] at hb
    obtain ⟨e, he, hbd, h⟩ := ahead_spec _ _ _ hb
    have hlt := hback j _ ho e he hbd
    have hde := hD j _ ho hd e he hbd
    rcases h with h | h
    · rw [h]; exact hde
    · rw [aheads_take ops j e.on hlt] at h
      exact ih e.on hlt i (by omega) h hde

theorem foldl_or_zero : ∀ (l : List (Nat × Nat)) (s : Nat), l.foldl (fun s m => s ||| m.2) s = 0 → s = 0 ∧ ∀ m ∈ l, m.2 = 0
  | [], s, h => ⟨h, by simp⟩
  | m :: l, s, h => by
    rw [List.foldl_cons] at h
    obtain ⟨h1, h2⟩ := foldl_or_zero l _ h
    have hs : s = 0 ∧ m.2 = 0 := Nat.or_eq_zero_iff.1 h1
    exact ⟨hs.1, by intro m' hm'; rcases List.mem_cons.1 hm' with rfl | hm'; exact hs.2; exact h2 m' hm'⟩

theorem land_zero {a b : Nat} (h : Nat.beq (a &&& b) 0 = true) (x : Nat) : ¬ (a.testBit x = true ∧ b.testBit x = true) := by
  intro ⟨h1, h2⟩
  have h0 : a &&& b = 0 := Nat.eq_of_beq_eq_true h
  have : (a &&& b).testBit x = true := by rw [Nat.testBit_and, h1, h2]; rfl
  rw [h0] at this
  simp at this

/-- Two operations that no edge orders don't meet. -/
theorem masks_apart {ops : List Oper} {ms : List (Nat × Nat)} (h : okMasks ops ms = true) {i j : Nat} (hij : i < j) (hj : j < ops.length) :
    ((aheads ops).getD j 0).testBit i = true ∨ ∀ x, ¬ ((ms.getD i (0, 0)).2.testBit x = true ∧ ((ms.getD j (0, 0)).1.testBit x = true ∨ (ms.getD j (0, 0)).2.testBit x = true)) ∧
      ¬ ((ms.getD i (0, 0)).1.testBit x = true ∧ (ms.getD j (0, 0)).2.testBit x = true) := by
  unfold okMasks at h
  rw [Bool.or_eq_true] at h
  rcases h with h | h
  · obtain ⟨_, h0⟩ := foldl_or_zero ms 0 (Nat.eq_of_beq_eq_true h)
    have hz : ∀ q, (ms.getD q (0, 0)).2 = 0 := by
      intro q
      simp only [List.getD]
      cases hq : ms[q]? with
      | none => rfl
      | some m => exact h0 m (List.mem_of_getElem? hq)
    right
    intro x
    rw [hz i, hz j]
    simp
  · simp only [List.all_eq_true, List.mem_range] at h
    have := h j hj i (by omega)
    unfold okPair at this
    rw [Bool.or_eq_true, Bool.or_eq_true] at this
    rcases this with (this | this) | this
    · rw [ble_iff, decide_eq_true_eq] at this; omega
    · exact .inl this
    · right
      intro x
      unfold apartM at this
      rw [Bool.and_eq_true] at this
      have h1 := land_zero this.1 x
      have h2 := land_zero this.2 x
      refine ⟨fun ⟨a, b⟩ => h1 ⟨a, ?_⟩, fun ⟨a, b⟩ => h2 ⟨a, b⟩⟩
      rw [Nat.testBit_or, Bool.or_eq_true]
      exact b

theorem regOk_fills {ops : List Oper} (h : regOk ops = true) (m : Region.Mode) : fills m ops = true := by
  unfold regOk at h
  simp only [Bool.and_eq_true] at h
  cases m
  · exact h.1.2.1
  · exact h.1.2.2
  · exact h.1.1

theorem regOk_at {ops : List Oper} (h : regOk ops = true) {j : Nat} {o : Oper} (ho : ops[j]? = some o) :
    (∀ e ∈ o.after.toList, bindsAny e = true → e.on < j) ∧ ∀ i o', i < j → ops[i]? = some o' → ((aheads ops).getD j 0).testBit i = true ∨ tmpApart ops o' o = true := by
  unfold regOk at h
  rw [Bool.and_eq_true] at h
  have h := h.2
  simp only [List.all_eq_true, List.mem_range] at h
  have hj : j < ops.length := by rw [List.getElem?_eq_some_iff] at ho; exact ho.1
  have := h j hj
  rw [ho] at this
  simp only [Bool.and_eq_true, List.all_eq_true, List.mem_range] at this
  refine ⟨fun e he hb => ?_, fun i o' hi ho' => ?_⟩
  · have := this.1 e he
    rw [hb, blt_iff] at this
    simpa using this
  · have := this.2 i hi
    rw [ho'] at this
    simpa using this

/-- Whoever has no more that can be listed has all. -/
theorem fillStep_inv {m : Region.Mode} {ops : List Oper} {D : Nat → Prop} (hD : ∀ (i : Nat) (o : Oper), ops[i]? = some o → (∀ e ∈ o.after.toList, Region.binds m e = true → D e.on) → D i) {s : Nat} (hs : ∀ j, s.testBit j = true → D j) :
    ∀ j, (fillStep m ops s).testBit j = true → D j := by
  have key : ∀ (l : List Oper) (i s : Nat), (∀ (k : Nat) (o : Oper), l[k]? = some o → ops[i + k]? = some o) → (∀ j, s.testBit j = true → D j) →
      ∀ j, ((l.foldl (fun (p : Nat × Nat) o => (p.1 + 1, bif o.after.toList.all (fun e => !Region.binds m e || p.2.testBit e.on) then p.2 ||| (1 <<< p.1) else p.2)) (i, s)).2).testBit j = true → D j := by
    intro l
    induction l with
    | nil => intro i s _ h; exact h
    | cons o l ih =>
      intro i s hl h
      rw [List.foldl_cons]
      refine ih (i + 1) _ (fun k o' hk => by have := hl (k + 1) o' (by simpa using hk); rwa [show i + 1 + k = i + (k + 1) from by omega]) ?_
      show ∀ j, (bif o.after.toList.all (fun e => !Region.binds m e || s.testBit e.on) then s ||| (1 <<< i) else s).testBit j = true → D j
      cases hc : o.after.toList.all (fun e => !Region.binds m e || s.testBit e.on) with
      | false => exact h
      | true =>
        intro j hj
        rw [cond_true] at hj
        have := bit_test s i j
        unfold bit at this
        rw [this, Bool.or_eq_true] at hj
        rcases hj with hj | hj
        · exact h j hj
        · have e : j = i := by simpa using hj
          subst e
          refine hD j o (by have := hl 0 o (by simp); simpa using this) fun e he hb => h _ ?_
          have := List.all_eq_true.1 hc e he
          rw [hb] at this
          simpa using this
  exact key ops 0 s (fun k o hk => by simpa using hk) hs

theorem fills_inv {m : Region.Mode} {ops : List Oper} (hf : fills m ops = true) {D : Nat → Prop} (hD : ∀ (i : Nat) (o : Oper), ops[i]? = some o → (∀ e ∈ o.after.toList, Region.binds m e = true → D e.on) → D i) :
    ∀ j, j < ops.length → D j := by
  intro j hj
  unfold fills at hf
  have := List.all_eq_true.1 hf j (List.mem_range.2 hj)
  exact fillStep_inv hD (fillStep_inv hD (fillStep_inv hD (fun j h => by simp at h))) j this

theorem tmpApart_spec {ops : List Oper} {x y : Oper} (h : tmpApart ops x y = true) :
    (∀ d, x.dst = some d → d ∉ looks ops y) ∧ (∀ d, x.dst = some d → y.dst ≠ some d) ∧ (∀ d, y.dst = some d → d ∉ looks ops x) := by
  refine ⟨fun d hd => ?_, fun d hd => ?_, fun d hd => ?_⟩ <;> simp [tmpApart, hd] at h
  · exact h.1.1
  · exact h.1.2
  · exact h.2
end Go.Ev
