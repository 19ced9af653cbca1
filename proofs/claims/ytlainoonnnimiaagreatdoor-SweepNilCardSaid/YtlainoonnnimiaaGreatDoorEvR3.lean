/- THE ABSTRACT MACHINE AND THE MODEL: every order of a region comes to what the text's order comes to. Own work. -/
import Derived.Test.YtlainoonnnimiaaGreatDoorEvR2
set_option linter.all false
set_option linter.unusedVariables false
set_option linter.constructorNameAsVariable false
set_option linter.unnecessarySimpa false
set_option linter.unusedSimpArgs false
set_option linter.unusedSimpArgs false
set_option linter.unusedVariables false
namespace Go.Ev

theorem filter_lt {α : Type} {p q : α → Bool} : ∀ {l : List α} {x : α}, (∀ y, q y = true → p y = true) → x ∈ l → p x = true → q x = false → (l.filter q).length < (l.filter p).length
  | [], x, _, hx, _, _ => by cases hx
  | a :: l, x, h, hx, hp, hq => by
    have hle : ∀ l : List α, (l.filter q).length ≤ (l.filter p).length := by
      intro l
      induction l with
      | nil => exact Nat.le_refl _
      | cons b l ih =>
        rw [List.filter_cons, List.filter_cons]
        cases hb : q b with
        | true => rw [h b hb]; simp only [if_true, List.length_cons]; omega
        | false => simp only [Bool.false_eq_true, if_false]; split <;> (try simp only [List.length_cons]) <;> omega
    rw [List.filter_cons, List.filter_cons]
    rcases List.mem_cons.1 hx with rfl | hx
    · rw [hp, hq]
      simp only [if_true, Bool.false_eq_true, if_false, List.length_cons]
      have := hle l
      omega
    · have ih := filter_lt h hx hp hq
      cases hb : q a with
      | true => rw [h a hb]; simp only [if_true, List.length_cons]; omega
      | false => simp only [Bool.false_eq_true, if_false]; split <;> (try simp only [List.length_cons]) <;> omega

noncomputable def restr (tm : Tr V) : List Nat → Tr V
  | [] => .l
  | t :: l => match tm.get t with | some v => (restr tm l).set v t | none => restr tm l

theorem restr_get (tm : Tr V) : ∀ (l : List Nat) (t : Nat), (restr tm l).get t = if t ∈ l then tm.get t else none
  | [], t => by simp [restr, Tr.get_l]
  | a :: l, t => by
    unfold restr
    by_cases h : t = a
    · subst h
      cases ht : tm.get t with
      | none => simp only [restr_get tm l t, ht, ite_self]
      | some v => simp [Tr.get_set]
    · have hm : (t ∈ a :: l) = (t ∈ l) := by simp [h]
      cases ha : tm.get a with
      | none => simp only [restr_get tm l t, hm]
      | some v => simp only [Tr.get_set, if_neg h, restr_get tm l t, hm]

theorem getD_set (a : Array Bool) (i j : Nat) (d : Bool) (hi : i < a.size) : (a.setIfInBounds i true).getD j d = if j = i then true else a.getD j d := by
  simp only [Array.getD_eq_getD_getElem?, Array.getElem?_setIfInBounds]
  by_cases h : i = j
  · subst h; simp [hi]
  · rw [if_neg h, if_neg (Ne.symm h)]

section
variable {P : Program} {T : Tab} {ih : Go} {ops : Array Oper} {nt : Nat} {m : Region.Mode}

structure Inv (X : Text T ih ops.toList nt) (listed : Array Bool) (ι : Ren) (h : Tr Blk) (w : World) (tmps : Array Value) : Prop where
  size : listed.size = ops.size
  closed : ∀ (j : Nat) (o : Oper), ops.toList[j]? = some o → listed.getD j true = true → ∀ e ∈ o.after.toList, bindsAny e = true → listed.getD e.on false = true
  heap : ∀ k, k ≤ ops.size → ∀ b, (∀ i, i < ops.size → X.wr i b → (listed.getD i true = true ↔ i < k)) → h.get b = (X.hS k).get b
  tmp : ∀ k, k ≤ ops.size → ∀ t, (∀ (i : Nat) (o : Oper), ops.toList[i]? = some o → o.dst = some t → (listed.getD i true = true ↔ i < k)) → ∀ v, (X.tmS k).get t = some v → VR ι v (tmps.getD t undef)
  fresh : ∀ i, i < ops.size → listed.getD i true = false → ∀ b, X.cS i ≤ b → b < (X.oS i).c → ι b = none ∧ h.get b = none
  sim : Sim ι h w
  tsz : tmps.size = nt
  glob : Glob T.ng ι

def unl (n : Nat) (listed : Array Bool) : List Nat := (List.range n).filter fun i => !listed.getD i true

theorem getD_tf {listed : Array Bool} {i : Nat} (hi : i < listed.size) : listed.getD i true = listed.getD i false := by
  simp only [Array.getD_eq_getD_getElem?, Array.getElem?_eq_getElem hi, Option.getD_some]

theorem all_listed {listed : Array Bool} (hs : listed.size = ops.size) (hf : fills m ops.toList = true) (hr : Region.ready m ops listed = []) :
    ∀ j, j < ops.size → listed.getD j true = true := by
  have := fills_inv hf (D := fun j => listed.getD j false = true) fun i o ho hall => by
    have hi : i < ops.size := by rw [List.getElem?_eq_some_iff] at ho; have := ho.1; simpa using this
    cases hl : listed.getD i true with
    | true => rw [← getD_tf (by omega)]; exact hl
    | false =>
      have : i ∈ Region.ready m ops listed := by
        unfold Region.ready
        rw [List.mem_filter, List.mem_range]
        refine ⟨hi, ?_⟩
        rw [Array.getElem?_toList] at ho
        rw [hl, ho]
        simp only [Bool.not_false, Bool.true_and, Option.map_some, Option.getD_some, Array.all_eq_true_iff_forall_mem]
        intro e he
        cases hb : Region.binds m e with
        | false => rfl
        | true => rw [hall e (Array.mem_toList_iff.2 he) hb]; rfl
      rw [hr] at this
      cases this
  intro j hj
  rw [getD_tf (by omega)]
  exact this j (by simpa using hj)

theorem step_inv (X : Text T ih ops.toList nt) (hreg : regOk ops.toList = true) {fr : Frame} {k : List Item} {crs : List Frame} (step : OpStep P T ih ops nt fr k crs)
    {listed : Array Bool} {ι : Ren} {h : Tr Blk} {w : World} {tmps : Array Value} (I : Inv X listed ι h w tmps) {i : Nat} (hi : i ∈ Region.ready m ops listed) (rest : List Nat) :
    ∃ ι' h' w' tmps', Steps P (lone (atReg fr tmps ops (i :: rest) k) crs w) (lone (atReg fr tmps' ops rest k) crs w') ∧ Inv X (listed.setIfInBounds i true) ι' h' w' tmps' ∧
      Way ι h (X.cS i) 0 w ι' h' (X.oS i).c (X.oS i).w w' := by
  have hback : ∀ (j : Nat) (o : Oper), ops.toList[j]? = some o → ∀ e ∈ o.after.toList, bindsAny e = true → e.on < j := fun j o ho e he => (regOk_at hreg ho).1 e he
  unfold Region.ready at hi
  rw [List.mem_filter, List.mem_range] at hi
  obtain ⟨hin, hi⟩ := hi
  have ho : ops[i]? = some ops[i] := Array.getElem?_eq_getElem hin
  rw [ho] at hi
  generalize hoo : ops[i] = o at ho hi
  simp only [Option.map_some, Option.getD_some, Bool.and_eq_true, Bool.not_eq_true', Array.all_eq_true_iff_forall_mem, Bool.or_eq_true] at hi
  obtain ⟨hnl, haft⟩ := hi
  have hol : ops.toList[i]? = some o := by rw [Array.getElem?_toList]; exact ho
  have haft' : ∀ e ∈ o.after.toList, bindsAny e = true → listed.getD e.on false = true := by
    intro e he hbd
    rcases haft e (Array.mem_toList_iff.1 he) with h | h
    · have := binds_of m e hbd
      rw [this] at h; cases h
    · exact h
  have hlen : ops.toList.length = ops.size := by simp
  have tf : ∀ {q}, q < ops.size → listed.getD q true = listed.getD q false := fun hq => getD_tf (by rw [I.size]; exact hq)
  have cl1 : ∀ j q, j < ops.size → ((aheads ops.toList).getD j 0).testBit q = true → listed.getD j true = true → listed.getD q true = true := by
    intro j q hj hb hd
    refine aheads_closed (ops := ops.toList) (D := fun x => listed.getD x true = true) hback (fun j o ho hd e he hbd => ?_) j q (by omega) hb hd
    have := I.closed j o ho hd e he hbd
    have hlt := hback j o ho e he hbd
    have hjn : j < ops.size := by rw [List.getElem?_eq_some_iff] at ho; have := ho.1; omega
    show listed.getD e.on true = true
    rw [tf (by omega)]; exact this
  have cl2 : ∀ q, q < i → ((aheads ops.toList).getD i 0).testBit q = true → listed.getD q true = true := by
    intro q hq hb
    have := aheads_closed (ops := ops.toList) (D := fun x => listed.getD x true = true ∨ x = i) hback (fun j o' ho' hd e he hbd => ?_) i q (by omega) hb (.inr rfl)
    · rcases this with h | h
      · exact h
      · omega
    · have hlt := hback j o' ho' e he hbd
      have hjn : j < ops.size := by rw [List.getElem?_eq_some_iff] at ho'; have := ho'.1; omega
      rcases hd with hd | hd
      · left
        rw [tf (by omega)]; exact I.closed j o' ho' hd e he hbd
      · subst hd
        rw [hol] at ho'; cases ho'
        left
        rw [tf (by omega)]; exact haft' e he hbd
  -- what it touches is as in the text
  have touch : ∀ b, (X.rd i b ∨ X.wr i b) → h.get b = (X.hS i).get b := by
    intro b hb
    refine I.heap i (by omega) b fun q hq hw => ?_
    rcases Nat.lt_trichotomy q i with hlt | heq | hgt
    · refine ⟨fun _ => hlt, fun _ => ?_⟩
      cases ha : ((aheads ops.toList).getD i 0).testBit q with
      | true => exact cl2 q hlt ha
      | false => exact absurd ⟨hw, hb⟩ (X.apart hlt hin ha b).1
    · subst heq
      rw [hnl]; simp
    · refine ⟨fun hd => ?_, fun h => by omega⟩
      cases ha : ((aheads ops.toList).getD q 0).testBit i with
      | true => rw [cl1 q i hq ha hd] at hnl; cases hnl
      | false =>
        obtain ⟨a1, a2⟩ := X.apart hgt hq ha b
        rcases hb with hb | hb
        · exact absurd ⟨hb, hw⟩ a2
        · exact absurd ⟨hb, .inr hw⟩ a1
  have hrun := X.run_ i o hol
  obtain ⟨o2, r1, r2, r3, r4, r5, r6⟩ := run_local _ h hrun (fun b hb => touch b (by
    rcases hb with hb | hb
    · exact .inl hb
    · exact .inr (.inl hb)))
  have hcong : opM T ih ops.toList (X.tmS i) o = opM T ih ops.toList (restr (X.tmS i) (looks ops.toList o)) o := opM_congr T ih fun t ht => by rw [restr_get, if_pos ht]
  rw [hcong] at r1
  have htm : TmR ι (restr (X.tmS i) (looks ops.toList o)) tmps := by
    intro t v hv
    rw [restr_get] at hv
    split at hv
    · rename_i hl
      refine I.tmp i (by omega) t (fun q o' hq hd => ?_) v hv
      have hqn : q < ops.size := by rw [List.getElem?_eq_some_iff] at hq; have := hq.1; omega
      rcases Nat.lt_trichotomy q i with hlt | heq | hgt
      · refine ⟨fun _ => hlt, fun _ => ?_⟩
        rcases (regOk_at hreg hol).2 q o' hlt hq with ha | ha
        · exact cl2 q hlt ha
        · exact absurd hl ((tmpApart_spec ha).1 t hd)
      · subst heq; rw [hnl]; simp
      · refine ⟨fun hdd => ?_, fun h => by omega⟩
        rcases (regOk_at hreg hq).2 i o hgt hol with ha | ha
        · rw [cl1 q i hqn ha hdd] at hnl; cases hnl
        · exact absurd hl ((tmpApart_spec ha).2.2 t hd)
    · cases hv
  have hfresh : Fresh ι h (X.cS i) o2 := fun b h1 h2 => I.fresh i hin hnl b h1 (by rw [← r3]; exact h2)
  obtain ⟨v', ι', w', s1, s2, s3⟩ := step i o rest tmps _ ι h (X.cS i) w o2 ho r1 I.sim I.glob hfresh htm I.tsz
  rw [finish_atReg fr tmps ops i rest k v' ho] at s1
  have hD : ∀ q d, (listed.setIfInBounds i true).getD q d = if q = i then true else listed.getD q d := fun q d => getD_set listed i q d (by rw [I.size]; exact hin)
  have hci : (X.oS i).c = X.cS (i + 1) := (X.c_ i (by omega)).symm
  have s3' : Way ι h (X.cS i) 0 w ι' o2.h (X.oS i).c (X.oS i).w w' := by rw [← r3, ← r5]; exact s3
  refine ⟨ι', o2.h, w', putA o.dst v' tmps, s1, ?_, s3'⟩
  refine ⟨by simp [I.size], fun j o' hj hd e he hbd => ?_, fun q hq b hb => ?_, fun q hq t ht v hv => ?_, fun q hq hqd b h1 h2 => ?_, s3.sim, by rw [putA_size]; exact I.tsz, I.glob.le s3.le⟩
  · rw [hD]
    split
    · rfl
    · rw [hD] at hd
      split at hd
      · rename_i hji
        subst hji
        rw [hol] at hj; cases hj
        exact haft' e he hbd
      · exact I.closed j o' hj hd e he hbd
  · -- the heap
    by_cases hw : X.wr i b
    · have hik : i < q := (hb i hin hw).1 (by rw [hD, if_pos rfl])
      have e1 : o2.h.get b = (X.oS i).h.get b := r6 b (by
        rcases hw with hw | hw
        · exact .inr (.inl hw)
        · exact .inr (.inr hw))
      rw [e1, ← X.h_ i (by omega)]
      refine (X.keep (by omega) hq fun j h1 h2 hwj => ?_).symm
      have hjd := (hb j (by omega) hwj).2 h2
      rw [hD, if_neg (by omega)] at hjd
      cases ha : ((aheads ops.toList).getD j 0).testBit i with
      | true => rw [cl1 j i (by omega) ha hjd] at hnl; cases hnl
      | false => exact (X.apart (by omega) (by omega) ha b).1 ⟨hw, .inr hwj⟩
    · have hw' := hw
      unfold Text.wr at hw'
      rw [not_or] at hw'
      have e1 : o2.h.get b = h.get b := run_frame _ r1 b (by rw [r5]; simpa using hw'.1) (by rw [r3]; exact hw'.2)
      rw [e1]
      refine I.heap q hq b fun j hj hwj => ?_
      have hji : j ≠ i := by intro e; rw [e] at hwj; exact hw hwj
      have := hb j hj hwj
      rw [hD, if_neg hji] at this
      exact this
  · -- the temporaries
    by_cases hd : o.dst = some t
    · have hik : i < q := (ht i o hol hd).1 (by rw [hD, if_pos rfl])
      have e1 : (X.tmS q).get t = (X.tmS (i + 1)).get t := by
        refine X.keepT (by omega) hq fun j o' hj h1 h2 hdj => ?_
        have hjn : j < ops.size := by omega
        have hjd := (ht j o' hj hdj).2 h2
        rw [hD, if_neg (by omega)] at hjd
        rcases (regOk_at hreg hj).2 i o (by omega) hol with ha | ha
        · rw [cl1 j i hjn ha hjd] at hnl; cases hnl
        · exact (tmpApart_spec ha).2.1 t hd hdj
      rw [e1, X.t_ i o hol, hd] at hv
      simp only [putT, Tr.get_set, if_true] at hv
      cases hv
      have hlt : t < tmps.size := by rw [I.tsz]; exact X.d_ i o hol t hd
      have e2 : (putA o.dst v' tmps).getD t undef = v' := by
        rw [hd]
        simp [putA, Array.getD_eq_getD_getElem?, Array.getElem?_setIfInBounds, hlt]
      rw [e2, ← r2]
      exact s2
    · have e2 : (putA o.dst v' tmps).getD t undef = tmps.getD t undef := by
        cases hdd : o.dst with
        | none => rfl
        | some d =>
          have : d ≠ t := by intro e; exact hd (by rw [hdd, e])
          simp [putA, Array.getD_eq_getD_getElem?, Array.getElem?_setIfInBounds, this]
      rw [e2]
      refine VR.le s3.le _ _ (I.tmp q hq t (fun j o' hj hdj => ?_) v hv)
      have hji : j ≠ i := by intro e; subst e; rw [hol] at hj; cases hj; exact hd hdj
      have := ht j o' hj hdj
      rw [hD, if_neg hji] at this
      exact this
  · -- names to come
    rw [hD] at hqd
    split at hqd
    · cases hqd
    · rename_i hqi
      obtain ⟨f1, f2⟩ := I.fresh q hq hqd b h1 h2
      have hcq : (X.oS q).c = X.cS (q + 1) := (X.c_ q (by omega)).symm
      have hout : b < X.cS i ∨ (X.oS i).c ≤ b := by
        rcases Nat.lt_or_ge q i with hlt | hge
        · have := X.mono (q + 1) i (by omega) (by omega)
          left; omega
        · have := X.mono (i + 1) q (by omega) (by omega)
          right; omega
      constructor
      · cases e : ι' b with
        | none => rfl
        | some L =>
          have := s3'.new b f1 (by rw [e]; simp)
          omega
      · rcases hout with hlt | hge
        · cases hw : (X.oS i).w.testBit b with
          | true =>
            have hqlt : q < i := by
              rcases Nat.lt_or_ge q i with h' | h'
              · exact h'
              · have := X.mono i q h' (by omega); omega
            cases ha : ((aheads ops.toList).getD i 0).testBit q with
            | true => rw [cl2 q hqlt ha] at hqd; cases hqd
            | false => exact absurd ⟨.inr ⟨h1, h2⟩, .inr (.inl hw)⟩ (X.apart hqlt hin ha b).1
          | false =>
            rw [run_frame _ r1 b (by rw [r5]; exact hw) (by rw [r3]; omega)]
            exact f2
        · exact s3'.hnew b hge f2

theorem order_ok (X : Text T ih ops.toList nt) (hreg : regOk ops.toList = true) {fr : Frame} {k : List Item} {crs : List Frame} (step : OpStep P T ih ops nt fr k crs) {W0 Wn : Nat}
    (hW : ∀ j, j < ops.size → ∀ b, (X.oS j).w.testBit b = true → Wn.testBit b = true) (hW0 : ∀ b, W0.testBit b = true → Wn.testBit b = true) :
    ∀ (fuel t : Nat) (listed : Array Bool) (ι : Ren) (h : Tr Blk) (w : World) (tmps : Array Value), Inv X listed ι h w tmps → (unl ops.size listed).length ≤ fuel →
      ∃ ι' h' w' tmps', Steps P (lone (atReg fr tmps ops (Region.linearise.go m ops fuel t listed []) k) crs w) (lone (atReg fr tmps' ops [] k) crs w') ∧
        Way ι h (X.cS 0) W0 w ι' h' (X.cS ops.size) Wn w' ∧ (∀ b, h'.get b = (X.hS ops.size).get b) ∧ TmR ι' (X.tmS ops.size) tmps' ∧ tmps'.size = nt := by
  have fin : ∀ (listed : Array Bool) (ι : Ren) (h : Tr Blk) (w : World) (tmps : Array Value), Inv X listed ι h w tmps → (∀ j, j < ops.size → listed.getD j true = true) →
      ∃ ι' h' w' tmps', Steps P (lone (atReg fr tmps ops [] k) crs w) (lone (atReg fr tmps' ops [] k) crs w') ∧
        Way ι h (X.cS 0) W0 w ι' h' (X.cS ops.size) Wn w' ∧ (∀ b, h'.get b = (X.hS ops.size).get b) ∧ TmR ι' (X.tmS ops.size) tmps' ∧ tmps'.size = nt := by
    intro listed ι h w tmps I hall
    refine ⟨ι, h, w, tmps, .refl _ _, Way.widen (Way.refl (c := X.cS 0) (W := W0) I.sim) (Nat.le_refl _) (X.mono 0 _ (Nat.zero_le _) (Nat.le_refl _)) hW0 hW0, fun b => ?_, fun t v hv => ?_, I.tsz⟩
    · exact I.heap _ (Nat.le_refl _) b fun i hi _ => ⟨fun _ => hi, fun _ => hall i hi⟩
    · refine I.tmp _ (Nat.le_refl _) t (fun i o hi _ => ?_) v hv
      have hin : i < ops.size := by rw [List.getElem?_eq_some_iff] at hi; have := hi.1; simpa using this
      exact ⟨fun _ => hin, fun _ => hall i hin⟩
  intro fuel
  induction fuel with
  | zero =>
    intro t listed ι h w tmps I hu
    simp only [Region.linearise.go, List.reverse_nil]
    refine fin listed ι h w tmps I fun j hj => ?_
    cases hl : listed.getD j true with
    | true => rfl
    | false =>
      have : j ∈ unl ops.size listed := by unfold unl; rw [List.mem_filter, List.mem_range]; exact ⟨hj, by rw [hl]; rfl⟩
      rw [List.eq_nil_of_length_eq_zero (Nat.le_zero.1 hu)] at this
      cases this
  | succ fuel ihf =>
    intro t listed ι h w tmps I hu
    simp only [Region.linearise.go]
    change ∃ ι' h' w' tmps', Steps P (lone (atReg fr tmps ops (match (Region.ready m ops listed)[t % (Region.ready m ops listed).length]? with
      | some i => Region.linearise.go m ops fuel (t / (Region.ready m ops listed).length) (listed.setIfInBounds i true) [i]
      | none => [].reverse) k) crs w) _ ∧ _
    cases hi : (Region.ready m ops listed)[t % (Region.ready m ops listed).length]? with
    | none =>
      have hnil : Region.ready m ops listed = [] := by
        cases hr : Region.ready m ops listed with
        | nil => rfl
        | cons x xs =>
          rw [hr] at hi
          have hlt : t % (x :: xs).length < (x :: xs).length := Nat.mod_lt _ (by simp)
          rw [List.getElem?_eq_none_iff] at hi
          omega
      exact fin listed ι h w tmps I (all_listed I.size (regOk_fills hreg m) hnil)
    | some i =>
      simp only
      rw [linearise_go_acc, List.reverse_singleton, List.singleton_append]
      have hmem := List.mem_of_getElem? hi
      obtain ⟨ι1, h1, w1, tmps1, g1, g2, g3⟩ := step_inv X hreg step I hmem (Region.linearise.go m ops fuel (t / (Region.ready m ops listed).length) (listed.setIfInBounds i true) [])
      have hmem' := hmem
      unfold Region.ready at hmem'
      rw [List.mem_filter, List.mem_range] at hmem'
      obtain ⟨hin, hm2⟩ := hmem'
      have hnl : listed.getD i true = false := by
        cases hl : listed.getD i true with
        | false => rfl
        | true => rw [hl] at hm2; simp at hm2
      have hlt : (unl ops.size (listed.setIfInBounds i true)).length < (unl ops.size listed).length := by
        unfold unl
        refine filter_lt (x := i) (fun y hy => ?_) (List.mem_range.2 hin) (by rw [hnl]; rfl) ?_
        · rw [getD_set listed i y true (by rw [I.size]; exact hin)] at hy
          split at hy
          · simp at hy
          · exact hy
        · rw [getD_set listed i i true (by rw [I.size]; exact hin), if_pos rfl]; rfl
      obtain ⟨ι2, h2, w2, tmps2, k1, k2, k3, k4, k5⟩ := ihf (t / (Region.ready m ops listed).length) (listed.setIfInBounds i true) ι1 h1 w1 tmps1 g2 (by omega)
      have hlen : ops.toList.length = ops.size := by simp
      have hci : (X.oS i).c = X.cS (i + 1) := (X.c_ i (by omega)).symm
      have hm1 := X.mono 0 i (Nat.zero_le _) (by omega)
      have hm2 := X.mono (i + 1) ops.size (by omega) (Nat.le_refl _)
      exact ⟨ι2, h2, w2, tmps2, g1.trans k1, (g3.widen hm1 (by omega) (hW i hin) hW0).comp k2, k3, k4, k5⟩
end
end Go.Ev
