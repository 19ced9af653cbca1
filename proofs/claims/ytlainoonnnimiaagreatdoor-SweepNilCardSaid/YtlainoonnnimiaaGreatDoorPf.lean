/- SweepNil returns true for every byte n, whatever the memory: the given row, and its card. Conditions: the row's own (its three tables read as listed). -/
import Derived.Test.YtlainoonnnimiaaGreatDoorNr
import Derived.Test.YtlainoonnnimiaaGreatDoorRows
import Derived.Test.YtlainoonnnimiaaGreatDoorTie
import Derived.Test.YtlainoonnnimiaaGreatDoorCards
import Derived.SevenTiedAt
import Derived.ChangeSame
set_option linter.all false
set_option linter.unusedVariables false
set_option linter.constructorNameAsVariable false
set_option linter.unnecessarySimpa false
set_option linter.unusedSimpArgs false
namespace Go.Proofs.YtlainoonnnimiaaGreatDoor
open Go Go.Ev Go.ChangeShapes Go.WideShapes Go.ChangeAt Go.RowKit

theorem post_below {H : Type} {enc : TypeId × Value → H} {P : Program} {f : Func} {s : ChangeSpec} {apart fresh handsOn again : Bool} {W W' : World} {args : Array Value} {v : Value} {ds gs : List (DataW H)} {before pa pv : List MemPlace}
    (hW : DataW.Whole enc P f.params.toList s.vars apart W args.toList ds gs before)
    (hres : ∀ (b : Nat) (sp : Nat → Bool) (hd : Bool), DataW.TrodAll enc P W' b sp hd f.resultTypes.toList (v.resultList f.resultTypes.size) (s.fn H (ds ++ gs)).results [])
    (hargs : ∀ sp : Nat → Bool, (∀ p ∈ before, sp p.block = true) → DataW.TrodAll enc P W' 0 sp true f.params.toList args.toList (s.fn H (ds ++ gs)).args pa)
    (hvars : ∀ sp : Nat → Bool, (∀ p ∈ before, sp p.block = true) → DataW.TrodVars enc P W' sp s.vars (s.fn H (ds ++ gs)).vars pv)
    (hps : before = pa ++ pv) (hb : Below W.heap.size W W')
    (hok : ∀ (j : Nat) (t : TypeId) (r : Value), f.resultTypes[j]? = some t → (v.resultList f.resultTypes.size)[j]? = some r → Value.okWide P W' .any 0 t r) :
    s.post enc P f apart fresh handsOn again W args v W' := by
  have hlt : ∀ p ∈ before, p.block < W.heap.size := fun p hp => hW.lt p hp
  have hold : ∀ p ∈ before, (fun b => decide (b < W.heap.size)) p.block = true := fun p hp => by simpa using hlt p hp
  refine ⟨ds, gs, before, [], pa, pv, hW, hres _ _ _, hargs _ hold, hvars _ hold, World.keptBut_mono (fun p hp => ⟨hp, ?_⟩) (hb.frame (· ∈ before)), fun _ => ?_⟩
  · rw [hps, List.mem_append] at hp
    exact Or.inr hp
  · obtain ⟨_, _, _, _, _, hz, hn⟩ := hW
    refine ⟨hok, _, _, ([] ++ pa) ++ pv, ⟨[] ++ pa, pv, trodAll_append (hargs _ (fun _ _ => rfl)) (hres _ _ _), hvars _ (fun _ _ => rfl), rfl, ?_, ?_⟩, ?_⟩
    · intro b off hp
      have hin : MemPlace.cell b off ∈ before := by rw [hps]; simpa using hp
      rw [hb.frozen (hlt _ hin)]
      exact hz b off hin
    · intro ha
      have := hn ha
      rw [hps] at this
      simpa using this
    · intro p hp _
      rw [hps]
      simpa using hp

theorem own : ownKnob Tryz.prog.godebug = none := by kernel_rfl
theorem gF : Tryz.prog.globalNamed "interleaf/stamp.first" = some 0 := by kernel_rfl
theorem gP : Tryz.prog.globalNamed "interleaf/stamp.parts" = some 1 := by kernel_rfl
theorem gL : Tryz.prog.globalNamed "interleaf/check.lines" = some 3 := by kernel_rfl

theorem var_heap {P : Program} {w : World} {n : String} {g : Nat} {cs : Array Value} (hg : P.globalNamed n = some g) (h : w.var? P n = some cs) : ∃ t fz, w.heap[g]? = some (.cells cs t fz) := by
  simp only [World.var?, hg, Option.bind_some] at h
  split at h
  · rename_i c t fz e; cases h; exact ⟨t, fz, e⟩
  · cases h


theorem tF : (Tryz.prog.globals[0]?).map (·.type) = some 252 := by kernel_rfl
theorem tP : (Tryz.prog.globals[1]?).map (·.type) = some 295 := by kernel_rfl
theorem tL : (Tryz.prog.globals[3]?).map (·.type) = some 318 := by kernel_rfl
noncomputable def nsOf (l : List V) : List Int := l.map fun v => match v with | .i _ n => n | _ => 0
theorem dF : (Rows.laid_interleaf_stamp_first : DataW Unit) = .agg ((nsOf gl0).map fun x => .lit (.int .u32 x)) := by kernel_rfl
theorem dP : (Rows.laid_interleaf_stamp_parts : DataW Unit) = .agg ((nsOf gl1).map fun x => .lit (.int .u32 x)) := by kernel_rfl
theorem dL : (Rows.laid_interleaf_check_lines : DataW Unit) = .agg ((nsOf gl3).map fun x => .lit (.int .u32 x)) := by kernel_rfl
theorem vF : gl0 = (nsOf gl0).map fun x => V.i .u32 x := by kernel_rfl
theorem vP : gl1 = (nsOf gl1).map fun x => V.i .u32 x := by kernel_rfl
theorem vL : gl3 = (nsOf gl3).map fun x => V.i .u32 x := by kernel_rfl

/-- One listed table of the world, as a block. -/
theorem one_table {W : World} {ps : List MemPlace} {n : String} {g t e k : Nat} {l : List V} {d : DataW Unit} {cs : Array Value} {fuel : Nat} {p : List MemPlace} (hg : Tryz.prog.globalNamed n = some g) (hk : k < 4) (hgk : g = k)
    (hv : W.var? Tryz.prog n = some cs) (hd : DataW.trod (fun _ => ()) Tryz.prog W 0 (fun _ => true) false fuel t cs.toList = some (d, p)) (hdd : d = .agg ((nsOf l).map fun x => .lit (.int .u32 x))) (hvl : l = (nsOf l).map fun x => V.i .u32 x)
    (ht : Tryz.prog.underlying t = some (.array l.length e)) (he : Tryz.prog.underlying e = some (.int .u32)) (hc : Tryz.prog.cellsOf e = 1) (hct : Tryz.prog.cellsOf t = l.length) (hl : 0 < l.length)
    (hps : ∀ q, q ∈ MemPlace.row ⟨g, 0, none⟩ cs.size → q ∈ ps)
    (hcell : ∀ b off, MemPlace.cell b off ∈ ps → (∃ c t, W.heap[b]? = some (.cells c t (0, 0))) ∧ ∀ u v, W.cell? ⟨b, off, none⟩ = some (.iface u v) → Value.okWide Tryz.prog W .any 0 u v) :
    ∃ t, k < W.heap.size ∧ ∃ L, globRen 4 W k = some L ∧ L.blk = k ∧ BR (globRen 4 W) W L (tabBlk t l) := by
  subst hgk
  rw [hdd] at hd
  have hcs := table_cells ht he hc hct hd
  have hlen : cs.size = l.length := by have := congrArg List.length hcs; simp [nsOf] at this; omega
  obtain ⟨t', fz, hh⟩ := var_heap hg hv
  obtain ⟨⟨c', t'', hh'⟩, _⟩ := hcell g 0 (hps _ (MemPlace.mem_row.2 ⟨0, by omega, rfl⟩))
  rw [hh] at hh'
  cases hh'
  have hlt : g < W.heap.size := by
    rcases Nat.lt_or_ge g W.heap.size with h | h
    · exact h
    · rw [Array.getElem?_eq_none h] at hh; cases hh
  refine ⟨t', hlt, ⟨g, 0, cs.size, 0⟩, by simp [globRen, hk, hh], rfl, ?_⟩
  have := glob_br (ng := 4) hh hcs
  rw [← hvl] at this
  have e2 : (nsOf l).length = l.length := by simp [nsOf]
  rw [e2] at this
  exact this

theorem of_laid {W : World} (h : laidMetH Tryz.prog Rows.sweepNilRow.laid W) : ∃ t0 t1 t2, Sim (globRen 4 W) (heap3 0 1 3 t0 t1 t2 gl0 gl1 gl3) W := by
  rw [MakeChecks.laidMetH_plain _ _ _ (by kernel_rfl)] at h
  obtain ⟨ps, ⟨gA, tA, csA, fA, pA, qA, hgA, htA, hvA, hdA, ⟨gB, tB, csB, fB, pB, qB, hgB, htB, hvB, hdB, ⟨gC, tC, csC, fC, pC, qC, hgC, htC, hvC, hdC, hq0, hqC⟩, hqB⟩, hqA⟩, _, hcell⟩ := h
  obtain rfl := Option.some.inj (gL.symm.trans hgA)
  obtain rfl := Option.some.inj (gP.symm.trans hgB)
  obtain rfl := Option.some.inj (gF.symm.trans hgC)
  obtain rfl := Option.some.inj (tL.symm.trans htA)
  obtain rfl := Option.some.inj (tP.symm.trans htB)
  obtain rfl := Option.some.inj (tF.symm.trans htC)
  obtain ⟨t2, s2, L2, a2, b2, d2⟩ := one_table (k := 3) gL (by decide) rfl hvA hdA dL vL Tryz.underlying318 Tryz.underlying241 (by kernel_rfl) (by kernel_rfl) (by decide +kernel) (fun q hq => by rw [hqA]; simp [hq]) hcell
  obtain ⟨t1, s1, L1, a1, b1, d1⟩ := one_table (k := 1) gP (by decide) rfl hvB hdB dP vP Tryz.underlying295 Tryz.underlying241 (by kernel_rfl) (by kernel_rfl) (by decide +kernel) (fun q hq => by rw [hqA, hqB]; simp [hq]) hcell
  obtain ⟨t0, s0, L0, a0, b0, d0⟩ := one_table (k := 0) gF (by decide) rfl hvC hdC dF vF Tryz.underlying252 Tryz.underlying241 (by kernel_rfl) (by kernel_rfl) (by decide +kernel) (fun q hq => by rw [hqA, hqB, hqC]; simp [hq]) hcell
  have hb : ∀ b x, (heap3 0 1 3 t0 t1 t2 gl0 gl1 gl3).get b = some x → ∃ L, globRen 4 W b = some L ∧ L.blk = b ∧ L.blk < W.heap.size ∧ BR (globRen 4 W) W L x := by
    intro b x hx
    rw [heap3_get] at hx
    split at hx
    · rename_i e; cases hx; subst e; exact ⟨L2, a2, b2, by omega, d2⟩
    · split at hx
      · rename_i e; cases hx; subst e; exact ⟨L1, a1, b1, by omega, d1⟩
      · split at hx
        · rename_i e; cases hx; subst e; exact ⟨L0, a0, b0, by omega, d0⟩
        · cases hx
  refine ⟨t0, t1, t2, fun b x hx => ?_, fun b₁ b₂ x₁ x₂ M k1 k2 _ _ k3 k4 => ?_⟩
  · obtain ⟨L, q1, q2, q3, q4⟩ := hb b x hx
    exact ⟨L, q1, q3, q4⟩
  · obtain ⟨M1, q1, q2, _⟩ := hb _ _ k1
    obtain ⟨M2, q3, q4, _⟩ := hb _ _ k2
    obtain ⟨M3, k5, k6⟩ := k4
    rw [k3] at q1; cases q1
    rw [k5] at q3; cases q3
    omega

theorem nil_calls {W : World} (n : Int) (h0 : 0 ≤ n) (h1 : n ≤ 255) (hL : laidMetH Tryz.prog Rows.sweepNilRow.laid W) :
    Calls Tryz.prog 4 #[.int .u8 n] W fun e w' => e = .returned (.bool true) ∧ Below W.heap.size W w' := by
  obtain ⟨t0, t1, t2, S⟩ := of_laid hL
  obtain ⟨q, hq, e1, e2⟩ := tellsM_some (nil_run t0 t1 t2)
  have F : Fresh (globRen 4 W) (heap3 0 1 3 t0 t1 t2 gl0 gl1 gl3) 4 q := fun b hb' _ => by
    refine ⟨by simp only [globRen]; rw [if_neg (by omega)], ?_⟩
    rw [heap3_get, if_neg (by omega), if_neg (by omega), if_neg (by omega)]
  have hW : ∀ b L, globRen 4 W b = some L → q.w.testBit b = false := by
    intro b L' hb'
    have hlt : b < 4 := by
      simp only [globRen] at hb'
      split at hb'
      · assumption
      · cases hb'
    have : (q.w &&& (2 ^ T2.ng - 1)).testBit b = false := by rw [e2]; simp
    rw [Nat.testBit_and, show T2.ng = 4 from rfl, Nat.testBit_two_pow_sub_one] at this
    simpa [hlt] using this
  refine (calls_go ok2 (fi := fi4) (by kernel_rfl) (by decide +kernel) hq S (globRen_glob 4 W) F (by simp only [VRL, and_true]; simp only [VR]; exact ⟨n, rfl, h0, h1, by omega⟩)).mono fun e w' h => ?_
  obtain ⟨v', ι', he, hv, p⟩ := h
  rw [e1] at hv
  simp only [VR] at hv
  exact ⟨by rw [he, hv], p.below hW⟩

/-- The door's own heap meets the condition. -/
theorem door_met (os : Os) (args : Array Value) : laidMetH Tryz.prog Rows.sweepNilRow.laid ((World.doorLaid Tryz.prog 24 os).forCall (fun _ _ => 0) ⟨#[], args, []⟩).memory :=
  laidMetH_of_parts3 (fuel := 8) (laidMet_of_run' 8 (by kernel_rfl) (by kernel_rfl)) (by kernel_rfl) (by kernel_rfl)

set_option maxRecDepth 100000 in
theorem lifted (os : Os) (started : os.Started) (H : Type) (enc : TypeId × Value → H) :
    ReturnsInHanded {} Tryz.checked os 4 .any (fun w args => (Rows.sweepNilSpec.pre enc Tryz.prog Tryz.f4 [] false w args ∧ laidMetH Tryz.prog Rows.sweepNilRow.laid w) ∧ sizedMet enc Tryz.prog Tryz.f4 (OpenSpec.ofChange Rows.sweepNilSpec) false w args)
      (Rows.sweepNilSpec.post enc Tryz.prog Tryz.f4 false true false false) := by
  refine returnsInHanded_of_change_and (C := Tryz.checked) (X := fun w _ => laidMetH Tryz.prog Rows.sweepNilRow.laid w) (fun _ _ _ hh h => h.of_heap hh) own started (by kernel_rfl) Tryz.func4
    (ChangeSpec.witness_shaped (enc := enc) (C := Tryz.checked) (os := os) (X := fun w _ => laidMetH Tryz.prog Rows.sweepNilRow.laid w) false (World.doorLaid Tryz.prog 24 os) #[.int .u8 0] 8 rfl (World.shaped_of_RefB (by kernel_rfl) (by kernel_rfl)) (by kernel_rfl) (by kernel_rfl) (by kernel_rfl) (door_met os _)) ?_
  intro W base args ds gs before hval0 hW _ _ hL _
  have hval : ∀ (j : Nat) t v, Tryz.f4.params[j]? = some t → args[j]? = some v → Value.okWide Tryz.prog W .any base t v := hval0
  have hW' := hW
  obtain ⟨p, q, hA0, hV, rfl, hfz, hnd⟩ := hW
  have hA : DataW.TrodAll enc Tryz.prog W 0 (fun _ => true) true Tryz.f4.params.toList args.toList ds p := hA0
  rw [Tryz.params4] at hA hval
  obtain ⟨v0, d0, rfl, rfl, h0⟩ := trodAll_one hA
  obtain ⟨rfl, rfl⟩ := trodVars_none hV
  obtain ⟨n, rfl, rfl, rfl, wn⟩ := open_int Tryz.underlying5 (hval 0 5 v0 rfl rfl) h0
  clear hA0 hval0
  simp only [List.append_nil] at hW'
  have hn : 0 ≤ n ∧ n ≤ 255 := by
    simp only [Lit.wf, Bool.and_eq_true, decide_eq_true_eq] at wn
    have e1 : IntKind.u8.min = 0 := by decide
    have e2 : IntKind.u8.max = 255 := by decide
    rw [e1, e2] at wn
    exact wn
  refine (nil_calls n hn.1 hn.2 hL).mono fun e W' ⟨he, hw⟩ => ?_
  subst he
  exact ⟨_, rfl, post_below (pa := []) (pv := []) hW' (fun _ _ _ => trodAll_mk1 (shut_bool Tryz.underlying4 _)) (fun sp _ => trodAll_mk1 (shut_int Tryz.underlying5 wn)) (fun _ _ => rfl) rfl hw (ok_one (by kernel_rfl) rfl (okWide_bool_mk Tryz.underlying4 _))⟩

theorem sweepNil_holds : Rows.SweepNilSaid :=
  OpenClaim.holds_of_wide 4 Tryz.f4 rfl rfl rfl rfl rfl rfl rfl ⟨rfl, rfl, rfl, rfl, rfl⟩ rfl rfl rfl rfl rfl (by kernel_rfl) Tryz.func4 (by kernel_rfl)
    (of_decide_eq_true (by kernel_rfl)) (by unfold Func.isWrapper; first | (rw [if_pos (by decide +kernel)]; kernel_rfl) | (rw [if_neg (by decide +kernel)]; exact ⟨rfl, rfl⟩))
    (fun os started H enc _ => lifted os started H enc)

theorem sweepNil_card : Rows.SweepNilCardSaid :=
  Claim7.holds_tied_plain_at .later [] [.data, .data, .data] true (true, "0edc0327ff7efc3c617baf693cc6078bc68f7f79913d20e4949a13d3b1f960df") false
    sweepNil_holds (fun _ h => by cases h) (by kernel_rfl) (fun _ h => by cases h) sweepNil_row_tie rfl ⟨rfl, rfl⟩ (by kernel_rfl) rfl
    (fun f fn hf hfn => by
      obtain rfl : f = 4 := Option.some.inj ((show Tryz.prog.funcNamed "interleaf/interleaflaw20.SweepNil" = some 4 by kernel_rfl).symm.trans hf) |>.symm
      obtain rfl : fn = Tryz.f4 := (Option.some.inj (Tryz.func4.symm.trans hfn)).symm
      exact ⟨by kernel_rfl, fun j t ht => by
        rw [Tryz.params4] at ht
        have h5 : t = 5 := by
          rcases j with _ | j
          · simpa using ht.symm
          · simp at ht
        subst h5
        exact (show Tryz.prog.wantsStandIn 5 = false by kernel_rfl)⟩)
    (by kernel_rfl)
#print axioms sweepNil_card
end Go.Proofs.YtlainoonnnimiaaGreatDoor
