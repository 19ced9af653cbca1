/- THE ABSTRACT MACHINE AND THE MODEL: indexes, slices. Own work. -/
import Derived.Test.YtlainoonnnimiaaGreatDoorEvO6
set_option linter.all false
set_option linter.unusedVariables false
set_option linter.constructorNameAsVariable false
set_option linter.unnecessarySimpa false
set_option linter.unusedSimpArgs false
set_option linter.unusedSimpArgs false
namespace Go.Ev

def OVR (ι : Ren) (a : Option V) (b : Option Value) : Prop :=
  match a, b with
  | none, none => True
  | some x, some v => VR ι x v
  | _, _ => False

section
variable {P : Program} {T : Tr TI} {ι : Ren} {h : Tr Blk} {c r W : Nat} {w : World} {out : Out} {K : V → M}

theorem natOf_ok {v : Option V} {v' : Option Value} {d : Nat} {K : Nat → M} (hv : OVR ι v v') (hr : run (natOf v d K) h c r W = some out) :
    ∃ n, run (K n) h c r W = some out ∧ ((v' = none ∧ n = d) ∨ ∃ k, v' = some (.int k (.ofNat n))) := by
  unfold natOf at hr
  split at hr
  · cases v' with
    | none => exact ⟨d, hr, .inl ⟨rfl, rfl⟩⟩
    | some _ => exact hv.elim
  · rename_i k n
    cases v' with
    | none => exact hv.elim
    | some v => simp only [OVR, VR] at hv; subst hv; exact ⟨n, hr, .inr ⟨k, rfl⟩⟩
  · simp [run_fail] at hr

theorem run_sliceBound (k : IntKind) (n y : Nat) (code : BoundsCode) (hn : n ≤ y) : (Instr.sliceBound (.int k (.ofNat n)) y code).run P w = .ok n w := by
  have : (0 : Int) ≤ Int.ofNat n ∧ Int.ofNat n ≤ (y : Int) := ⟨by simp, by simpa using hn⟩
  simp only [Instr.sliceBound, asIntOf, Sem.run_bind, Sem.run_pure, Result.andThen_ok]
  rw [if_pos this]
  simp

theorem run_sliceBounds (isS : Bool) {len cap l hh m : Nat} {lo hi mx : Option Value} (hm : (mx = none ∧ m = cap) ∨ ∃ k, mx = some (.int k (.ofNat m)) ∧ m ≤ cap)
    (hhi : (hi = none ∧ mx = none ∧ hh = len) ∨ ∃ k, hi = some (.int k (.ofNat hh)) ∧ hh ≤ m) (hlo : (lo = none ∧ l = 0) ∨ ∃ k, lo = some (.int k (.ofNat l)) ∧ l ≤ hh) :
    (Instr.sliceBounds isS len cap lo hi mx).run P w = .ok (l, hh, m) w := by
  unfold Instr.sliceBounds
  rcases hm with ⟨rfl, rfl⟩ | ⟨k1, rfl, h1⟩
  · rcases hhi with ⟨rfl, _, rfl⟩ | ⟨k2, rfl, h2⟩
    · rcases hlo with ⟨rfl, rfl⟩ | ⟨k3, rfl, h3⟩
      · simp
      · simp only [Sem.run_bind, Sem.run_pure, Result.andThen_ok, run_sliceBound _ _ _ _ h3]
    · rcases hlo with ⟨rfl, rfl⟩ | ⟨k3, rfl, h3⟩
      · simp only [Sem.run_bind, Sem.run_pure, Result.andThen_ok, run_sliceBound _ _ _ _ h2]
      · simp only [Sem.run_bind, Sem.run_pure, Result.andThen_ok, run_sliceBound _ _ _ _ h2, run_sliceBound _ _ _ _ h3]
  · rcases hhi with ⟨_, h, _⟩ | ⟨k2, rfl, h2⟩
    · cases h
    · rcases hlo with ⟨rfl, rfl⟩ | ⟨k3, rfl, h3⟩
      · simp only [Sem.run_bind, Sem.run_pure, Result.andThen_ok, run_sliceBound _ _ _ _ h2, run_sliceBound _ _ _ _ h1]
      · simp only [Sem.run_bind, Sem.run_pure, Result.andThen_ok, run_sliceBound _ _ _ _ h2, run_sliceBound _ _ _ _ h3, run_sliceBound _ _ _ _ h1]

theorem add_if (b o m l k : Nat) : (if m = l then (⟨b, o, none⟩ : Addr) else (⟨b, o, none⟩ : Addr).add k) = ⟨b, if m = l then o else o + k, none⟩ := by
  split
  · rfl
  · rw [addr_add]

theorem aSliceL_ok (hT : TyOk P T) (S : Sim ι h w) {t l : Nat} {x : V} {x' : Value} {hi mx : Option V} {lo' hi' mx' : Option Value} (hx : VR ι x x') (hhi : OVR ι hi hi') (hmx : OVR ι mx mx')
    (hl : (lo' = none ∧ l = 0) ∨ ∃ k, lo' = some (.int k (.ofNat l))) (hmh' : mx' = none ∨ hi' ≠ none)
    (hr : run (aSliceL T t x l hi mx K) h c r W = some out) : Good P (Instr.sliceAt t x' lo' hi' mx') ι h c W w out K := by
  have bounds : ∀ (isS : Bool) (len cap hh m : Nat), ((mx' = none ∧ m = cap) ∨ ∃ k, mx' = some (.int k (.ofNat m))) → ((hi' = none ∧ hh = len) ∨ ∃ k, hi' = some (.int k (.ofNat hh))) → l ≤ hh → (hh ≤ m ∨ (hi' = none)) → m ≤ cap →
      (Instr.sliceBounds isS len cap lo' hi' mx').run P w = .ok (l, hh, m) w := by
    intro isS len cap hh m g1 g2 g3 g4 g5
    refine run_sliceBounds isS ?_ ?_ ?_
    · rcases g1 with g1 | ⟨k, g1⟩; exact .inl g1; exact .inr ⟨k, g1, g5⟩
    · rcases g2 with ⟨g2, g2'⟩ | ⟨k, g2⟩
      · refine .inl ⟨g2, ?_, g2'⟩
        rcases hmh' with e | e
        · exact e
        · exact absurd g2 e
      · rcases g4 with g4 | g4
        · exact .inr ⟨k, g2, g4⟩
        · rw [g2] at g4; cases g4
    · rcases hl with ⟨e, e'⟩ | ⟨k, e⟩; exact .inl ⟨e, e'⟩; exact .inr ⟨k, e, g3⟩
  unfold aSliceL at hr
  split at hr
  · -- a text
    rename_i s _ _ _ _ ht
    obtain ⟨d, hd⟩ := hT.at ht
    cases hd.str rfl
    simp only [VR] at hx
    obtain ⟨bs, rfl, rfl⟩ := hx
    have hlen : (bytes bs).length = bs.size := by simp [bytes]
    cases mx with
    | some _ => simp [run_fail] at hr
    | none =>
      cases mx' with
      | some _ => exact hmx.elim
      | none =>
        simp only at hr
        obtain ⟨hh, hr, hh'⟩ := natOf_ok hhi hr
        obtain ⟨hle, hr⟩ := run_bif hr
        rw [Bool.and_eq_true, ble_iff, ble_iff, decide_eq_true_eq, decide_eq_true_eq, hlen] at hle
        have hb := bounds false bs.size bs.size hh bs.size (.inl ⟨rfl, rfl⟩) (by rw [hlen] at hh'; exact hh') hle.1 (.inl hle.2) (Nat.le_refl _)
        refine Good.now S hr (v' := .string (bs.extract l hh)) ?_ ?_
        · simp only [Instr.sliceAt, Sem.run_bind, hd.run_und, Result.andThen_ok, Instr.slice, Option.isSome_none, Bool.false_eq_true, if_false, hb, Sem.run_pure]
        · simp only [VR]
          refine ⟨_, rfl, ?_⟩
          simp [bytes, ByteArray.data_extract, List.map_take, List.map_drop, List.extract]
  · -- nil
    rename_i _ _ _ _ _ _ _ ht
    obtain ⟨d, hd⟩ := hT.at ht
    obtain ⟨rfl, inf, hinf, hsz, _⟩ := hd.slice rfl
    simp only [VR] at hx
    subst hx
    obtain ⟨hh, hr, hh'⟩ := natOf_ok hhi hr
    obtain ⟨m, hr, hm'⟩ := natOf_ok hmx hr
    obtain ⟨hle, hr⟩ := run_bif hr
    simp only [Bool.and_eq_true, nbeq_iff, decide_eq_true_eq] at hle
    obtain ⟨rfl, rfl, rfl⟩ := hle
    have hb := bounds true 0 0 0 0 hm' hh' (Nat.le_refl _) (.inl (Nat.le_refl _)) (Nat.le_refl _)
    refine Good.now S hr (v' := .slice none 0 0) ?_ (by simp [VR])
    simp only [Instr.sliceAt, Sem.run_bind, hd.run_und, Result.andThen_ok, Instr.slice, hb, run_sizeOf_info _ hinf, Sem.run_pure, if_true, Nat.sub_self]
  · -- a slice
    rename_i b o len cap _ sz _ _ _ _ _ ht
    obtain ⟨d, hd⟩ := hT.at ht
    obtain ⟨rfl, inf, hinf, hsz, _⟩ := hd.slice rfl
    simp only [VR] at hx
    obtain ⟨L, cp, hL, hcp, hv⟩ := hx
    have fin : ∀ (a : Addr) (hh m : Nat) (g1 : (mx' = none ∧ m = cp) ∨ ∃ k, mx' = some (.int k (.ofNat m))) (g2 : (hi' = none ∧ hh = len) ∨ ∃ k, hi' = some (.int k (.ofNat hh))) (g3 : l ≤ hh) (g4 : hh ≤ m ∨ hi' = none) (g5 : m ≤ cp),
        (Instr.sliceAt t (.slice (some a) len cp) lo' hi' mx').run P w = .ok (.slice (some (if m = l then a else a.add (l * sz))) (hh - l) (m - l)) w := by
      intro a hh m g1 g2 g3 g4 g5
      have hb := bounds true len cp hh m g1 g2 g3 g4 g5
      simp only [Instr.sliceAt, Sem.run_bind, hd.run_und, Result.andThen_ok, Instr.slice, hb, run_sizeOf_info _ hinf, hsz, Sem.run_pure]
      congr 2
      split <;> rfl
    cases cap with
    | some cc =>
      obtain ⟨rfl, rfl⟩ := hv
      simp only at hr
      obtain ⟨hh, hr, hh'⟩ := natOf_ok hhi hr
      obtain ⟨m, hr, hm'⟩ := natOf_ok hmx hr
      obtain ⟨hle, hr⟩ := run_bif hr
      simp only [Bool.and_eq_true, ble_iff, nbeq_iff, decide_eq_true_eq] at hle hr
      refine Good.now S hr (fin _ hh m hm' hh' hle.1 (.inl hle.2.1) hle.2.2) ?_
      rw [add_if]
      simp only [VR]
      refine ⟨L, m - l, hL, by omega, rfl, ?_⟩
      by_cases e : m = l
      · simp [e]
      · simp [e]; omega
    | none =>
      simp only at hr
      cases mx with
      | none =>
        cases mx' with
        | some _ => exact hmx.elim
        | none =>
          simp only at hr
          obtain ⟨hh, hr, hh'⟩ := natOf_ok hhi hr
          obtain ⟨hle, hr1⟩ := run_bif hr
          clear hr
          simp only [Bool.and_eq_true, ble_iff, decide_eq_true_eq] at hle
          obtain ⟨q, hq, hr2⟩ := run_rd_some hr1
          clear hr1
          split at hr2
          · rename_i e n sz' ex z cc
            obtain ⟨hsz', hr⟩ := run_bif hr2
            clear hr2
            rw [nbeq_iff, decide_eq_true_eq] at hsz'
            subst hsz'
            obtain ⟨hb, _⟩ := S.at hq hL
            have hLs : L.sz = sz := by obtain ⟨_, _, _, _, _, g, _⟩ := hb; exact g
            rcases hv with ⟨rfl, hv⟩ | ⟨rfl, a, hv⟩
            · refine Good.now S hr (fin _ hh cp (.inl ⟨rfl, rfl⟩) hh' hle.1 (.inl (by omega)) (Nat.le_refl _)) ?_
              rw [add_if]
              simp only [VR]
              refine ⟨L, cp - l, hL, by omega, ?_⟩
              by_cases e : cp = l
              · subst e
                right
                have : hh - cp = 0 := by omega
                rw [this, Nat.sub_self]
                exact ⟨rfl, _, rfl⟩
              · left
                rw [if_neg e, hLs, Nat.add_assoc]
                refine ⟨rfl, ?_⟩
                rw [hLs] at hv
                have h1 : cp * sz = l * sz + (cp - l) * sz := by rw [← Nat.add_mul]; congr 1; omega
                omega
            · have hl0 : l = 0 := by omega
              have hh0 : hh = 0 := by omega
              subst hl0 hh0 hv
              have hb := bounds true 0 0 0 0 (.inl ⟨rfl, rfl⟩) hh' (Nat.le_refl _) (.inl (Nat.le_refl _)) (Nat.le_refl _)
              refine Good.now S hr (v' := .slice (some ⟨L.blk, a, none⟩) 0 0) ?_ ?_
              · simp only [Instr.sliceAt, Sem.run_bind, hd.run_und, Result.andThen_ok, Instr.slice, hb, run_sizeOf_info _ hinf, hsz, Sem.run_pure, if_true, Nat.sub_self]
              · simp only [VR]
                exact ⟨L, 0, hL, by omega, .inr ⟨rfl, a, rfl⟩⟩
          · simp [run_fail] at hr2
      | some mv =>
        simp only at hr
        obtain ⟨hh, hr, hh'⟩ := natOf_ok hhi hr
        obtain ⟨m, hr, hm'⟩ := natOf_ok hmx hr
        obtain ⟨hle, hr⟩ := run_bif hr
        simp only [Bool.and_eq_true, ble_iff, nblt_iff, nbeq_iff, decide_eq_true_eq] at hle hr
        rcases hv with ⟨rfl, hv⟩ | ⟨rfl, a, hv⟩
        · have hm'' : (mx' = none ∧ m = cp) ∨ ∃ k, mx' = some (.int k (.ofNat m)) := by
            rcases hm' with ⟨e, _⟩ | e
            · rw [e] at hmx; exact hmx.elim
            · exact .inr e
          refine Good.now S hr (fin _ hh m hm'' hh' hle.1 (.inl hle.2.1) (by omega)) ?_
          rw [add_if]
          simp only [VR]
          refine ⟨L, m - l, hL, by omega, rfl, ?_⟩
          by_cases e : m = l
          · simp [e]
          · simp [e]; omega
        · omega
  · -- an array
    rename_i b o n _ sz _ _ _ _ ht
    obtain ⟨d, hd⟩ := hT.at ht
    obtain ⟨rfl, inf, hinf, hsz⟩ := hd.arr rfl
    simp only [VR] at hx
    obtain ⟨L, hL, rfl⟩ := hx
    obtain ⟨hh, hr, hh'⟩ := natOf_ok hhi hr
    obtain ⟨m, hr, hm'⟩ := natOf_ok hmx hr
    obtain ⟨hle, hr⟩ := run_bif hr
    simp only [Bool.and_eq_true, ble_iff, nbeq_iff, decide_eq_true_eq] at hle hr
    have hb := bounds false n n hh m hm' hh' hle.1 (.inl hle.2.1) hle.2.2
    refine Good.now S hr (v' := .slice (some (if m = l then ⟨L.blk, L.off + o, none⟩ else (⟨L.blk, L.off + o, none⟩ : Addr).add (l * sz))) (hh - l) (m - l)) ?_ ?_
    · simp only [Instr.sliceAt, Sem.run_bind, hd.run_und, Result.andThen_ok, Instr.sureAddr, hb, run_sizeOf_info _ hinf, hsz, Sem.run_pure]
    · rw [add_if]
      simp only [VR]
      refine ⟨L, m - l, hL, by omega, rfl, ?_⟩
      by_cases e : m = l
      · simp [e]
      · simp [e]; omega
  · simp [run_fail] at hr

theorem aSlice_ok (hT : TyOk P T) (S : Sim ι h w) {t : Nat} {x : V} {x' : Value} {lo hi mx : Option V} {lo' hi' mx' : Option Value} (hx : VR ι x x') (hlo : OVR ι lo lo') (hhi : OVR ι hi hi') (hmx : OVR ι mx mx')
    (hr : run (aSlice T t x lo hi mx K) h c r W = some out) : Good P (Instr.sliceAt t x' lo' hi' mx') ι h c W w out K := by
  unfold aSlice at hr
  obtain ⟨hmh, hr⟩ := run_bif' hr
  have hmh' : mx' = none ∨ hi' ≠ none := by
    cases mx with
    | none => cases mx' with | none => exact .inl rfl | some _ => exact hmx.elim
    | some _ =>
      cases hi with
      | none => simp at hmh
      | some _ => cases hi' with | none => exact hhi.elim | some _ => exact .inr (by simp)
  obtain ⟨l, hr, hl⟩ := natOf_ok hlo hr
  exact aSliceL_ok hT S hx hhi hmx hl hmh' hr
end
end Go.Ev
