/- THE ABSTRACT MACHINE AND THE MODEL: maps. Own work. -/
import Derived.Test.YtlainoonnnimiaaGreatDoorEvO14
set_option linter.all false
set_option linter.unusedVariables false
set_option linter.constructorNameAsVariable false
set_option linter.unnecessarySimpa false
set_option linter.unusedSimpArgs false
set_option linter.unusedSimpArgs false
set_option linter.unusedVariables false
namespace Go.Ev

section
variable {P : Program} {T : Tr TI} {ι : Ren} {h : Tr Blk} {c r W : Nat} {w : World} {out : Out} {K : V → M}

/-- What 'onMap' has looked up. -/
theorem onMap_ok (hT : TyOk P T) (S : Sim ι h w) {t : Nat} {m key : V} {m' key' : Value} (hm : VR ι m m') (hk : VR ι key key') {K : Nat → Nat → TI → Nat → List (V × V × Nat) → Nat → M} (hr : run (onMap T t m key K) h c r W = some out) :
    ∃ (b kt et : Nat) (ei ki : TI) (es : List (V × V × Nat)) (clock : Nat) (L : Loc) (arr : Array MapEntry) (de : TypeDesc), run (K b kt ei et es clock) h c (bit r b) W = some out ∧ h.get b = some (.map es clock) ∧ ι b = some L ∧
      m' = .map (some L.blk) ∧ w.heap[L.blk]? = some (.map arr clock) ∧ MapR ι es arr.toList ∧ P.underlying t = some (.map kt et) ∧ TyV P et ei de ∧ (∀ em w₁, (Instr.checkKey em 10000 kt key').run P w₁ = .ok () w₁) ∧ T.get kt = some ki := by
  unfold onMap at hr
  split at hr
  · rename_i b kt et _ _ _ _ hti
    obtain ⟨d, hd⟩ := hT.at hti
    have := hd.map rfl
    subst this
    split at hr
    · rename_i ei hei
      obtain ⟨de, hde⟩ := hT.at hei
      obtain ⟨hok, hr1⟩ := run_bif hr
      obtain ⟨q, hq, hr2⟩ := run_rd_some hr1
      simp only [VR] at hm
      obtain ⟨L, hL, rfl⟩ := hm
      split at hr2
      · rename_i es clock
        obtain ⟨hB, _⟩ := S.at hq hL
        obtain ⟨arr, g1, g2⟩ := hB.mapR
        have hki : ∃ ki, T.get kt = some ki := by
          unfold keyOk at hok
          split at hok
          · exact ⟨_, by assumption⟩
          · exact ⟨_, by assumption⟩
          · exact ⟨_, by assumption⟩
          · cases hok
        obtain ⟨ki, hki⟩ := hki
        exact ⟨b, kt, et, ei, ki, es, clock, L, arr, de, hr2, hq, hL, rfl, g1, g2, hd.und, hde, fun em w₁ => keyOk_ok hT hk hok em w₁, hki⟩
      · simp [run_fail] at hr2
    · simp [run_fail] at hr
  · simp [run_fail] at hr

theorem run_getMap {b : Nat} {arr : Array MapEntry} {clock : Nat} (e : w.heap[b]? = some (.map arr clock)) : (getObj b).run P w = .ok (.map arr clock) w := MapKept.run_getObj_map e

theorem aLookup_ok (hT : TyOk P T) (S : Sim ι h w) {t : Nat} {m key : V} {m' key' : Value} {ok : Bool} (hm : VR ι m m') (hk : VR ι key key') (hr : run (aLookup T t m key ok K) h c r W = some out) :
    Good P (Instr.lookup t m' key' ok) ι h c W w out K := by
  unfold aLookup at hr
  split at hr
  · split at hr
    · rename_i kt et _ _ _ _ hti
      obtain ⟨d, hd⟩ := hT.at hti
      have := hd.map rfl
      subst this
      split at hr
      · rename_i ei hei
        obtain ⟨de, hde⟩ := hT.at hei
        obtain ⟨hok, hr1⟩ := run_bif hr
        simp only [VR] at hm
        subst hm
        obtain ⟨z, z1, z2, z3, z4, z5⟩ := hde.zero w ι
        have hki : ∃ ki, T.get kt = some ki := by
          unfold keyOk at hok
          split at hok
          · exact ⟨_, by assumption⟩
          · exact ⟨_, by assumption⟩
          · exact ⟨_, by assumption⟩
          · cases hok
        obtain ⟨ki, hki⟩ := hki
        obtain ⟨dk, hdk⟩ := hT.at hki
        refine Good.now S hr1 (v' := if ok then .tuple #[z, .bool false] else z) ?_ ?_
        · simp only [Instr.lookup, Sem.run_bind, hd.run_und, Result.andThen_ok, Sem.run_pure, keyOk_ok hT hk hok, Instr.findKey, hdk.run_und, Instr.findNow, z1]
        · cases ok
          · exact z5
          · simp only [cond_true, if_true, VR]
            exact ⟨_, rfl, by simp [VRL, VR, z5]⟩
      · simp [run_fail] at hr
    · simp [run_fail] at hr
  · obtain ⟨b, kt, et, ei, ki, es, clock, L, arr, de, hr1, hb, hL, rfl, ha, hM, hu, hde, hck, hki⟩ := onMap_ok hT S hm hk hr
    clear hr
    split at hr1
    · simp [run_fail] at hr1
    · rename_i q v born hf
      obtain ⟨R', g1, e, m, g2, g3, g4, g5, rfl⟩ := findKey_ok hT hk w hki hM hf
      obtain ⟨_, hv, _⟩ := hM.at g2 g3
      have hv' : VR ι v m.val := by rw [g5] at hv; exact hv
      refine Good.now S hr1 (v' := if ok then .tuple #[m.val, .bool true] else m.val) ?_ ?_
      · simp only [Instr.lookup, Sem.run_bind, run_underlying hu, Result.andThen_ok, Sem.run_pure, run_getMap ha, hck, g1]
      · cases ok
        · exact hv'
        · simp only [cond_true, if_true, VR]
          exact ⟨_, rfl, by simp [VRL, VR, hv']⟩
    · rename_i hf
      obtain ⟨R', g1, rfl⟩ := findKey_ok hT hk w hki hM hf
      obtain ⟨z, z1, z2, z3, z4, z5⟩ := hde.zero w ι
      refine Good.now S hr1 (v' := if ok then .tuple #[z, .bool false] else z) ?_ ?_
      · simp only [Instr.lookup, Sem.run_bind, run_underlying hu, Result.andThen_ok, Sem.run_pure, run_getMap ha, hck, g1, z1]
      · cases ok
        · exact z5
        · simp only [cond_true, if_true, VR]
          exact ⟨_, rfl, by simp [VRL, VR, z5]⟩

theorem VR_tu0 {ι : Ren} : VR ι (.tu []) undef := by simp [VR, VRL, undef]

theorem aMapUpdate_ok (hT : TyOk P T) (S : Sim ι h w) {t : Nat} {m key v : V} {m' key' v' : Value} (hm : VR ι m m') (hk : VR ι key key') (hv : VR ι v v') (hr : run (aMapUpdate T t m key v K) h c r W = some out) :
    Good P (do Instr.mapUpdate t m' key' v'; pure undef) ι h c W w out K := by
  unfold aMapUpdate at hr
  obtain ⟨b, kt, et, ei, ki, es, clock, L, arr, de, hr1, hb, hL, rfl, ha, hM, hu, hde, hck, hki⟩ := onMap_ok hT S hm hk hr
  clear hr
  split at hr1
  · simp [run_fail] at hr1
  · rename_i q v0 born hf
    obtain ⟨R', g1, e, me, g2, g3, g4, g5, rfl⟩ := findKey_ok hT hk w hki hM hf
    obtain ⟨hk0, _, _⟩ := hM.at g2 g3
    obtain ⟨k2, w₁, k1, hk2, e1, e2, e3, e4⟩ := keyStays (P := P) me.key key' w
    have hkv : VR ι key k2 := by rcases hk2 with rfl | rfl; rw [← g4]; exact hk0; exact hk
    have hb5 : born = e.2.2 := by rw [g5]
    obtain ⟨w', s1, s2⟩ := Way.mapSet (P := P) (c := c) (W := W) (clock' := clock) S hb hL e1 e2 e3 e4 ha (hM.set g2 hkv hv)
    rw [hb5] at hr1
    have g3' : arr[q]? = some me := by rw [← Array.getElem?_toList]; exact g3
    refine ⟨_, undef, ι, _, _, _, _, w', run_wr_some hr1, ?_, VR_tu0, s2⟩
    simp only [Instr.mapUpdate, Sem.run_bind, run_underlying hu, Result.andThen_ok, Sem.run_pure, run_getMap ha, hck, g1, g3', Option.map_some, Option.getD_some, k1, s1]
  · rename_i hf
    obtain ⟨R', g1, rfl⟩ := findKey_ok hT hk w hki hM hf
    obtain ⟨w', s1, s2⟩ := Way.mapSet (P := P) (c := c) (W := W) (clock' := clock + 1) (w₁ := w) S hb hL rfl rfl rfl rfl ha (hM.push hk hv clock)
    refine ⟨_, undef, ι, _, _, _, _, w', run_wr_some hr1, ?_, VR_tu0, s2⟩
    simp only [Instr.mapUpdate, Sem.run_bind, run_underlying hu, Result.andThen_ok, Sem.run_pure, run_getMap ha, hck, g1, s1]

theorem aMapEntry_ok (hT : TyOk P T) (S : Sim ι h w) {t : Nat} {m key : V} {m' key' : Value} (hm : VR ι m m') (hk : VR ι key key') (hr : run (aMapEntry T t m key K) h c r W = some out) :
    Good P (Instr.mapEntry t m' key') ι h c W w out K := by
  unfold aMapEntry at hr
  obtain ⟨b, kt, et, ei, ki, es, clock, L, arr, de, hr1, hb, hL, rfl, ha, hM, hu, hde, hck, hki⟩ := onMap_ok hT S hm hk hr
  clear hr
  split at hr1
  · simp [run_fail] at hr1
  · rename_i q v0 born hf
    obtain ⟨R', g1, e, me, g2, g3, g4, g5, rfl⟩ := findKey_ok hT hk w hki hM hf
    obtain ⟨hk0, hv0, hborn⟩ := hM.at g2 g3
    obtain ⟨k2, w₁, k1, hk2, e1, e2, e3, e4⟩ := keyStays (P := P) me.key key' w
    have hkv : VR ι key k2 := by rcases hk2 with rfl | rfl; rw [← g4]; exact hk0; exact hk
    have hb5 : born = e.2.2 := by rw [g5]
    have hv5 : v0 = e.2.1 := by rw [g5]
    subst hb5 hv5
    obtain ⟨w', s1, s2⟩ := Way.mapSet (P := P) (c := c) (W := W) (clock' := clock) S hb hL e1 e2 e3 e4 ha (hM.set g2 hkv hv0)
    have g3' : arr[q]? = some me := by rw [← Array.getElem?_toList]; exact g3
    have hmod : (arr.modify q fun m => { m with key := k2, val := me.val }) = arr.modify q fun m => { m with key := k2 } := by
      apply Array.ext_getElem?
      intro j
      simp only [Array.getElem?_modify]
      by_cases hj : q = j
      · subst hj; rw [g3']; simp
      · simp [hj]
    rw [hmod] at s1
    refine ⟨_, .tuple #[me.val, .int .i64 me.born], ι, _, _, _, _, w', run_wr_some hr1, ?_, ?_, s2⟩
    · simp only [Instr.mapEntry, Sem.run_bind, run_underlying hu, Result.andThen_ok, Sem.run_pure, run_getMap ha, hck, g1, g3', Option.map_some, Option.getD_some, k1, s1]
      rfl
    · simp only [VR]
      exact ⟨_, rfl, by simp only [VRL, VR]; exact ⟨hv0, by rw [hborn]; rfl, trivial⟩⟩
  · rename_i hf
    obtain ⟨R', g1, rfl⟩ := findKey_ok hT hk w hki hM hf
    obtain ⟨z, z1, z2, z3, z4, z5⟩ := hde.zero w ι
    obtain ⟨w', s1, s2⟩ := Way.mapSet (P := P) (c := c) (W := W) (clock' := clock + 1) (w₁ := w) S hb hL rfl rfl rfl rfl ha (hM.push hk z5 clock)
    refine ⟨_, .tuple #[z, .int .i64 clock], ι, _, _, _, _, w', run_wr_some hr1, ?_, ?_, s2⟩
    · simp only [Instr.mapEntry, Sem.run_bind, run_underlying hu, Result.andThen_ok, Sem.run_pure, run_getMap ha, hck, g1, z1, s1]
      rfl
    · simp only [VR]
      exact ⟨_, rfl, by simp [VRL, VR, z5]⟩

theorem aDelete_ok (hT : TyOk P T) (S : Sim ι h w) {ts' : Array TypeId} {ty t : TypeId} (ht : ts'[0]? = some t) {m key : V} {m' key' : Value} {args' : Array Value} (h0 : args'[0]? = some m') (h1 : args'[1]? = some key')
    (hm : VR ι m m') (hk : VR ι key key') (hr : run (aDelete T t m key K) h c r W = some out) : Good P (Builtin.delete_ ts' ty args') ι h c W w out K := by
  unfold aDelete at hr
  obtain ⟨b, kt, et, ei, ki, es, clock, L, arr, de, hr1, hb, hL, rfl, ha, hM, hu, hde, hck, hki⟩ := onMap_ok hT S hm hk hr
  clear hr
  split at hr1
  · simp [run_fail] at hr1
  · rename_i q rest hf
    obtain ⟨R', g1, e, me, g2, g3, g4, g5, rfl⟩ := findKey_ok hT hk w hki hM hf
    have hq : q < es.length := by rw [List.getElem?_eq_some_iff] at g2; exact g2.1
    obtain ⟨w', s1, s2⟩ := Way.mapSet (P := P) (c := c) (W := W) (clock' := clock) (w₁ := w) S hb hL rfl rfl rfl rfl ha (hM.erase hq)
    refine ⟨_, undef, ι, _, _, _, _, w', run_wr_some hr1, ?_, VR_tu0, s2⟩
    simp only [Builtin.delete_, ht, h0, h1, Sem.run_bind, run_underlying hu, Result.andThen_ok, Sem.run_pure, run_getMap ha, hck, g1, s1]
    rfl
  · rename_i hf
    obtain ⟨R', g1, rfl⟩ := findKey_ok hT hk w hki hM hf
    obtain ⟨w', s1, s2⟩ := Way.mapSet (P := P) (c := c) (W := 0) (clock' := clock) (w₁ := w) S hb hL rfl rfl rfl rfl ha hM
    have hw : w' = w := by
      rw [MapKept.run_setObj_map _ ha] at s1
      injection s1 with _ s1
      rw [← s1]
      have : w.heap.setIfInBounds L.blk (.map arr clock) = w.heap := by
        apply Array.ext_getElem?
        intro j
        rw [Array.getElem?_setIfInBounds]
        split
        · rename_i hj; subst hj; rw [ha]; split
          · rfl
          · rename_i hn; rw [Array.getElem?_eq_none (by omega)] at ha; cases ha
        · rfl
      rw [this]
    subst hw
    refine Good.now S hr1 (v' := undef) ?_ VR_tu0
    simp only [Builtin.delete_, ht, h0, h1, Sem.run_bind, run_underlying hu, Result.andThen_ok, Sem.run_pure, run_getMap ha, hck, g1, s1]
    rfl

theorem putBorn_cons (e : V × V × Nat) (es : List (V × V × Nat)) (n : Nat) (v : V) : putBorn (e :: es) n v = bif Nat.beq e.2.2 n then some ((e.1, v, n) :: es) else (putBorn es n v).map (e :: ·) := rfl

theorem putBorn_ok {n : Nat} {v : V} : ∀ (es es' : List (V × V × Nat)) (l : List MapEntry), MapR ι es l → putBorn es n v = some es' →
    ∃ i e, l.findIdx? (fun m => (m.born : Int) == (n : Int)) = some i ∧ es[i]? = some e ∧ es' = es.set i (e.1, v, e.2.2)
  | [], es', l, _, h => by cases h
  | e :: es, es', [], hm, h => by have := hm.1; simp at this
  | e :: es, es', m :: l, hm, h => by
    have hh := MapR.at hm (j := 0) (e := e) (m := m) rfl rfl
    rw [putBorn_cons] at h
    cases hb : Nat.beq e.2.2 n with
    | true =>
      rw [hb, cond_true] at h
      rw [nbeq_iff, decide_eq_true_eq] at hb
      cases h
      refine ⟨0, e, ?_, rfl, by simp [hb]⟩
      rw [List.findIdx?_cons]
      simp [hh.2.2, hb]
    | false =>
      rw [hb, cond_false] at h
      rw [nbeq_iff, decide_eq_false_iff_not] at hb
      cases hp : putBorn es n v with
      | none => rw [hp] at h; cases h
      | some es₁ =>
        rw [hp] at h
        cases h
        have hm' : MapR ι es l := ⟨by have := hm.1; simpa using this, fun j e' he' => hm.2 (j + 1) e' (by simpa using he')⟩
        obtain ⟨i, e', g1, g2, g3⟩ := putBorn_ok es es₁ l hm' hp
        refine ⟨i + 1, e', ?_, by simpa using g2, by simp [g3]⟩
        rw [List.findIdx?_cons]
        have : ¬ ((m.born : Int) == (n : Int)) = true := by rw [hh.2.2]; simp; omega
        simp [this, g1]

theorem aEntryStore_ok (S : Sim ι h w) {t : Nat} {m st v : V} {m' st' v' : Value} (hm : VR ι m m') (hs : VR ι st st') (hv : VR ι v v') (hr : run (aEntryStore m st v K) h c r W = some out) :
    Good P (do Instr.entryStore t m' st' v'; pure undef) ι h c W w out K := by
  unfold aEntryStore at hr
  split at hr
  · rename_i b k n
    simp only [VR] at hm hs
    obtain ⟨L, hL, rfl⟩ := hm
    subst hs
    obtain ⟨q, hq, hr1⟩ := run_rd_some hr
    split at hr1
    · rename_i es clock
      split at hr1
      · rename_i es' hp
        obtain ⟨hB, _⟩ := S.at hq hL
        obtain ⟨arr, ha, hM⟩ := hB.mapR
        obtain ⟨i, e, g1, g2, rfl⟩ := putBorn_ok es es' arr.toList hM hp
        have g1' : arr.findIdx? (fun m => (m.born : Int) == (n : Int)) = some i := by rw [← g1]; cases arr; simp
        obtain ⟨me, g3, g4, g5, g6⟩ := hM.2 i e g2
        have g3' : arr[i]? = some me := by rw [← Array.getElem?_toList]; exact g3
        obtain ⟨w', s1, s2⟩ := Way.mapSet (P := P) (c := c) (W := W) (clock' := clock) (w₁ := w) S hq hL rfl rfl rfl rfl ha (hM.set g2 g4 hv)
        have hmod : (arr.modify i fun m => { m with key := me.key, val := v' }) = arr.modify i fun m => { m with val := v' } := by
          apply Array.ext_getElem?
          intro j
          simp only [Array.getElem?_modify]
          by_cases hj : i = j
          · subst hj; rw [g3']; simp
          · simp [hj]
        rw [hmod] at s1
        refine ⟨_, undef, ι, _, _, _, _, w', run_wr_some hr1, ?_, VR_tu0, s2⟩
        have hai : ∀ w₁ : World, (asInt (.int k (.ofNat n))).run P w₁ = .ok (n : Int) w₁ := fun w₁ => by simp [asInt, asIntOf]
        simp only [Instr.entryStore, Sem.run_bind, Result.andThen_ok, Sem.run_pure, run_getMap ha, hai, g1', s1]
      · simp [run_fail] at hr1
    · simp [run_fail] at hr1
  · simp [run_fail] at hr
end
end Go.Ev
