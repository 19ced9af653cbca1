/- THE ABSTRACT MACHINE AND THE MODEL: variables, fields, elements. Own work. -/
import Derived.Test.YtlainoonnnimiaaGreatDoorEvO3
set_option linter.all false
set_option linter.unusedVariables false
set_option linter.constructorNameAsVariable false
set_option linter.unnecessarySimpa false
set_option linter.unusedSimpArgs false
set_option linter.unusedSimpArgs false
namespace Go.Ev

section
variable {P : Program} {T : Tr TI} {ι : Ren} {h : Tr Blk} {c r W : Nat} {w : World} {out : Out} {K : V → M}

theorem Sim.at {b : Nat} {x : Blk} {L : Loc} (S : Sim ι h w) (e : h.get b = some x) (hL : ι b = some L) : BR ι w L x ∧ L.blk < w.heap.size := by
  obtain ⟨L', h1, h2, h3⟩ := S.blk b x e
  rw [hL] at h1; cases h1
  exact ⟨h3, h2⟩

theorem aLoad_ok (hT : TyOk P T) (S : Sim ι h w) {t : Nat} {a : V} {a' : Value} (ha : VR ι a a') (hr : run (aLoad T t a K) h c r W = some out) :
    Good P (Instr.loadAt t a') ι h c W w out K := by
  unfold aLoad at hr
  split at hr
  · rename_i b o ti ht
    obtain ⟨d, hd⟩ := hT.at ht
    obtain ⟨x, hx, hr⟩ := run_rd_some hr
    split at hr
    · rename_i e n sz ex z cc
      obtain ⟨hle, hr⟩ := run_bif hr
      rw [ble_iff, decide_eq_true_eq] at hle
      simp only [VR] at ha
      obtain ⟨L, hL, rfl⟩ := ha
      obtain ⟨hb, _⟩ := S.at hx hL
      have hrun : ∀ (v : Value), (loadVar t ⟨L.blk, L.off + o, none⟩).run P w = .ok v w → (Instr.loadAt t (.pointer (some ⟨L.blk, L.off + o, none⟩))).run P w = .ok v w := fun v e => by
        simp only [Instr.loadAt, Instr.sureAddr, Sem.run_bind, Sem.run_pure, Result.andThen_ok, e]
      cases hag : ti.agg with
      | true =>
        rw [hag, cond_true] at hr
        obtain ⟨vs, e1, e2, e3, e4⟩ := run_cells (P := P) hb hle
        refine Good.now S hr (v' := .agg vs.toArray) (hrun _ ?_) ?_
        · simp only [loadVar, Sem.run_bind, hd.run_isAgg, Result.andThen_ok, hag, if_true, hd.run_size, e1, Sem.run_pure]
        · simp only [VR]; exact ⟨_, rfl, by simpa using e2, by simpa using e3⟩
      | false =>
        rw [hag, cond_false] at hr
        have h1 : ti.size = 1 := by
          obtain ⟨i, z', _, g2, _, _, g5⟩ := hd.rest
          obtain ⟨q1, _, q3⟩ := zeroOk_one g5
          rw [hd.agg] at hag
          rcases q3 with ⟨q, _⟩ | ⟨_, q, _⟩
          · rw [hag] at q; cases q
          · rw [← g2, ← q1, q]; rfl
        obtain ⟨v, e1, e2, e3⟩ := hb.cell (j := o) (by omega)
        refine Good.now S hr (v' := v) (hrun _ ?_) e2
        simp only [loadVar, Sem.run_bind, hd.run_isAgg, Result.andThen_ok, hag, Bool.false_eq_true, if_false, run_load, e1]
    · simp [run_fail] at hr
  · simp [run_fail] at hr

theorem aStore_ok (hT : TyOk P T) (S : Sim ι h w) {t : Nat} {a x : V} {a' x' : Value} (ha : VR ι a a') (hx : VR ι x x') (hr : run (aStore T t a x K) h c r W = some out) :
    GoodU P (Instr.storeAt t a' x') ι h c W w out K := by
  unfold aStore at hr
  split at hr
  · rename_i b o ti ht
    obtain ⟨d, hd⟩ := hT.at ht
    obtain ⟨y, hy, hr⟩ := run_rd_some hr
    split at hr
    · rename_i e n sz ex z cc
      obtain ⟨l, hr, hl, h1, _⟩ := hx.cells hr
      obtain ⟨hle, hr⟩ := run_bif hr
      rw [Bool.and_eq_true, ble_iff, nbeq_iff, decide_eq_true_eq, decide_eq_true_eq] at hle
      have hr := run_wr_some hr
      simp only [VR] at ha
      obtain ⟨L, hL, rfl⟩ := ha
      obtain ⟨hb, _⟩ := S.at hy hL
      have hnL : n ≤ L.len := by obtain ⟨_, _, _, _, g, _⟩ := hb; exact g
      obtain ⟨w', e1, e2, e3, e4, e5, e6, e7, _⟩ := run_put (P := P) hb (o := o) hl h1 (by omega)
      refine ⟨ι, _, _, _, _, w', hr, ?_, Way.write S hy trivial hL e2 e3 e4 e5 e6 (e7 (by omega))⟩
      have hsz : x'.cells.size = ti.size := by have := hl.length; rw [hle.2] at this; simpa using this.symm
      simp only [Instr.storeAt, Instr.sureAddr, Sem.run_bind, Sem.run_pure, Result.andThen_ok, storeVar, hd.run_size, hsz, ne_eq, not_true_eq_false, if_false, Sem.run_ite, e1]
    · simp [run_fail] at hr
  · simp [run_fail] at hr

theorem run_al_some {x : Blk} {k : Nat → M} (e : run (.al x k) h c r W = some out) : run (k c) (h.set x c) (c + 1) r W = some out := e

/-- A new row of cells. -/
theorem Good.row (S : Sim ι h w) (F : Fresh ι h c out) {e sz : Nat} {ex : Bool} {z : List V} {l : List V} {vs tl : List Value} (hl : VRL ι l vs) (h1 : ∀ v ∈ vs, v.oneCell' = true)
    (hr : run (K (.p c 0)) (h.set (.cells e l.length sz ex z (Tr.lay l 0 .l)) c) (c + 1) r W = some out) :
    ∃ ι' w', Way ι h c W w ι' (h.set (.cells e l.length sz ex z (Tr.lay l 0 .l)) c) (c + 1) W w' ∧ (newRow e (vs ++ tl).toArray).run P w = .ok ⟨w.heap.size, 0, none⟩ w' ∧ ι' c = some ⟨w.heap.size, 0, (vs ++ tl).length, sz⟩ := by
  have hc : c < out.c := by have := run_c_le _ hr; omega
  obtain ⟨f1, f2⟩ := F c (Nat.le_refl _) hc
  have hnew : ({ w with heap := w.heap.push (.cells (vs ++ tl).toArray e (0, 0)) } : World).heap[w.heap.size]? = some (.cells (vs ++ tl).toArray e (0, 0)) := by simp
  refine ⟨ι.put c ⟨w.heap.size, 0, (vs ++ tl).length, sz⟩, { w with heap := w.heap.push (.cells (vs ++ tl).toArray e (0, 0)) },
    Way.alloc (L := ⟨w.heap.size, 0, (vs ++ tl).length, sz⟩) S f2 f1 rfl (by simp) ?_ rfl rfl rfl ?_, ?_, Ren.put_same _ _ _⟩
  · intro k hk
    show (w.heap.push _)[k]? = _
    rw [Array.getElem?_push, if_neg (by omega)]
  · exact (BR.made (ex := ex) (z := z) (sz := sz) hl h1 hnew).le (Ren.put_le f1)
  · simp [newRow]

theorem Good.rowP (S : Sim ι h w) (F : Fresh ι h c out) {e sz : Nat} {ex : Bool} {z : List V} {l : List V} {vs : List Value} (hl : VRL ι l vs) (h1 : ∀ v ∈ vs, v.oneCell' = true)
    (hr : run (K (.p c 0)) (h.set (.cells e l.length sz ex z (Tr.lay l 0 .l)) c) (c + 1) r W = some out) {s : Sem Value}
    (hs : ∀ (a : Addr) (w' : World), (newRow e vs.toArray).run P w = .ok a w' → s.run P w = .ok (.pointer (some a)) w') : Good P s ι h c W w out K := by
  obtain ⟨ι', w', g1, g2, g3⟩ := Good.row (P := P) (tl := []) S F hl h1 hr
  rw [List.append_nil] at g2
  exact ⟨_, _, ι', _, _, _, _, w', hr, hs _ _ g2, by simp only [VR]; exact ⟨_, g3, rfl⟩, g1⟩

theorem aBox_ok (S : Sim ι h w) (F : Fresh ι h c out) {t : Nat} {x : V} {x' : Value} (hx : VR ι x x')
    (hr : run (x.cells fun l => .al (.cells t l.length l.length true [] (Tr.lay l 0 .l)) fun b => K (.p b 0)) h c r W = some out) : Good P (Instr.box t x') ι h c W w out K := by
  obtain ⟨l, hr, hl, h1, _⟩ := hx.cells hr
  refine Good.rowP S F hl h1 (run_al_some hr) fun a w' e => ?_
  have : (newRow t x'.cells).run P w = .ok a w' := by simpa using e
  simp only [Instr.box, newVar, Sem.run_bind, this, Result.andThen_ok, Sem.run_pure]

/-- Zeros again and again are zeros laid. -/
theorem cell_zero (z : List V) (j : Nat) : cell z .l j = z.getD (j % z.length) .u := by rw [cell_eq]; rfl

theorem BR.zeros {ι : Ren} {w : World} {b t n : Nat} {sz : Nat} {ex : Bool} {z : List V} {zs vs tl : List Value} (hv : VRL ι z zs) (h1 : ∀ v ∈ zs, v.oneCell' = true) (hn : vs.length = n)
    (hz : ∀ j, j < n → 0 < zs.length ∧ vs[j]? = zs[j % zs.length]?) (hb : w.heap[b]? = some (.cells (vs ++ tl).toArray t (0, 0))) : BR ι w ⟨b, 0, (vs ++ tl).length, sz⟩ (.cells t n sz ex z .l) := by
  have hlen := hv.length
  refine ⟨_, _, hb, by simp, by simp only [List.length_append]; omega, rfl, .inl rfl, fun j hj => ?_⟩
  obtain ⟨h0, hj'⟩ := hz j hj
  rw [cell_zero, hlen]
  have hlt : j % zs.length < z.length := by rw [hlen]; exact Nat.mod_lt _ h0
  obtain ⟨v, hv, hr⟩ := hv.get (j % zs.length) (z.getD (j % zs.length) .u) (by simp [List.getD, List.getElem?_eq_getElem hlt])
  refine ⟨v, ?_, hr, h1 v (List.mem_of_getElem? hv)⟩
  simp only [Nat.zero_add, List.getElem?_toArray, List.getElem?_append, hn, if_pos hj, hj', hv]

theorem aAlloc_ok (hT : TyOk P T) (S : Sim ι h w) (F : Fresh ι h c out) {t : Nat} {ti : TI} (ht : T.get t = some ti)
    (hr : run (.al (.cells t ti.size ti.size true (zp ti.zero) .l) fun b => K (.p b 0)) h c r W = some out) : Good P (Instr.alloc t true (.tuple #[])) ι h c W w out K := by
  obtain ⟨d, hd⟩ := hT.at ht
  obtain ⟨z, e1, e2, e3, e4, e5⟩ := hd.zero w ι
  have hr := run_al_some hr
  have hc : c < out.c := by have := run_c_le _ hr; omega
  obtain ⟨f1, f2⟩ := F c (Nat.le_refl _) hc
  have hnew : ({ w with heap := w.heap.push (.cells (z.cells.toList ++ []).toArray t (0, 0)) } : World).heap[w.heap.size]? = some (.cells (z.cells.toList ++ []).toArray t (0, 0)) := by simp
  refine ⟨.p c 0, .pointer (some ⟨w.heap.size, 0, none⟩), ι.put c ⟨w.heap.size, 0, (z.cells.toList ++ []).length, ti.size⟩, _, _, _, _, { w with heap := w.heap.push (.cells (z.cells.toList ++ []).toArray t (0, 0)) }, hr, ?_, ?_,
    Way.alloc (w' := { w with heap := w.heap.push (.cells (z.cells.toList ++ []).toArray t (0, 0)) }) (L := ⟨w.heap.size, 0, (z.cells.toList ++ []).length, ti.size⟩) S f2 f1 rfl ?_ ?_ rfl rfl rfl ?_⟩
  · simp [Instr.alloc, e1, newVar, newRow]
  · simp only [VR]; exact ⟨_, Ren.put_same _ _ _, rfl⟩
  · show w.heap.size < (w.heap.push _).size
    rw [Array.size_push]; omega
  · intro k hk
    show (w.heap.push _)[k]? = _
    rw [Array.getElem?_push, if_neg (by omega)]
  · refine ((BR.zeros (ex := true) e2 e3 (by rw [e4]) (fun j hj => ?_) hnew).le (Ren.put_le f1)).zp
    rw [e4]
    exact ⟨by omega, by rw [Nat.mod_eq_of_lt hj]⟩

theorem aFieldAddr_ok (hT : TyOk P T) (S : Sim ι h w) {t f : Nat} {x : V} {x' : Value} (hx : VR ι x x') (hr : run (aFieldAddr T t x f K) h c r W = some out) :
    Good P (Instr.fieldAt t x' f) ι h c W w out K := by
  unfold aFieldAddr at hr
  split at hr
  · rename_i b o fs _ _ _ _ ht
    obtain ⟨d, hd⟩ := hT.at ht
    obtain ⟨fields, rfl, rfl, _, _⟩ := hd.struct rfl
    simp only [VR] at hx
    obtain ⟨L, hL, rfl⟩ := hx
    split at hr
    · rename_i off ft hf
      split at hr
      · rename_i fi hfi
        obtain ⟨d', hd'⟩ := hT.at hfi
        obtain ⟨hz, hr⟩ := run_bif' hr
        rw [nbeq_iff, decide_eq_false_iff_not] at hz
        simp only [List.getElem?_map, Option.map_eq_some_iff] at hf
        obtain ⟨fd, hfd, he⟩ := hf
        cases he
        have hfd' : fields[f]? = some fd := by simpa using hfd
        refine Good.now S hr (v' := .pointer (some ⟨L.blk, L.off + (o + fd.offset), none⟩)) ?_ (by simp only [VR]; exact ⟨L, hL, rfl⟩)
        simp only [Instr.fieldAt, Sem.run_bind, hd.run_und, Result.andThen_ok, hfd', Instr.sureAddr, Sem.run_pure, fieldPlace, hd'.run_size, hz, if_false, Sem.run_ite, addr_add]
        rw [Nat.add_assoc]
      · simp [run_fail] at hr
    · simp [run_fail] at hr
  · simp [run_fail] at hr

theorem aField_ok (hT : TyOk P T) (S : Sim ι h w) {t f : Nat} {x : V} {x' : Value} (hx : VR ι x x') (hr : run (aField T t x f K) h c r W = some out) :
    Good P (Instr.field t x' f) ι h c W w out K := by
  unfold aField at hr
  split at hr
  · rename_i l fs _ _ _ _ ht
    obtain ⟨d, hd⟩ := hT.at ht
    obtain ⟨fields, rfl, rfl, _, _⟩ := hd.struct rfl
    simp only [VR] at hx
    obtain ⟨cs, rfl, hl, h1⟩ := hx
    split at hr
    · rename_i off ft hf
      split at hr
      · rename_i fi hfi
        obtain ⟨d', hd'⟩ := hT.at hfi
        obtain ⟨hz, hr⟩ := run_bif hr
        rw [ble_iff, decide_eq_true_eq] at hz
        simp only [List.getElem?_map, Option.map_eq_some_iff] at hf
        obtain ⟨fd, hfd, he⟩ := hf
        cases he
        have hfd' : fields[f]? = some fd := by simpa using hfd
        have hsz : fi.agg = false → fd.offset < l.length := fun hag => by
          obtain ⟨i, z', _, g2, _, _, g5⟩ := hd'.rest
          obtain ⟨q1, _, q3⟩ := zeroOk_one g5
          rw [hd'.agg] at hag
          rcases q3 with ⟨q, _⟩ | ⟨_, q, _⟩
          · rw [hag] at q; cases q
          · have : fi.size = 1 := by rw [← g2, ← q1, q]; rfl
            omega
        obtain ⟨v, e1, e2⟩ := part_ok (w := w) hd' hl h1 hsz
        refine Good.now S hr (v' := v) ?_ e2
        simp only [Instr.field, Sem.run_bind, hd.run_und, Result.andThen_ok, hfd', asAgg, Sem.run_pure, e1]
      · simp [run_fail] at hr
    · simp [run_fail] at hr
  · simp [run_fail] at hr

theorem aIndexAddr_ok (hT : TyOk P T) (S : Sim ι h w) {t : Nat} {x i : V} {x' i' : Value} (hx : VR ι x x') (hi : VR ι i i') (hr : run (aIndexAddr T t x i K) h c r W = some out) :
    Good P (Instr.indexAt t x' i') ι h c W w out K := by
  unfold aIndexAddr at hr
  split at hr
  · rename_i b o len cap k n e sz eb _ _ _ _ ht
    obtain ⟨d, hd⟩ := hT.at ht
    obtain ⟨rfl, inf, hinf, hsz, _⟩ := hd.slice rfl
    obtain ⟨hlt, hr⟩ := run_bif hr
    rw [nblt_iff, decide_eq_true_eq] at hlt
    simp only [VR] at hx hi
    subst hi
    obtain ⟨L, c', hL, hc', hv⟩ := hx
    have hx' : x' = .slice (some ⟨L.blk, L.off + o, none⟩) len c' := by
      cases cap with
      | some cp => obtain ⟨_, hv⟩ := hv; exact hv
      | none => rcases hv with ⟨hv, _⟩ | ⟨hv, _⟩; exact hv; omega
    subst hx'
    refine Good.now S hr (v' := .pointer (some ⟨L.blk, L.off + (o + n * sz), none⟩)) ?_ (by simp only [VR]; exact ⟨L, hL, rfl⟩)
    have hcond : (0 : Int) ≤ Int.ofNat n ∧ Int.ofNat n < (len : Int) := ⟨by simp, by simpa using hlt⟩
    have hel : P.elem t = e := by simp [Program.elem, hd.und]
    rw [run_indexAt_slice w t _ len c' k (Int.ofNat n) (by rw [hel]; exact hd.und), if_pos hcond, hel, run_sizeOf_info _ hinf, hsz]
    simp only [Result.andThen_ok, addr_add, Int.ofNat_eq_natCast, Int.toNat_natCast]
    rw [Nat.add_assoc]
  · rename_i b o lo hi k n e sz eb _ _ _ _ ht
    obtain ⟨d, hd⟩ := hT.at ht
    obtain ⟨rfl, inf, hinf, hsz, _⟩ := hd.slice rfl
    obtain ⟨hlt, hr⟩ := run_bif hr
    rw [nblt_iff, decide_eq_true_eq] at hlt
    simp only [VR] at hx hi
    subst hi
    obtain ⟨L, len, c', hL, hx', hlo, _, _⟩ := hx
    subst hx'
    refine Good.now S hr (v' := .pointer (some ⟨L.blk, L.off + (o + n * sz), none⟩)) ?_ (by simp only [VR]; exact ⟨L, hL, rfl⟩)
    have hcond : (0 : Int) ≤ Int.ofNat n ∧ Int.ofNat n < (len : Int) := ⟨by simp, by simp only [Int.ofNat_eq_natCast]; omega⟩
    have hel : P.elem t = e := by simp [Program.elem, hd.und]
    rw [run_indexAt_slice w t _ len c' k (Int.ofNat n) (by rw [hel]; exact hd.und), if_pos hcond, hel, run_sizeOf_info _ hinf, hsz]
    simp only [Result.andThen_ok, addr_add, Int.ofNat_eq_natCast, Int.toNat_natCast]
    rw [Nat.add_assoc]
  · rename_i b o k n m e sz _ _ _ _ ht
    obtain ⟨d, hd⟩ := hT.at ht
    obtain ⟨rfl, inf, hinf, hsz⟩ := hd.arr rfl
    obtain ⟨hlt, hr⟩ := run_bif hr
    rw [nblt_iff, decide_eq_true_eq] at hlt
    simp only [VR] at hx hi
    subst hi
    obtain ⟨L, hL, rfl⟩ := hx
    refine Good.now S hr (v' := .pointer (some ⟨L.blk, L.off + (o + n * sz), none⟩)) ?_ (by simp only [VR]; exact ⟨L, hL, rfl⟩)
    have hel : P.elem t = e := by simp [Program.elem, hd.und]
    have hal : P.arrayLen t = m := by simp [Program.arrayLen, hd.und]
    have hcond : (0 : Int) ≤ Int.ofNat n ∧ Int.ofNat n < (P.arrayLen t : Int) := ⟨by simp, by rw [hal]; simpa using hlt⟩
    rw [run_indexAt_array w t _ k (Int.ofNat n) (by rw [hel, hal]; exact hd.und), if_pos hcond, hel, run_sizeOf_info _ hinf, hsz]
    simp only [Result.andThen_ok, addr_add, Int.ofNat_eq_natCast, Int.toNat_natCast]
    rw [Nat.add_assoc]
  · simp [run_fail] at hr
end
end Go.Ev
