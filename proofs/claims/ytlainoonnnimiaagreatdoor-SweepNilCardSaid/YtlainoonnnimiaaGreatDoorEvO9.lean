/- THE ABSTRACT MACHINE AND THE MODEL: indexes; makes; append. Own work. -/
import Derived.Test.YtlainoonnnimiaaGreatDoorEvO8
set_option linter.all false
set_option linter.unusedVariables false
set_option linter.constructorNameAsVariable false
set_option linter.unnecessarySimpa false
set_option linter.unusedSimpArgs false
set_option linter.unusedSimpArgs false
namespace Go.Ev

section
variable {P : Program} {T : Tr TI} {ι : Ren} {h : Tr Blk} {c r W : Nat} {w : World} {out : Out} {K : V → M}

theorem aIndex_ok (hT : TyOk P T) (S : Sim ι h w) {t : Nat} {x i : V} {x' i' : Value} (hx : VR ι x x') (hi : VR ι i i') (hr : run (aIndex T t x i K) h c r W = some out) :
    Good P (Instr.index t x' i') ι h c W w out K := by
  unfold aIndex at hr
  split at hr
  · rename_i l k n _ _ _ _ ht
    obtain ⟨d, hd⟩ := hT.at ht
    cases hd.str rfl
    simp only [VR] at hx hi
    obtain ⟨bs, rfl, rfl⟩ := hx
    subst hi
    split at hr
    · rename_i m hm
      have hlt : n < bs.size := by
        have : n < (bytes bs).length := by
          rcases Nat.lt_or_ge n (bytes bs).length with h | h
          · exact h
          · rw [List.getElem?_eq_none h] at hm; cases hm
        simpa [bytes] using this
      have hb : bs[n]? = some bs[n] := by simp [hlt]
      refine Good.now S hr (v' := .int .u8 (bs[n].toNat)) ?_ ?_
      · simp only [Instr.index, asIntOf, Sem.run_bind, Sem.run_pure, Result.andThen_ok, hd.run_und]
        have : (if (0 : Int) ≤ Int.ofNat n then bs[(Int.ofNat n).toNat]? else none) = some bs[n] := by
          rw [if_pos (by simp)]; exact hb
        simp only [this, Sem.run_pure]
      · simp only [VR]
        congr 1
        simp only [bytes, List.getElem?_map, Option.map_eq_some_iff] at hm
        obtain ⟨u, hu, rfl⟩ := hm
        have : bs.data.toList[n]? = some bs[n] := by
          have : bs.data[n]? = some bs[n] := by
            rw [Array.getElem?_eq_getElem (show n < bs.data.size from hlt)]; rfl
          simpa using this
        rw [hu] at this
        cases this
        rfl
    · simp [run_fail] at hr
  · rename_i l k n m e sz _ _ _ _ ht
    obtain ⟨d, hd⟩ := hT.at ht
    obtain ⟨rfl, inf, hinf, hsz⟩ := hd.arr rfl
    obtain ⟨hle, hr⟩ := run_bif hr
    rw [Bool.and_eq_true, nblt_iff, ble_iff, decide_eq_true_eq, decide_eq_true_eq] at hle
    split at hr
    · rename_i ei hei
      obtain ⟨d', hd'⟩ := hT.at hei
      simp only [VR] at hx hi
      obtain ⟨cs, rfl, hl, h1⟩ := hx
      subst hi
      have hes : ei.size = sz := by
        obtain ⟨i, _, q1, q2, _⟩ := hd'.rest
        rw [hinf] at q1; cases q1
        rw [← q2, hsz]
      have hag : ei.agg = false → n * sz < l.length := fun hag => by
        obtain ⟨i, z', _, g2, _, _, g5⟩ := hd'.rest
        obtain ⟨q1, _, q3⟩ := zeroOk_one g5
        rw [hd'.agg] at hag
        rcases q3 with ⟨q, _⟩ | ⟨_, q, _⟩
        · rw [hag] at q; cases q
        · have : ei.size = 1 := by rw [← g2, ← q1, q]; rfl
          omega
      obtain ⟨v, e1, e2⟩ := part_ok (w := w) hd' hl h1 hag
      refine Good.now S hr (v' := v) ?_ e2
      have hcond : (0 : Int) ≤ Int.ofNat n ∧ Int.ofNat n < (m : Int) := ⟨by simp, by simpa using hle.1⟩
      simp only [Instr.index, asIntOf, Sem.run_bind, Sem.run_pure, Result.andThen_ok, hd.run_und]
      rw [if_pos hcond]
      simp only [Sem.run_bind, run_sizeOf_info _ hinf, hsz, Result.andThen_ok, Int.ofNat_eq_natCast, Int.toNat_natCast, e1]
    · simp [run_fail] at hr
  · simp [run_fail] at hr

theorem aMakeSlice_ok (hT : TyOk P T) (S : Sim ι h w) (F : Fresh ι h c out) {t : Nat} {l cp : V} {l' cp' : Value} (hl : VR ι l l') (hcp : VR ι cp cp') (hr : run (aMakeSlice T t l cp K) h c r W = some out) :
    Good P (Instr.makeSlice t l' cp') ι h c W w out K := by
  unfold aMakeSlice at hr
  split at hr
  · rename_i k1 l k2 cp e sz eb _ _ _ _ ht
    obtain ⟨d, hd⟩ := hT.at ht
    obtain ⟨rfl, inf, hinf, hsz, heb⟩ := hd.slice rfl
    split at hr
    · rename_i ei hei
      obtain ⟨d', hd'⟩ := hT.at hei
      obtain ⟨hle, hr⟩ := run_bif hr
      simp only [Bool.and_eq_true, ble_iff, decide_eq_true_eq] at hle
      obtain ⟨⟨h1, h2⟩, h3⟩ := hle
      simp only [VR] at hl hcp
      subst hl hcp
      obtain ⟨z, z1, z2, z3, z4⟩ := zero_cells hd' ι w
      have hes : ei.size = sz := by
        obtain ⟨i, _, q1, q2, _⟩ := hd'.rest
        rw [hinf] at q1; cases q1
        rw [← q2, hsz]
      have hzs : z.cells.size = sz := by rw [z4, hes]
      have hr := run_al_some hr
      have hc : c < out.c := by have := run_c_le _ hr; omega
      obtain ⟨f1, f2⟩ := F c (Nat.le_refl _) hc
      let vs : List Value := ((Array.range (cp * sz)).map (fun i => z.cells[i % sz]!)).toList
      have hvl : vs.length = cp * sz := by simp [vs]
      let w' : World := { w with heap := w.heap.push (.cells (vs ++ []).toArray e (0, 0)) }
      have hnew : w'.heap[w.heap.size]? = some (.cells (vs ++ []).toArray e (0, 0)) := by simp [w']
      have hwl : IntKind.i64.wrap (l : Int) = (l : Int) := by
        rw [← wrap_eq]; simp only [wrap]; rw [← Int.ofNat_eq_natCast]; simp only [wrapS, nblt_iff]; rw [decide_eq_true (by omega)]; rfl
      have hwc : IntKind.i64.wrap (cp : Int) = (cp : Int) := by
        rw [← wrap_eq]; simp only [wrap]; rw [← Int.ofNat_eq_natCast]; simp only [wrapS, nblt_iff]; rw [decide_eq_true (by omega)]; rfl
      refine ⟨.sl c 0 l (some cp), .slice (some ⟨w.heap.size, 0, none⟩) l cp, ι.put c ⟨w.heap.size, 0, (vs ++ []).length, sz⟩, _, _, _, _, w', hr, ?_, ?_,
        Way.alloc (w' := w') (L := ⟨w.heap.size, 0, (vs ++ []).length, sz⟩) S f2 f1 rfl ?_ ?_ rfl rfl rfl ?_⟩
      · have hti : (typeInfo e).run P w = .ok inf w := by simp [typeInfo, hinf]
        have hno : ¬ ((inf.bytes : Int) * (cp : Int) > 281474976710656) := by
          rw [heb]
          have : ((eb : Int) * (cp : Int)) = ((cp * eb : Nat) : Int) := by simp [Int.mul_comm]
          rw [this]
          omega
        simp only [Instr.makeSlice, Sem.run_bind, hd.run_und, Result.andThen_ok, asInt, asIntOf, Sem.run_pure, hti, Int.ofNat_eq_natCast, hwl, hwc]
        rw [if_neg (by simp; omega)]
        simp only [Sem.run_bind, run_askRoom, Result.andThen_ok, run_sizeOf_info _ hinf, hsz, Int.toNat_natCast]
        by_cases h0 : cp * sz = 0
        · have hm : ∀ f : Nat → Value, Array.map f (Array.range 0) = #[] := fun f => by apply Array.ext'; simp
          have : vs.toArray = #[] := by apply Array.ext'; simp [vs, h0]
          simp [h0, hm, newRow, w', this]
        · simp only [h0, if_false, z1, Sem.run_bind, Result.andThen_ok, Sem.run_pure, hzs, newRow, run_newObj]
          have : (vs ++ []).toArray = Array.map (fun x => z.cells[x % sz]!) (Array.range (cp * sz)) := by apply Array.ext'; simp [vs]
          simp only [w', this]
      · simp only [VR]
        exact ⟨_, cp, Ren.put_same _ _ _, h1, rfl, rfl⟩
      · show w.heap.size < (w.heap.push _).size
        rw [Array.size_push]; omega
      · intro k hk
        show (w.heap.push _)[k]? = _
        rw [Array.getElem?_push, if_neg (by omega)]
      · refine ((BR.zeros (ex := true) z2 z3 hvl (fun j hj => ?_) hnew).le (Ren.put_le f1)).zp
        have hpos : 0 < sz := by
          rcases Nat.eq_zero_or_pos sz with h | h
          · rw [h] at hj; simp at hj
          · exact h
        have hlt := Nat.mod_lt j hpos
        refine ⟨by simp [hzs, hpos], ?_⟩
        simp only [vs, Array.getElem?_toList, Array.getElem?_map, Array.getElem?_range]
        rw [if_pos hj]
        simp only [Option.map_some, Array.length_toList, hzs]
        simp [getElem!_pos, hzs, hlt]
    · simp [run_fail] at hr
  · simp [run_fail] at hr

theorem BR.less {L : Loc} {t n m sz : Nat} {ex : Bool} {z : List V} {cc : Tr V} (hB : BR ι w L (.cells t n sz ex z cc)) (hm : m ≤ n) : BR ι w L (.cells t m sz ex z cc) := by
  obtain ⟨arr, fz, h1, h2, h3, h4, h5, h6⟩ := hB
  exact ⟨arr, fz, h1, h2, by omega, h4, h5, fun j hj => h6 j (by omega)⟩

theorem aMakeSliceQ_ok (hT : TyOk P T) (S : Sim ι h w) (F : Fresh ι h c out) {t : Nat} {x : V} {x' : Value} (hl : VR ι x x') (hr : run (aMakeSliceQ T t x K) h c r W = some out) :
    Good P (Instr.makeSlice t x' x') ι h c W w out K := by
  unfold aMakeSliceQ at hr
  split at hr
  · rename_i k1 lo hi _ _ e sz eb _ _ _ _ ht
    obtain ⟨d, hd⟩ := hT.at ht
    obtain ⟨rfl, inf, hinf, hsz, heb⟩ := hd.slice rfl
    split at hr
    · rename_i ei hei
      obtain ⟨d', hd'⟩ := hT.at hei
      obtain ⟨hle, hr⟩ := run_bif hr
      simp only [Bool.and_eq_true, ble_iff, decide_eq_true_eq] at hle
      obtain ⟨h2', h3'⟩ := hle
      simp only [VR] at hl
      obtain ⟨xn, rfl, g1, g2, _⟩ := hl
      obtain ⟨cp, rfl⟩ : ∃ n : Nat, xn = (n : Int) := ⟨xn.toNat, by simp only [Int.ofNat_eq_natCast] at g1; omega⟩
      simp only [Int.ofNat_eq_natCast] at g1 g2
      have h4 : lo ≤ cp := by omega
      have h5 : cp ≤ hi := by omega
      have h2 : cp * eb ≤ 1099511627776 := Nat.le_trans (Nat.mul_le_mul_right _ h5) h2'
      have h3 : cp ≤ 1099511627776 := by omega
      obtain ⟨z, z1, z2, z3, z4⟩ := zero_cells hd' ι w
      have hes : ei.size = sz := by
        obtain ⟨i, _, q1, q2, _⟩ := hd'.rest
        rw [hinf] at q1; cases q1
        rw [← q2, hsz]
      have hzs : z.cells.size = sz := by rw [z4, hes]
      have hr := run_al_some hr
      have hc : c < out.c := by have := run_c_le _ hr; omega
      obtain ⟨f1, f2⟩ := F c (Nat.le_refl _) hc
      let vs : List Value := ((Array.range (cp * sz)).map (fun i => z.cells[i % sz]!)).toList
      have hvl : vs.length = cp * sz := by simp [vs]
      let w' : World := { w with heap := w.heap.push (.cells (vs ++ []).toArray e (0, 0)) }
      have hnew : w'.heap[w.heap.size]? = some (.cells (vs ++ []).toArray e (0, 0)) := by simp [w']
      have hwc : IntKind.i64.wrap (cp : Int) = (cp : Int) := by
        rw [← wrap_eq]; simp only [wrap]; rw [← Int.ofNat_eq_natCast]; simp only [wrapS, nblt_iff]; rw [decide_eq_true (by omega)]; rfl
      refine ⟨.slq c 0 lo hi, .slice (some ⟨w.heap.size, 0, none⟩) cp cp, ι.put c ⟨w.heap.size, 0, (vs ++ []).length, sz⟩, _, _, _, _, w', hr, ?_, ?_,
        Way.alloc (w' := w') (L := ⟨w.heap.size, 0, (vs ++ []).length, sz⟩) S f2 f1 rfl ?_ ?_ rfl rfl rfl ?_⟩
      · have hti : (typeInfo e).run P w = .ok inf w := by simp [typeInfo, hinf]
        have hno : ¬ ((inf.bytes : Int) * (cp : Int) > 281474976710656) := by
          rw [heb]
          have : ((eb : Int) * (cp : Int)) = ((cp * eb : Nat) : Int) := by simp [Int.mul_comm]
          rw [this]
          omega
        simp only [Instr.makeSlice, Sem.run_bind, hd.run_und, Result.andThen_ok, asInt, asIntOf, Sem.run_pure, hti, Int.ofNat_eq_natCast, hwc]
        rw [if_neg (by simp; omega)]
        simp only [Sem.run_bind, run_askRoom, Result.andThen_ok, run_sizeOf_info _ hinf, hsz, Int.toNat_natCast]
        by_cases h0 : cp * sz = 0
        · have hm : ∀ f : Nat → Value, Array.map f (Array.range 0) = #[] := fun f => by apply Array.ext'; simp
          have : vs.toArray = #[] := by apply Array.ext'; simp [vs, h0]
          simp [h0, hm, newRow, w', this]
        · simp only [h0, if_false, z1, Sem.run_bind, Result.andThen_ok, Sem.run_pure, hzs, newRow, run_newObj]
          have : (vs ++ []).toArray = Array.map (fun x => z.cells[x % sz]!) (Array.range (cp * sz)) := by apply Array.ext'; simp [vs]
          simp only [w', this]
      · simp only [VR]
        exact ⟨_, cp, cp, Ren.put_same _ _ _, rfl, h4, h5, Nat.le_refl _⟩
      · show w.heap.size < (w.heap.push _).size
        rw [Array.size_push]; omega
      · intro k hk
        show (w.heap.push _)[k]? = _
        rw [Array.getElem?_push, if_neg (by omega)]
      · refine (((BR.zeros (ex := false) (n := cp * sz) z2 z3 hvl (fun j hj => ?_) hnew).less (Nat.mul_le_mul_right sz h4)).le (Ren.put_le f1)).zp
        have hpos : 0 < sz := by
          rcases Nat.eq_zero_or_pos sz with h | h
          · rw [h] at hj; simp at hj
          · exact h
        have hlt := Nat.mod_lt j hpos
        refine ⟨by simp [hzs, hpos], ?_⟩
        simp only [vs, Array.getElem?_toList, Array.getElem?_map, Array.getElem?_range]
        rw [if_pos hj]
        simp only [Option.map_some, Array.length_toList, hzs]
        simp [getElem!_pos, hzs, hlt]
    · simp [run_fail] at hr
  · simp [run_fail] at hr
end
end Go.Ev
