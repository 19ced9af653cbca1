/- THE ABSTRACT MACHINE AND THE MODEL: oracles that look at one row of bytes. Own work. -/
import Derived.Test.YtlainoonnnimiaaGreatDoorEvU
set_option linter.all false
set_option linter.unusedVariables false
set_option linter.constructorNameAsVariable false
set_option linter.unnecessarySimpa false
set_option linter.unusedSimpArgs false
set_option linter.unusedSimpArgs false
set_option linter.unusedVariables false
set_option linter.constructorNameAsVariable false
namespace Go.Ev

/-- Names of a small heap: the globals, and one block more: a part of another one's. -/
def subRen (ι : Ren) (ng o : Nat) (L : Loc) : Ren := fun b => if b < ng then ι b else if b = ng then some ⟨L.blk, L.off + o, L.len - o, L.sz⟩ else none
noncomputable def subHeap (ng : Nat) (x : Blk) : Tr Blk := (Tr.l : Tr Blk).set x ng

section
variable {P : Program} {T : Tab} {ι : Ren} {h : Tr Blk} {c r W : Nat} {w : World} {out : Out}

theorem subHeap_get (ng : Nat) (x : Blk) (b : Nat) : (subHeap ng x).get b = if b = ng then some x else none := by
  unfold subHeap
  rw [Tr.get_set, Tr.get_l]

theorem sub_sim {ng b o m t n sz : Nat} {ex : Bool} {z z' : List V} {cc cc' : Tr V} {L : Loc} (S : Sim ι h w) (hb : h.get b = some (.cells t n sz ex z cc)) (hL : ι b = some L) (hm : o + m ≤ n) (hfl : ∀ j, j < m → cell z' cc' j = .u ∨ (cell z' cc' j = cell z cc (o + j) ∧ flat1 (cell z cc (o + j)) = true)) :
    Sim (subRen ι ng o L) (subHeap ng (.cells t m sz ex z' cc')) w := by
  obtain ⟨hB, hlt⟩ := S.at hb hL
  obtain ⟨arr, fz, h1, h2, h3, h4, h5, h6⟩ := hB
  have hbr : BR (subRen ι ng o L) w ⟨L.blk, L.off + o, L.len - o, L.sz⟩ (.cells t m sz ex z' cc') := by
    refine ⟨arr, fz, h1, by show arr.size = L.off + o + (L.len - o); omega, by show m ≤ L.len - o; omega, h4, h5, fun j hj => ?_⟩
    obtain ⟨v, g1, g2, g3⟩ := h6 (o + j) (by omega)
    refine ⟨v, by show arr[L.off + o + j]? = _; rw [Nat.add_assoc]; exact g1, ?_, g3⟩
    rcases hfl j hj with e | ⟨e, f⟩
    · rw [e]; simp [VR]
    · rw [e]; exact g2.flat1 f
  refine ⟨fun b' x hx => ?_, fun b₁ b₂ x₁ x₂ L₁ k1 k2 _ _ _ _ => ?_⟩
  · rw [subHeap_get] at hx
    split at hx
    · rename_i e
      cases hx
      subst e
      exact ⟨⟨L.blk, L.off + o, L.len - o, L.sz⟩, by simp [subRen], hlt, hbr⟩
    · cases hx
  · rw [subHeap_get] at k1 k2
    have e1 : b₁ = ng := by
      split at k1
      · assumption
      · cases k1
    have e2 : b₂ = ng := by
      split at k2
      · assumption
      · cases k2
    rw [e1, e2]

theorem sub_glob {ng o : Nat} {L : Loc} (G : Glob ng ι) : Glob ng (subRen ι ng o L) := fun g hg => by
  obtain ⟨M, h1, h2⟩ := G g hg
  exact ⟨M, by simp [subRen, hg, h1], h2⟩

theorem sub_fresh {ng o : Nat} {x : Blk} {L : Loc} : Fresh (subRen ι ng o L) (subHeap ng x) (ng + 1) out := fun b hb _ => by
  refine ⟨?_, ?_⟩
  · simp only [subRen]; rw [if_neg (by omega), if_neg (by omega)]
  · rw [subHeap_get, if_neg (by omega)]

theorem sub_arg {ng b o m : Nat} {cap : Option Nat} {L : Loc} {v : Value} (hL : ι b = some L) (ho : o ≤ L.len) (hv : VR ι (.sl b o m cap) v) : VR (subRen ι ng o L) (.sl ng 0 m cap) v := by
  simp only [VR] at hv ⊢
  obtain ⟨L', cp, e, hle, hv⟩ := hv
  rw [hL] at e; cases e
  refine ⟨⟨L.blk, L.off + o, L.len - o, L.sz⟩, cp, by simp [subRen], hle, ?_⟩
  cases cap with
  | some k => exact hv
  | none =>
    rcases hv with ⟨hv, hs⟩ | hv
    · exact .inl ⟨hv, by show 0 + cp * L.sz = L.len - o; omega⟩
    · exact .inr hv
end

/-- What is asked of a run: its value, and which blocks it writes. -/
noncomputable def tells (o : Option Out) : Option (V × Nat) := Option.rec none (fun o => some (o.v, o.w)) o
theorem tells_some {o : Option Out} {v : V} {W : Nat} (h : tells o = some (v, W)) : ∃ q, o = some q ∧ q.v = v ∧ q.w = W := by
  cases o with
  | none => cases h
  | some q => cases h; exact ⟨q, rfl, rfl, rfl⟩

section
variable {P : Program} {T : Tab} {ι : Ren} {h : Tr Blk} {c r W : Nat} {w : World} {out : Out}

/-- An oracle that looks at a row of cells, by a run on a small heap. -/
theorem orc_row (O : Ok P T) (B : List Frame) {f n' : Nat} {fi : FI} {b o m t n : Nat} {sz : Nat} {ex : Bool} {cap : Option Nat} {z z' : List V} {cc cc' : Tr V} {rest : List V} {v₀ : V} {args' : Array Value} (S : Sim ι h w) (G : Glob T.ng ι)
    (hb : h.get b = some (.cells t n sz ex z cc)) (hm : o + m ≤ n) (hfl : ∀ j, j < m → cell z' cc' j = .u ∨ (cell z' cc' j = cell z cc (o + j) ∧ flat1 (cell z cc (o + j)) = true))
    (hfi : T.fn.get f = some fi) (hle : rest.length + 1 ≤ fi.nt) (ha : VRL ι (.sl b o m cap :: rest) args'.toList) (hrest : rest.all (fun x => match x with | .f (.func _) [] [] => true | x => flat x) = true)
    (hr : tells (run (go T n' (begun f fi (.sl T.ng 0 m cap :: rest)) []) (subHeap T.ng (.cells t m sz ex z' cc')) (T.ng + 1) 0 0) = some (v₀, 0)) (hf : flat v₀ = true) :
    ∃ v' w', VR ι v₀ v' ∧ Way ι h c W w ι h c W w' ∧ Answers P B (callFunc f args') w v' w' := by
  obtain ⟨q, hq, e1, e2⟩ := tells_some hr
  have hL : ∃ L, ι b = some L := by obtain ⟨L, e, _⟩ := S.blk b _ hb; exact ⟨L, e⟩
  obtain ⟨L, hL⟩ := hL
  have hnL : n ≤ L.len := by obtain ⟨hB, _⟩ := S.at hb hL; obtain ⟨_, _, _, _, g, _⟩ := hB; exact g
  have ha' : VRL (subRen ι T.ng o L) (.sl T.ng 0 m cap :: rest) args'.toList := by
    generalize args'.toList = vs at ha
    cases vs with
    | nil => simp [VRL] at ha
    | cons v vs =>
      simp only [VRL] at ha ⊢
      refine ⟨sub_arg hL (by omega) ha.1, ?_⟩
      have hr2 := ha.2
      clear ha hr hq
      induction rest generalizing vs with
      | nil => cases vs <;> simp [VRL] at hr2 ⊢
      | cons x rest ih =>
        cases vs with
        | nil => simp [VRL] at hr2
        | cons v vs =>
          simp only [VRL, List.all_cons, Bool.and_eq_true] at hr2 hrest ⊢
          refine ⟨?_, ih (by simp at hle ⊢; omega) hrest.2 _ hr2.2⟩
          have h1 := hrest.1
          split at h1
          · have h2 := hr2.1
            simp only [VR] at h2 ⊢
            obtain ⟨fn', a', c', e, hf', h3, h4⟩ := h2
            exact ⟨fn', a', c', e, hf', by generalize a'.toList = l at h3 ⊢; cases l <;> simp [VRL] at h3 ⊢, by generalize c'.toList = l at h4 ⊢; cases l <;> simp [VRL] at h4 ⊢⟩
          · exact hr2.1.flat h1
  have := orc_quiet (ι := ι) (h := h) (c := c) (W := W) O B hfi (by simpa using hle) hq (sub_sim S hb hL hm hfl) (sub_glob G) sub_fresh ha' (by rw [e2]; simp) (by rw [e1]; exact hf) S
  rw [e1] at this
  exact this
end

/-- check.Number, of rows of the lengths that occur. -/
noncomputable def numS (i x : Nat) : Int := wrap .i64 (wrap .i64 (.ofNat x) * .ofNat (1 <<< Nat.min (8 * i) (bitsOf .i64)))
noncomputable def numO2 (n y : Int) : Int := wrap .i64 (.ofNat (nat .i64 n ||| nat .i64 y))
noncomputable def numE (a b c d : Nat) : Int := numO2 (numO2 (numO2 (numO2 0 (numS 0 a)) (numS 1 b)) (numS 2 c)) (numS 3 d)
noncomputable def u8 (v : V) (K : Nat → M) : M := match v with | .i .u8 (.ofNat n) => K n | _ => .fail
def numLen (n : Nat) : Bool := Nat.beq n 64 || (Nat.beq n 60 || (Nat.beq n 27 || Nat.beq n 23))
noncomputable def numO (args : List V) (K : V → M) : M :=
  match args with
  | [.sl b o len _] => .rd b fun q => match q with
      | .cells _ n sz _ z cc => bif numLen len && Nat.ble (o + len) n then
          u8 (cell z cc o) fun x0 => u8 (cell z cc (o + 1)) fun x1 => u8 (cell z cc (o + 2)) fun x2 => u8 (cell z cc (o + 3)) fun x3 => K (.i .i64 (numE x0 x1 x2 x3)) else .fail
      | _ => .fail
  | _ => .fail

/-- slices.IndexFunc of bytes that are not 0: rows of noughts, and rows whose first byte is none. -/
noncomputable def idxO (g : Nat) (args : List V) (K : V → M) : M :=
  match args with
  | [.sl b o len _, .f (.func g') [] []] => bif Nat.beq g g' && Nat.beq len 64 then .rd b fun q => (match q with
      | .cells _ n sz _ z cc => bif Nat.ble (o + len) n then
          u8 (cell z cc o) fun x0 => bif Nat.beq x0 0
            then (bif (cellsFrom z cc 64 o).all (fun v => match v with | .i .u8 (.ofNat x) => Nat.beq x 0 | _ => false) then K (.i .i64 (-1)) else .fail)
            else K (.i .i64 0) else .fail
      | _ => .fail) else .fail
  | _ => .fail

theorem u8_some {v : V} {K : Nat → M} {h : Tr Blk} {c r W : Nat} {out : Out} (hr : run (u8 v K) h c r W = some out) : ∃ n, v = .i .u8 (.ofNat n) ∧ run (K n) h c r W = some out := by
  unfold u8 at hr
  split at hr
  · exact ⟨_, rfl, hr⟩
  · simp [run_fail] at hr

section
variable {P : Program} {T : Tab}
theorem numO_ok (O : Ok P T) {f N : Nat} {fi : FI} (hfi : T.fn.get f = some fi) (hle : 1 ≤ fi.nt)
    (H : ∀ (len t sz : Nat) (ex : Bool) (cap : Option Nat) (x0 x1 x2 x3 : Nat), numLen len = true → tells (run (go T N (begun f fi [.sl T.ng 0 len cap]) []) (subHeap T.ng (.cells t len sz ex [.u] (Tr.lay [.i .u8 (.ofNat x0), .i .u8 (.ofNat x1), .i .u8 (.ofNat x2), .i .u8 (.ofNat x3)] 0 .l))) (T.ng + 1) 0 0) = some (.i .i64 (numE x0 x1 x2 x3), 0)) :
    OrcOk P T.ng f numO := by
  intro B K args args' ι h c r W w out hr S G F ha
  unfold numO at hr
  split at hr
  · rename_i b o len cap
    obtain ⟨q, hq, hr⟩ := run_rd_some hr
    split at hr
    · rename_i t n sz ex z cc
      obtain ⟨h1, hr2⟩ := run_bif hr
      simp only [Bool.and_eq_true, nbeq_iff, ble_iff, decide_eq_true_eq] at h1
      obtain ⟨h2, h3⟩ := h1
      obtain ⟨x0, e0, hr3⟩ := u8_some hr2
      obtain ⟨x1, e1, hr4⟩ := u8_some hr3
      obtain ⟨x2, e2, hr5⟩ := u8_some hr4
      obtain ⟨x3, e3, hr6⟩ := u8_some hr5
      have hc : ∀ j, j < len → cell [.u] (Tr.lay [.i .u8 (.ofNat x0), .i .u8 (.ofNat x1), .i .u8 (.ofNat x2), .i .u8 (.ofNat x3)] 0 .l) j = .u ∨ (cell [.u] (Tr.lay [.i .u8 (.ofNat x0), .i .u8 (.ofNat x1), .i .u8 (.ofNat x2), .i .u8 (.ofNat x3)] 0 .l) j = cell z cc (o + j) ∧ flat1 (cell z cc (o + j)) = true) := by
        intro j hj
        rw [cell_lay]
        match j with
        | 0 => right; simp [e0, flat1]
        | 1 => right; simp [e1, flat1]
        | 2 => right; simp [e2, flat1]
        | 3 => right; simp [e3, flat1]
        | j + 4 => left; rw [if_neg (by simp)]; simp [cell_eq, Tr.get_l, Nat.mod_one]
      obtain ⟨v', w', g1, g2, g3⟩ := orc_row (c := c) (W := W) (rest := []) (cap := cap) O B S G hq h3 hc hfi (by simpa using hle) ha rfl (H len t sz ex cap x0 x1 x2 x3 h2) rfl
      exact ⟨_, v', ι, h, c, _, W, w', hr6, g1, g2, g3⟩
    · simp [run_fail] at hr
  · simp [run_fail] at hr

theorem idxO_ok (O : Ok P T) {f g N : Nat} {fi : FI} (hfi : T.fn.get f = some fi) (hle : 2 ≤ fi.nt)
    (H0 : ∀ (t sz : Nat) (ex : Bool) (cap : Option Nat), tells (run (go T N (begun f fi [.sl T.ng 0 64 cap, .f (.func g) [] []]) []) (subHeap T.ng (.cells t 64 sz ex [.i .u8 0] .l)) (T.ng + 1) 0 0) = some (.i .i64 (-1), 0))
    (H1 : ∀ (t sz : Nat) (ex : Bool) (cap : Option Nat) (x : Nat), tells (run (go T N (begun f fi [.sl T.ng 0 64 cap, .f (.func g) [] []]) []) (subHeap T.ng (.cells t 64 sz ex [.u] (Tr.lay [.i .u8 (.ofNat (x + 1))] 0 .l))) (T.ng + 1) 0 0) = some (.i .i64 0, 0)) :
    OrcOk P T.ng f (idxO g) := by
  intro B K args args' ι h c r W w out hr S G F ha
  unfold idxO at hr
  split at hr
  · rename_i b o len cap g'
    obtain ⟨h1, hr2⟩ := run_bif hr
    simp only [Bool.and_eq_true, nbeq_iff, decide_eq_true_eq] at h1
    obtain ⟨rfl, rfl⟩ := h1
    obtain ⟨q, hq, hr3⟩ := run_rd_some hr2
    split at hr3
    · rename_i t n sz ex z cc
      obtain ⟨h3, hr4⟩ := run_bif hr3
      simp only [ble_iff, decide_eq_true_eq] at h3
      obtain ⟨x0, e0, hr5⟩ := u8_some hr4
      cases hx : Nat.beq x0 0 with
      | true =>
        rw [hx, cond_true] at hr5
        obtain ⟨hall, hr6⟩ := run_bif hr5
        have hz : ∀ j, j < 64 → cell z cc (o + j) = .i .u8 0 := by
          have : ∀ (m j k : Nat), ((cellsFrom z cc m k).all (fun v => match v with | .i .u8 (.ofNat x) => Nat.beq x 0 | _ => false)) = true → j < m → cell z cc (k + j) = .i .u8 0 := by
            intro m
            induction m with
            | zero => intro j k _ h; omega
            | succ m ih =>
              intro j k ha hj
              rw [cellsFrom_succ, List.all_cons, Bool.and_eq_true] at ha
              cases j with
              | zero =>
                have := ha.1
                rw [Nat.add_zero]
                split at this
                · rename_i x hx'
                  rw [hx', Nat.eq_of_beq_eq_true this]
                  rfl
                · cases this
              | succ j =>
                have := ih j (k + 1) ha.2 (by omega)
                rw [show k + (j + 1) = k + 1 + j from by omega]
                exact this
          exact fun j hj => this 64 j o hall hj
        have hc : ∀ j, j < 64 → cell [.i .u8 0] .l j = .u ∨ (cell [.i .u8 0] .l j = cell z cc (o + j) ∧ flat1 (cell z cc (o + j)) = true) := by
          intro j hj
          right
          rw [hz j hj]
          simp [cell_eq, Tr.get_l, Nat.mod_one, flat1]
        obtain ⟨v', w', g1, g2, g3⟩ := orc_row (c := c) (W := W) (cap := cap) O B S G hq h3 hc hfi (by simpa using hle) ha rfl (H0 t sz ex cap) rfl
        exact ⟨_, v', ι, h, c, _, W, w', hr6, g1, g2, g3⟩
      | false =>
        rw [hx, cond_false] at hr5
        obtain ⟨y, rfl⟩ : ∃ y, x0 = y + 1 := by
          cases x0 with
          | zero => cases hx
          | succ y => exact ⟨y, rfl⟩
        have hc : ∀ j, j < 64 → cell [.u] (Tr.lay [.i .u8 (.ofNat (y + 1))] 0 .l) j = .u ∨ (cell [.u] (Tr.lay [.i .u8 (.ofNat (y + 1))] 0 .l) j = cell z cc (o + j) ∧ flat1 (cell z cc (o + j)) = true) := by
          intro j hj
          rw [cell_lay]
          match j with
          | 0 => right; simp [e0, flat1]
          | j + 1 => left; rw [if_neg (by simp)]; simp [cell_eq, Tr.get_l, Nat.mod_one]
        obtain ⟨v', w', g1, g2, g3⟩ := orc_row (c := c) (W := W) (cap := cap) O B S G hq h3 hc hfi (by simpa using hle) ha rfl (H1 t sz ex cap y) rfl
        exact ⟨_, v', ι, h, c, _, W, w', hr5, g1, g2, g3⟩
    · simp [run_fail] at hr3
  · simp [run_fail] at hr
end
end Go.Ev
