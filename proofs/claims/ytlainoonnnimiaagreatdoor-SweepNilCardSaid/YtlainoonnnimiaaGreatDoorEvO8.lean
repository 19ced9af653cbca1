/- THE ABSTRACT MACHINE AND THE MODEL: conversions; indexes; makes. Own work. -/
import Derived.Test.YtlainoonnnimiaaGreatDoorEvO7
set_option linter.all false
set_option linter.unusedVariables false
set_option linter.constructorNameAsVariable false
set_option linter.unnecessarySimpa false
set_option linter.unusedSimpArgs false
set_option linter.unusedSimpArgs false
namespace Go.Ev

section
variable {P : Program} {T : Tr TI} {ι : Ren} {h : Tr Blk} {c r W : Nat} {w : World} {out : Out} {K : V → M}

theorem asBytes_eq (x : V) (l : List V) : asBytes (x :: l) = (match x, asBytes l with
      | .i .u8 (.ofNat n), some l => bif Nat.blt n 256 then some (n :: l) else none
      | _, _ => none) := rfl

theorem asBytes_cons {x : V} {l : List V} {ns : List Nat} (e : asBytes (x :: l) = some ns) : ∃ n l', x = .i .u8 (.ofNat n) ∧ asBytes l = some l' ∧ n < 256 ∧ ns = n :: l' := by
  rw [asBytes_eq] at e
  split at e
  · rename_i n l' hl
    cases hb : Nat.blt n 256 with
    | false => rw [hb] at e; cases e
    | true =>
      rw [hb] at e; cases e
      rw [nblt_iff, decide_eq_true_eq] at hb
      exact ⟨n, l', rfl, hl, hb, rfl⟩
  · cases e

theorem asBytes_ok : ∀ {l : List V} {vs : List Value} {ns : List Nat}, VRL ι l vs → asBytes l = some ns → vs = (ns.map Int.ofNat).map (Value.int .u8) ∧ ∀ n ∈ ns, n < 256
  | [], [], ns, _, e => by
    have : asBytes [] = some [] := rfl
    rw [this] at e; cases e; simp
  | [], _ :: _, _, h, _ => by simp [VRL] at h
  | _ :: _, [], _, h, _ => by simp [VRL] at h
  | x :: l, v :: vs, ns, h, e => by
    simp only [VRL] at h
    obtain ⟨n, l', rfl, hl, hb, rfl⟩ := asBytes_cons e
    obtain ⟨g1, g2⟩ := asBytes_ok h.2 hl
    have hv : v = .int .u8 (Int.ofNat n) := by simpa [VR] using h.1
    refine ⟨by rw [hv, g1]; rfl, ?_⟩
    intro m hm
    rcases List.mem_cons.1 hm with rfl | hm
    · exact hb
    · exact g2 m hm

theorem fold_push : ∀ (ns : List Nat) (s : ByteArray), (∀ n ∈ ns, n < 256) → bytes ((ns.map Int.ofNat).foldl (fun r n => r.push (UInt8.ofNat n.toNat)) s) = bytes s ++ ns
  | [], s, _ => by simp
  | n :: ns, s, h => by
    simp only [List.map_cons, List.foldl_cons]
    rw [fold_push ns _ (fun m hm => h m (by simp [hm]))]
    have : bytes (s.push (UInt8.ofNat n)) = bytes s ++ [n] := by
      have hn := h n (by simp)
      simp [bytes, ByteArray.data_push]
      omega
    simp [this]

theorem freeze_heap (w : World) (b n : Nat) (arr : Array Value) (t : Nat) (fz : Nat × Nat) (hb : w.heap[b]? = some (.cells arr t fz)) :
    (w.freeze ⟨b, n, none⟩ 1).heap[b]? = some (.cells arr t (if fz.1 == fz.2 then (n, n + 1) else (min fz.1 n, max fz.2 (n + 1)))) ∧ (∀ k, k ≠ b → (w.freeze ⟨b, n, none⟩ 1).heap[k]? = w.heap[k]?) ∧ (w.freeze ⟨b, n, none⟩ 1).heap.size = w.heap.size := by
  unfold World.freeze
  rw [if_neg (by omega)]
  refine ⟨?_, fun k hk => ?_, by simp⟩
  · simp only [Array.getElem?_modify, hb, if_true, Option.map_some]
  · simp [Array.getElem?_modify, Ne.symm hk]

/-- '[]byte' of '[]byte': a mark behind the row. -/
theorem run_mark {L : Loc} {t n sz : Nat} {ex : Bool} {z : List V} {cc : Tr V} (hb : BR ι w L (.cells t n sz ex z cc)) (q : Nat) :
    ∃ w' : World, (markStringish ⟨L.blk, q, none⟩).run P w = .ok () w' ∧ (∀ k, k ≠ L.blk → w'.heap[k]? = w.heap[k]?) ∧ w'.heap.size = w.heap.size ∧ w'.os = w.os ∧ w'.tape = w.tape ∧ w'.output = w.output ∧ BR ι w' L (.cells t n sz ex z cc) := by
  obtain ⟨arr, fz, g1, g2, g3, g4, g5, g6⟩ := hb
  obtain ⟨e1, e2, e3⟩ := freeze_heap w L.blk arr.size arr t fz g1
  refine ⟨w.freeze ⟨L.blk, arr.size, none⟩ 1, ?_, e2, e3, by unfold World.freeze; split <;> rfl, by unfold World.freeze; split <;> rfl, by unfold World.freeze; split <;> rfl, ?_⟩
  · simp [markStringish, World.shape?, g1]
  · refine ⟨arr, _, e1, g2, g3, g4, ?_, g6⟩
    right
    split
    · simp
    · rename_i hne
      rcases g5 with g5 | g5
      · exact absurd (by simpa using g5) hne
      · simp; omega

theorem tyU8 {e : Nat} {a b z g} (hT : TyOk P T) (he : T.get e = some ⟨.int .u8, a, b, z, g⟩) : P.underlying e = some (.int .u8) := by
  obtain ⟨d, hd⟩ := hT.at he
  cases hd.int rfl
  exact hd.und

/-- A new row with cells behind what is known. -/
theorem Good.grow (S : Sim ι h w) (F : Fresh ι h c out) {e sz n cells : Nat} {z : List V} {l : List V} {vs tl : List Value} {cap : Nat} (hl : VRL ι l vs) (h1 : ∀ v ∈ vs, v.oneCell' = true) (hn : l.length = cells)
    (hcap : (vs ++ tl).length = cap * sz) (hle : n ≤ cap)
    (hr : run (K (.sl c 0 n none)) (h.set (.cells e cells sz false z (Tr.lay l 0 .l)) c) (c + 1) r W = some out) {s : Sem Value}
    (hs : ∀ (a : Addr) (w' : World), (newRow e (vs ++ tl).toArray).run P w = .ok a w' → s.run P w = .ok (.slice (some a) n cap) w') : Good P s ι h c W w out K := by
  subst hn
  obtain ⟨ι', w', g1, g2, g3⟩ := Good.row (P := P) (K := fun _ => K (.sl c 0 n none)) (tl := tl) S F hl h1 hr
  refine ⟨_, _, ι', _, _, _, _, w', hr, hs _ _ g2, ?_, g1⟩
  simp only [VR]
  refine ⟨_, cap, g3, hle, .inl ⟨rfl, ?_⟩⟩
  simp only [Nat.zero_add]
  exact hcap.symm

theorem bytes_cells (bs : ByteArray) : VRL ι ((bytes bs).map fun n => V.i .u8 (.ofNat n)) (bs.data.toList.map fun b => Value.int .u8 b.toNat) ∧ ∀ v ∈ (bs.data.toList.map fun b => Value.int .u8 b.toNat), v.oneCell' = true := by
  unfold bytes
  rw [List.map_map]
  refine ⟨VRL.map_map fun x _ => ?_, fun v hv => ?_⟩
  · simp [VR]
  · simp only [List.mem_map] at hv
    obtain ⟨b, _, rfl⟩ := hv
    rfl

/-- The same operation in a world in which only draws were made. -/
theorem Good.drawn {s s' : Sem Value} {w₁ : World} (S : Sim ι h w) (hh : w₁.heap = w.heap) (ho : w₁.os = w.os) (ht : w₁.tape = w.tape) (hp : w₁.output = w.output) (hs : s.run P w = s'.run P w₁) (hg : Good P s' ι h c W w₁ out K) : Good P s ι h c W w out K := by
  obtain ⟨v, v', ι', h', c', r', W', w', g1, g2, g3, g4⟩ := hg
  exact ⟨v, v', ι', h', c', r', W', w', g1, by rw [hs, g2], g3, (Way.draw w₁ S hh ho ht hp).trans g4⟩

theorem aConv_ok (hT : TyOk P T) (S : Sim ι h w) (F : Fresh ι h c out) {src dst : Nat} {x : V} {x' : Value} (hx : VR ι x x') (hr : run (aConv T src dst x K) h c r W = some out) :
    Good P (convert src dst x') ι h c W w out K := by
  unfold aConv at hr
  split at hr
  · rename_i s d hs hd
    obtain ⟨ds, hds⟩ := hT.at hs
    obtain ⟨dd, hdd⟩ := hT.at hd
    split at hr
    · -- bytes as they are
      rename_i _ _ _ e eb b o n cap h1 h2
      obtain ⟨rfl, _⟩ := hds.slice h1
      obtain ⟨rfl, _⟩ := hdd.slice h2
      cases hb : Nat.beq src dst with
      | false => rw [hb] at hr; simp [run_fail] at hr
      | true =>
        rw [hb, cond_true] at hr
        rw [nbeq_iff, decide_eq_true_eq] at hb
        split at hr
        · rename_i he
          have hu := tyU8 hT he
          obtain ⟨q, hq, hr⟩ := run_rd_some hr
          split at hr
          · rename_i t n' sz ex z cc
            have hr := run_wr_some hr
            simp only [VR] at hx
            obtain ⟨L, cp, hL, hcp, hv⟩ := hx
            obtain ⟨hB, _⟩ := S.at hq hL
            have hxq : ∃ p m c'', x' = .slice (some ⟨L.blk, p, none⟩) m c'' := by
              cases cap with
              | some cc => exact ⟨_, _, _, hv.2⟩
              | none => rcases hv with ⟨hv, _⟩ | ⟨_, q', hv⟩; exact ⟨_, _, _, hv⟩; exact ⟨_, _, _, hv⟩
            obtain ⟨p, m, c'', hxe⟩ := hxq
            obtain ⟨w', m1, m2, m3, m4, m5, m6, m7⟩ := run_mark (P := P) hB p
            refine ⟨_, x', ι, _, _, _, _, w', hr, ?_, ?_, Way.write S hq trivial hL m2 m3 m4 m5 m6 m7⟩
            · rw [hxe]
              simp only [convert, Sem.run_bind, hds.run_und, hdd.run_und, Result.andThen_ok, hb, beq_self_eq_true, run_underlying hu, m1, Sem.run_pure]
            · simp only [VR]
              exact ⟨L, cp, hL, hcp, hv⟩
          · simp [run_fail] at hr
        · simp [run_fail] at hr
    · rename_i k k' n h1
      cases hdd.int h1
      simp only [VR] at hx; subst hx
      refine Good.now S hr (v' := .int k (k.wrap n)) ?_ (by simp only [VR]; rw [wrap_eq])
      simp only [convert, Sem.run_bind, hds.run_und, hdd.run_und, Result.andThen_ok, Conv.intToInt, Sem.run_pure]
    · rename_i k k' lo hi m r₀ h1
      cases hdd.int h1
      simp only [VR] at hx
      obtain ⟨n, rfl, g1, g2, g3⟩ := hx
      obtain ⟨hb, hr⟩ := run_bif hr
      simp only [Bool.and_eq_true, ile_iff, decide_eq_true_eq] at hb
      refine Good.now S hr (v' := .int k (k.wrap n)) ?_ ?_
      · simp only [convert, Sem.run_bind, hds.run_und, hdd.run_und, Result.andThen_ok, Conv.intToInt, Sem.run_pure]
      · rw [wrap_in k n (by omega) (by omega)]
        simp only [VR]
        exact ⟨n, rfl, g1, g2, g3⟩
    · rename_i l h1 h2
      cases hds.str h1
      cases hdd.str h2
      simp only [VR] at hx
      obtain ⟨bs, rfl, rfl⟩ := hx
      refine Good.now S hr (v' := .string bs) ?_ (by simp only [VR]; exact ⟨_, rfl, rfl⟩)
      simp only [convert, Sem.run_bind, hds.run_und, hdd.run_und, Result.andThen_ok, Sem.run_pure]
    · rename_i e eb l h1 h2
      cases hds.str h1
      obtain ⟨rfl, _⟩ := hdd.slice h2
      split at hr
      · rename_i he
        have hu := tyU8 hT he
        simp only [VR] at hx
        obtain ⟨bs, rfl, rfl⟩ := hx
        obtain ⟨bc1, bc2⟩ := bytes_cells (ι := ι) bs
        have hlen : (bytes bs).length = bs.size := by simp [bytes]
        let cp := bs.size + w.tape w.drawn (.appendCap bs.size 0 e) % (2 ^ 63 - bs.size)
        let w₁ : World := w.drew
        have hr := run_al_some hr
        refine Good.drawn (w₁ := w₁) (s' := (do
          let a ← newRow e (bs.data.map (fun b => Value.int .u8 b.toNat) ++ Array.replicate (cp - bs.size) (.int .u8 0))
          markStringish a
          pure (.slice (some a) bs.size cp) : Sem Value)) S rfl rfl rfl rfl ?_ ?_
        · simp only [convert, Sem.run_bind, hds.run_und, hdd.run_und, Result.andThen_ok, run_underlying hu, Conv.stringToBytes, run_choose, Question.forced, Bool.false_eq_true, if_false, Question.cut]
          rfl
        · have S₁ : Sim ι h w₁ := S.world rfl
          have hc : c < out.c := by have := run_c_le _ hr; omega
          obtain ⟨f1, f2⟩ := F c (Nat.le_refl _) hc
          let vs : List Value := bs.data.toList.map fun b => Value.int .u8 b.toNat
          let tl : List Value := List.replicate (cp - bs.size) (.int .u8 0)
          let w₂ : World := { w₁ with heap := w₁.heap.push (.cells (vs ++ tl).toArray e (0, 0)) }
          let L : Loc := ⟨w₁.heap.size, 0, (vs ++ tl).length, 1⟩
          have hnew : w₂.heap[w₁.heap.size]? = some (.cells (vs ++ tl).toArray e (0, 0)) := by simp [w₂]
          have hB : BR (ι.put c L) w₂ L (.cells e ((bytes bs).map fun n => V.i .u8 (.ofNat n)).length 1 false [.i .u8 0] (Tr.lay ((bytes bs).map fun n => V.i .u8 (.ofNat n)) 0 .l)) :=
            (BR.made (ex := false) (z := [.i .u8 0]) (sz := 1) bc1 bc2 hnew).le (Ren.put_le f1)
          rw [List.length_map] at hB
          obtain ⟨w₃, m1, m2, m3, m4, m5, m6, m7⟩ := run_mark (P := P) hB 0
          have hrow : (newRow e (bs.data.map (fun b => Value.int .u8 b.toNat) ++ Array.replicate (cp - bs.size) (.int .u8 0))).run P w₁ = .ok ⟨w₁.heap.size, 0, none⟩ w₂ := by
            have : (bs.data.map (fun b => Value.int .u8 b.toNat) ++ Array.replicate (cp - bs.size) (.int .u8 0)) = (vs ++ tl).toArray := by apply Array.ext'; simp [vs, tl]
            rw [this]; simp [newRow, w₂]
          have hcp : bs.size ≤ cp := Nat.le_add_right _ _
          have m1' : (markStringish ⟨w₁.heap.size, 0, none⟩).run P w₂ = .ok () w₃ := m1
          refine ⟨.sl c 0 (bytes bs).length none, .slice (some ⟨w₁.heap.size, 0, none⟩) bs.size cp, ι.put c L, _, _, _, _, w₃, hr, ?_, ?_, Way.alloc (L := L) S₁ f2 f1 rfl ?_ ?_ m4 m5 m6 m7⟩
          · simp only [Sem.run_bind, hrow, Result.andThen_ok, m1', Sem.run_pure]
          · simp only [VR]
            refine ⟨L, cp, Ren.put_same _ _ _, by rw [hlen]; exact hcp, .inl ⟨by rw [hlen], ?_⟩⟩
            simp [L, vs, tl]
            have : bs.data.size = bs.size := rfl
            omega
          · rw [m3]; simp [w₂]
          · intro k hk
            rw [m2 k (by simp only [L]; omega)]
            show (w₁.heap.push _)[k]? = _
            rw [Array.getElem?_push, if_neg (by omega)]
      · simp [run_fail] at hr
    · rename_i e eb h1 h2
      obtain ⟨rfl, _⟩ := hds.slice h1
      cases hdd.str h2
      split at hr
      · rename_i he
        have hu := tyU8 hT he
        split at hr
        · simp only [VR] at hx; subst hx
          refine Good.now S hr (v' := .string .empty) ?_ (by simp only [VR]; exact ⟨_, rfl, rfl⟩)
          rw [run_convert_bytes_string w src dst e none 0 0 hds.und hu hdd.und]
          rfl
        · rename_i b o n cap
          obtain ⟨q, hq, hr⟩ := run_rd_some hr
          split at hr
          · rename_i t m sz ex z cc
            obtain ⟨hle, hr⟩ := run_bif hr
            rw [ble_iff, decide_eq_true_eq] at hle
            split at hr
            · rename_i ns hns
              simp only [VR] at hx
              obtain ⟨L, cp, hL, hcp, hv⟩ := hx
              obtain ⟨hB, _⟩ := S.at hq hL
              have hxe : ∃ p c'', x' = .slice (some ⟨L.blk, p, none⟩) n c'' ∧ (n = 0 ∨ p = L.off + o) := by
                cases cap with
                | some cc => exact ⟨_, _, hv.2, .inr rfl⟩
                | none => rcases hv with ⟨hv, _⟩ | ⟨hn, q', hv⟩; exact ⟨_, _, hv, .inr rfl⟩; subst hn; exact ⟨_, _, hv, .inl rfl⟩
              obtain ⟨p, c'', rfl, hp⟩ := hxe
              obtain ⟨vs, e1, e2, _, e4⟩ := run_cells (P := P) hB hle
              obtain ⟨g1, g2⟩ := asBytes_ok e2 hns
              have hload : (loadCells ⟨L.blk, p, none⟩ n).run P w = .ok (((ns.map Int.ofNat).map (Value.int .u8)).toArray) w := by
                rcases hp with rfl | rfl
                · have : vs = [] := by simpa using e4
                  rw [← g1, this]; rfl
                · rw [e1, g1]
              refine Good.now S hr (v' := .string ((ns.map Int.ofNat).foldl (fun r n => r.push (UInt8.ofNat n.toNat)) ByteArray.empty)) ?_ ?_
              · rw [run_convert_bytes_string w src dst e _ _ _ hds.und hu hdd.und]
                exact run_bytesToString w _ n c'' (ns.map Int.ofNat) hload
              · simp only [VR]
                exact ⟨_, rfl, fold_push ns ByteArray.empty g2⟩
            · simp [run_fail] at hr
          · simp [run_fail] at hr
        · simp [run_fail] at hr
      · simp [run_fail] at hr
    · simp [run_fail] at hr
  · simp [run_fail] at hr
end
end Go.Ev
