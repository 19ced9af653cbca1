/- THE ABSTRACT MACHINE AND THE MODEL: what is meant by what. Own work. -/
import Derived.Test.YtlainoonnnimiaaGreatDoorEv3
import Derived.Laws.Sem
import Derived.Laws.World
import Derived.Laws.Cells
import Derived.Laws.Entries
import Derived.Laws.IdiomCopy
import Derived.Laws.CopyRow
set_option linter.all false
set_option linter.unusedVariables false
set_option linter.constructorNameAsVariable false
set_option linter.unnecessarySimpa false
set_option linter.unusedSimpArgs false
namespace Go.Ev

/-- Where a block stands: the model's block, the first of its cells there, how many cells are its own (to that block's end), how many cells an element has. -/
structure Loc where
  blk : Nat
  off : Nat
  len : Nat
  sz : Nat

abbrev Ren := Nat → Option Loc

def Ren.le (ι κ : Ren) : Prop := ∀ b L, ι b = some L → κ b = some L
theorem Ren.le_refl (ι : Ren) : ι.le ι := fun _ _ h => h
theorem Ren.le_trans {a b c : Ren} (h : a.le b) (k : b.le c) : a.le c := fun x L e => k x L (h x L e)

def FnR (ι : Ren) (f g : Fn) : Prop :=
  match f with
  | .yield l => ∃ L, ι l = some L ∧ g = .yield L.blk
  | f => g = f

def SlR (ι : Ren) (b o len : Nat) (cap : Option Nat) (v : Value) : Prop :=
  ∃ L cap', ι b = some L ∧ len ≤ cap' ∧
    match cap with
    | some c => cap' = c ∧ v = .slice (some ⟨L.blk, L.off + o, none⟩) len cap'
    | none => (v = .slice (some ⟨L.blk, L.off + o, none⟩) len cap' ∧ o + cap' * L.sz = L.len) ∨ (len = 0 ∧ ∃ q, v = .slice (some ⟨L.blk, q, none⟩) 0 0)

mutual
def VR (ι : Ren) : V → Value → Prop
  | .u, _ => True
  | .b x, v => v = .bool x
  | .i k n, v => v = .int k n
  | .s l, v => ∃ s, v = .string s ∧ bytes s = l
  | .p0, v => v = .pointer none
  | .p b o, v => ∃ L, ι b = some L ∧ v = .pointer (some ⟨L.blk, L.off + o, none⟩)
  | .sl0, v => v = .slice none 0 0
  | .sl b o len cap, v => SlR ι b o len cap v
  | .m0, v => v = .map none
  | .m b, v => ∃ L, ι b = some L ∧ v = .map (some L.blk)
  | .f fn a c, v => ∃ fn' a' c', v = .func fn' a' c' ∧ FnR ι fn fn' ∧ VRL ι a a'.toList ∧ VRL ι c c'.toList
  | .nf, v => v = .nilFunc
  | .ni, v => v = .nilIface
  | .if_ t x, v => ∃ v', v = .iface t v' ∧ VR ι x v'
  | .ag l, v => ∃ cs, v = .agg cs ∧ VRL ι l cs.toList ∧ ∀ c ∈ cs.toList, c.oneCell' = true
  | .tu l, v => ∃ cs, v = .tuple cs ∧ VRL ι l cs.toList
  | .q k lo hi m r, v => ∃ x : Int, v = .int k x ∧ lo ≤ x ∧ x ≤ hi ∧ x % (m : Int) = (r : Int)
  | .slq b o lo hi, v => ∃ L n cap, ι b = some L ∧ v = .slice (some ⟨L.blk, L.off + o, none⟩) n cap ∧ lo ≤ n ∧ n ≤ hi ∧ n ≤ cap
def VRL (ι : Ren) : List V → List Value → Prop
  | [], [] => True
  | x :: l, v :: vs => VR ι x v ∧ VRL ι l vs
  | _, _ => False
end

theorem SlR.le {ι κ : Ren} (h : ι.le κ) {b o len cap v} (hv : SlR ι b o len cap v) : SlR κ b o len cap v := by
  obtain ⟨L, c, hb, r⟩ := hv
  exact ⟨L, c, h _ _ hb, r⟩

mutual
theorem VR.le {ι κ : Ren} (h : ι.le κ) : ∀ (x : V) (v : Value), VR ι x v → VR κ x v
  | .u, _, _ => by simp [VR]
  | .b x, v, hv => by simpa [VR] using hv
  | .i k n, v, hv => by simpa [VR] using hv
  | .s l, v, hv => by simpa [VR] using hv
  | .p0, v, hv => by simpa [VR] using hv
  | .p b o, v, hv => by
    simp only [VR] at hv ⊢
    obtain ⟨L, hb, e⟩ := hv
    exact ⟨L, h _ _ hb, e⟩
  | .sl0, v, hv => by simpa [VR] using hv
  | .sl b o len cap, v, hv => by
    simp only [VR] at hv ⊢
    exact hv.le h
  | .m0, v, hv => by simpa [VR] using hv
  | .m b, v, hv => by
    simp only [VR] at hv ⊢
    obtain ⟨L, hb, e⟩ := hv
    exact ⟨L, h _ _ hb, e⟩
  | .f fn a c, v, hv => by
    simp only [VR] at hv ⊢
    obtain ⟨fn', a', c', e, hf, ha, hc⟩ := hv
    refine ⟨fn', a', c', e, ?_, VRL.le h a _ ha, VRL.le h c _ hc⟩
    cases fn <;> simp only [FnR] at hf ⊢ <;> try exact hf
    obtain ⟨L, hl, e⟩ := hf
    exact ⟨L, h _ _ hl, e⟩
  | .nf, v, hv => by simpa [VR] using hv
  | .ni, v, hv => by simpa [VR] using hv
  | .if_ t x, v, hv => by
    simp only [VR] at hv ⊢
    obtain ⟨v', e, hx⟩ := hv
    exact ⟨v', e, VR.le h x v' hx⟩
  | .ag l, v, hv => by
    simp only [VR] at hv ⊢
    obtain ⟨cs, e, hl, h1⟩ := hv
    exact ⟨cs, e, VRL.le h l _ hl, h1⟩
  | .tu l, v, hv => by
    simp only [VR] at hv ⊢
    obtain ⟨cs, e, hl⟩ := hv
    exact ⟨cs, e, VRL.le h l _ hl⟩
  | .q k lo hi m r, v, hv => by simpa [VR] using hv
  | .slq b o lo hi, v, hv => by
    simp only [VR] at hv ⊢
    obtain ⟨L, n, cap, hb, e⟩ := hv
    exact ⟨L, n, cap, h _ _ hb, e⟩
theorem VRL.le {ι κ : Ren} (h : ι.le κ) : ∀ (l : List V) (vs : List Value), VRL ι l vs → VRL κ l vs
  | [], [], _ => by simp [VRL]
  | [], _ :: _, hv => by simp [VRL] at hv
  | _ :: _, [], hv => by simp [VRL] at hv
  | x :: l, v :: vs, hv => by
    simp only [VRL] at hv ⊢
    exact ⟨VR.le h x v hv.1, VRL.le h l vs hv.2⟩
end

theorem VRL.length {ι : Ren} : ∀ {l : List V} {vs : List Value}, VRL ι l vs → l.length = vs.length
  | [], [], _ => rfl
  | [], _ :: _, h => by simp [VRL] at h
  | _ :: _, [], h => by simp [VRL] at h
  | _ :: l, _ :: vs, h => by simp only [VRL] at h; simp [VRL.length h.2]

theorem VRL.nil {ι : Ren} : VRL ι [] [] := by simp [VRL]
theorem VRL.cons {ι : Ren} {x v l vs} (h : VR ι x v) (k : VRL ι l vs) : VRL ι (x :: l) (v :: vs) := by simp only [VRL]; exact ⟨h, k⟩

theorem VRL.append {ι : Ren} : ∀ {l : List V} {vs : List Value} {l' : List V} {vs' : List Value}, VRL ι l vs → VRL ι l' vs' → VRL ι (l ++ l') (vs ++ vs')
  | [], [], _, _, _, k => k
  | [], _ :: _, _, _, h, _ => by simp [VRL] at h
  | _ :: _, [], _, _, h, _ => by simp [VRL] at h
  | _ :: _, _ :: _, _, _, h, k => by
    simp only [VRL, List.cons_append] at h ⊢
    exact ⟨h.1, h.2.append k⟩

theorem VRL.get {ι : Ren} : ∀ {l : List V} {vs : List Value}, VRL ι l vs → ∀ (j : Nat) (x : V), l[j]? = some x → ∃ v, vs[j]? = some v ∧ VR ι x v
  | [], [], _, j, x, h => by simp at h
  | [], _ :: _, h, _, _, _ => by simp [VRL] at h
  | _ :: _, [], h, _, _, _ => by simp [VRL] at h
  | y :: l, v :: vs, h, j, x, e => by
    simp only [VRL] at h
    cases j with
    | zero => simp at e; subst e; exact ⟨v, by simp, h.1⟩
    | succ j => simp at e; simpa using h.2.get j x e

theorem VRL.drop {ι : Ren} : ∀ {l : List V} {vs : List Value} (n : Nat), VRL ι l vs → VRL ι (l.drop n) (vs.drop n)
  | _, _, 0, h => h
  | [], [], _ + 1, _ => by simp [VRL]
  | [], _ :: _, _, h => by simp [VRL] at h
  | _ :: _, [], _, h => by simp [VRL] at h
  | _ :: _, _ :: _, n + 1, h => by simp only [VRL] at h; exact VRL.drop n h.2

theorem VRL.take {ι : Ren} : ∀ {l : List V} {vs : List Value} (n : Nat), VRL ι l vs → VRL ι (l.take n) (vs.take n)
  | _, _, 0, h => by simp [VRL]
  | [], [], _ + 1, _ => by simp [VRL]
  | [], _ :: _, _, h => by simp [VRL] at h
  | _ :: _, [], _, h => by simp [VRL] at h
  | _ :: _, _ :: _, n + 1, h => by simp only [VRL, List.take_succ_cons] at h ⊢; exact ⟨h.1, VRL.take n h.2⟩

theorem VRL.of_get {ι : Ren} : ∀ {l : List V} {vs : List Value}, l.length = vs.length → (∀ (j : Nat) (x : V) (v : Value), l[j]? = some x → vs[j]? = some v → VR ι x v) → VRL ι l vs
  | [], [], _, _ => by simp [VRL]
  | [], _ :: _, h, _ => by simp at h
  | _ :: _, [], h, _ => by simp at h
  | x :: l, v :: vs, h, k => by
    simp only [VRL]
    exact ⟨k 0 x v (by simp) (by simp), VRL.of_get (by simpa using h) fun j y u e f => k (j + 1) y u (by simpa using e) (by simpa using f)⟩

theorem VRL.map_map {ι : Ren} {α : Type} {f : α → V} {g : α → Value} : ∀ {l : List α}, (∀ x ∈ l, VR ι (f x) (g x)) → VRL ι (l.map f) (l.map g)
  | [], _ => by simp [VRL]
  | x :: l, h => by simp only [List.map_cons, VRL]; exact ⟨h x (by simp), VRL.map_map fun y hy => h y (by simp [hy])⟩

/-- What a block of the heap holds, as the model has it. -/
def BR (ι : Ren) (w : World) (L : Loc) : Blk → Prop
  | .dead => True
  | .cells t n sz _ z c => ∃ arr fz, w.heap[L.blk]? = some (.cells arr t fz) ∧ arr.size = L.off + L.len ∧ n ≤ L.len ∧ L.sz = sz ∧ (fz.1 = fz.2 ∨ arr.size ≤ fz.1) ∧
      ∀ j, j < n → ∃ v, arr[L.off + j]? = some v ∧ VR ι (cell z c j) v ∧ v.oneCell' = true
  | .map es clock => ∃ arr, w.heap[L.blk]? = some (.map arr clock) ∧ es.length = arr.size ∧
      ∀ (j : Nat) e, es[j]? = some e → ∃ m, arr[j]? = some m ∧ VR ι e.1 m.key ∧ VR ι e.2.1 m.val ∧ m.born = e.2.2
  | .siter s pos => L.off = 0 ∧ ∃ bs, w.heap[L.blk]? = some (.stringIter bs pos) ∧ bytes bs = s
  | .miter m since seen stepped => L.off = 0 ∧ ∃ m', w.heap[L.blk]? = some (.mapIter m' since seen.toArray stepped) ∧
      (match m with | none => m' = none | some b => ∃ K, ι b = some K ∧ m' = some K.blk)
  | .loop st pend fn nt tm ps a b d => (codeOk a = true ∧ codeOk b = true ∧ ∀ c, pend = some c → codeOk c = true) ∧ ∃ (tmps : Array Value) (D : Loc), w.heap[L.blk]? = some (.loop { state := st, pending := pend, fn, tmps, params := ps.toArray, assign := a, body := b, defers := D.blk }) ∧ ι d = some D ∧
      tmps.size = nt ∧ ∀ t v, tm.get t = some v → VR ι v (tmps.getD t undef)
  | .defs o => w.heap[L.blk]? = some (.deferred (if o then some [] else none))

def live : Blk → Prop
  | .dead => False
  | _ => True

structure Sim (ι : Ren) (h : Tr Blk) (w : World) : Prop where
  blk : ∀ b x, h.get b = some x → ∃ L, ι b = some L ∧ L.blk < w.heap.size ∧ BR ι w L x
  inj : ∀ b b' x x' L, h.get b = some x → h.get b' = some x' → live x → live x' → ι b = some L → (∃ L', ι b' = some L' ∧ L'.blk = L.blk) → b = b'

/-- One way on: from a heap, a number, a mask of what was written, and a world, to others. -/
structure Way (ι : Ren) (h : Tr Blk) (c W : Nat) (w : World) (ι' : Ren) (h' : Tr Blk) (c' W' : Nat) (w' : World) : Prop where
  sim : Sim ι' h' w'
  le : ι.le ι'
  cle : c ≤ c'
  new : ∀ b, ι b = none → ι' b ≠ none → c ≤ b ∧ b < c'
  hnew : ∀ b, c' ≤ b → h.get b = none → h'.get b = none
  os : w'.os = w.os
  tape : w'.tape = w.tape
  output : w'.output = w.output
  size : w.heap.size ≤ w'.heap.size
  newblk : ∀ b L, ι b = none → ι' b = some L → w.heap.size ≤ L.blk ∨ ∃ b₀ L₀, ι b₀ = some L₀ ∧ L₀.blk = L.blk ∧ W'.testBit b₀ = true
  keep : ∀ k, k < w.heap.size → w'.heap[k]? = w.heap[k]? ∨ ∃ b L, ι b = some L ∧ L.blk = k ∧ W'.testBit b = true
  mono : ∀ b, W.testBit b = true → W'.testBit b = true

theorem Way.refl {ι h c W w} (s : Sim ι h w) : Way ι h c W w ι h c W w :=
  ⟨s, Ren.le_refl _, Nat.le_refl _, fun _ e n => absurd e n, fun _ _ e => e, rfl, rfl, rfl, Nat.le_refl _, fun _ _ e f => (by rw [e] at f; cases f), fun _ _ => .inl rfl, fun _ e => e⟩

theorem Way.trans {ι h c W w ι₁ h₁ c₁ W₁ w₁ ι₂ h₂ c₂ W₂ w₂} (p : Way ι h c W w ι₁ h₁ c₁ W₁ w₁) (q : Way ι₁ h₁ c₁ W₁ w₁ ι₂ h₂ c₂ W₂ w₂) :
    Way ι h c W w ι₂ h₂ c₂ W₂ w₂ where
  sim := q.sim
  le := Ren.le_trans p.le q.le
  cle := Nat.le_trans p.cle q.cle
  new b e n := by
    by_cases h1 : ι₁ b = none
    · have := q.new b h1 n; have := p.cle; omega
    · have := p.new b e h1; have := q.cle; omega
  hnew b hb e := q.hnew b hb (p.hnew b (by have := q.cle; omega) e)
  os := q.os.trans p.os
  tape := q.tape.trans p.tape
  output := q.output.trans p.output
  size := Nat.le_trans p.size q.size
  newblk b L e n := by
    by_cases h1 : ι₁ b = none
    · rcases q.newblk b L h1 n with h2 | ⟨b₀, L₀, h2, h3, h4⟩
      · exact .inl (Nat.le_trans p.size h2)
      · by_cases h5 : ι b₀ = none
        · rcases p.newblk b₀ L₀ h5 h2 with h6 | ⟨b₁, L₁, h6, h7, h8⟩
          · exact .inl (h3 ▸ h6)
          · exact .inr ⟨b₁, L₁, h6, h7.trans h3, q.mono _ h8⟩
        · obtain ⟨L', hL'⟩ := Option.ne_none_iff_exists'.1 h5
          have := p.le b₀ L' hL'
          rw [h2] at this
          cases this
          exact .inr ⟨b₀, _, hL', h3, h4⟩
    · obtain ⟨L', hL'⟩ := Option.ne_none_iff_exists'.1 h1
      have := q.le b L' hL'
      rw [n] at this
      cases this
      rcases p.newblk b _ e hL' with h2 | ⟨b₀, L₀, h2, h3, h4⟩
      · exact .inl h2
      · exact .inr ⟨b₀, L₀, h2, h3, q.mono _ h4⟩
  keep k hk := by
    rcases q.keep k (Nat.lt_of_lt_of_le hk p.size) with e | ⟨b, L, hb, hL, hw⟩
    · rcases p.keep k hk with e' | ⟨b, L, hb, hL, hw⟩
      · exact .inl (e.trans e')
      · exact .inr ⟨b, L, hb, hL, q.mono b hw⟩
    · by_cases hι : ι b = none
      · rcases p.newblk b L hι hb with h1 | ⟨b₀, L₀, h1, h2, h3⟩
        · omega
        · exact .inr ⟨b₀, L₀, h1, h2.trans hL, q.mono _ h3⟩
      · obtain ⟨L', hL'⟩ := Option.ne_none_iff_exists'.1 hι
        have := p.le b L' hL'
        rw [hb] at this
        cases this
        exact .inr ⟨b, L, hL', hL, hw⟩
  mono b e := q.mono b (p.mono b e)
end Go.Ev
