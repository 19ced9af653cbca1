/- Over the seat's program: the oracles check.Number, slices.IndexFunc of bytes and stamp.block answer as the code does. No conditions. -/
import Derived.Test.YtlainoonnnimiaaGreatDoorOk
set_option linter.all false
set_option linter.unusedVariables false
set_option linter.constructorNameAsVariable false
set_option linter.unnecessarySimpa false
set_option linter.unusedSimpArgs false
open Go Go.Ev Go.Proofs
namespace Go.Ev
noncomputable def gl0 : List V := [.i .u32 (.ofNat 1779033703), .i .u32 (.ofNat 3144134277), .i .u32 (.ofNat 1013904242), .i .u32 (.ofNat 2773480762), .i .u32 (.ofNat 1359893119), .i .u32 (.ofNat 2600822924), .i .u32 (.ofNat 528734635), .i .u32 (.ofNat 1541459225)]
noncomputable def gl1 : List V := [.i .u32 (.ofNat 1116352408), .i .u32 (.ofNat 1899447441), .i .u32 (.ofNat 3049323471), .i .u32 (.ofNat 3921009573), .i .u32 (.ofNat 961987163), .i .u32 (.ofNat 1508970993), .i .u32 (.ofNat 2453635748), .i .u32 (.ofNat 2870763221), .i .u32 (.ofNat 3624381080), .i .u32 (.ofNat 310598401), .i .u32 (.ofNat 607225278), .i .u32 (.ofNat 1426881987), .i .u32 (.ofNat 1925078388), .i .u32 (.ofNat 2162078206), .i .u32 (.ofNat 2614888103), .i .u32 (.ofNat 3248222580), .i .u32 (.ofNat 3835390401), .i .u32 (.ofNat 4022224774), .i .u32 (.ofNat 264347078), .i .u32 (.ofNat 604807628), .i .u32 (.ofNat 770255983), .i .u32 (.ofNat 1249150122), .i .u32 (.ofNat 1555081692), .i .u32 (.ofNat 1996064986), .i .u32 (.ofNat 2554220882), .i .u32 (.ofNat 2821834349), .i .u32 (.ofNat 2952996808), .i .u32 (.ofNat 3210313671), .i .u32 (.ofNat 3336571891), .i .u32 (.ofNat 3584528711), .i .u32 (.ofNat 113926993), .i .u32 (.ofNat 338241895), .i .u32 (.ofNat 666307205), .i .u32 (.ofNat 773529912), .i .u32 (.ofNat 1294757372), .i .u32 (.ofNat 1396182291), .i .u32 (.ofNat 1695183700), .i .u32 (.ofNat 1986661051), .i .u32 (.ofNat 2177026350), .i .u32 (.ofNat 2456956037), .i .u32 (.ofNat 2730485921), .i .u32 (.ofNat 2820302411), .i .u32 (.ofNat 3259730800), .i .u32 (.ofNat 3345764771), .i .u32 (.ofNat 3516065817), .i .u32 (.ofNat 3600352804), .i .u32 (.ofNat 4094571909), .i .u32 (.ofNat 275423344), .i .u32 (.ofNat 430227734), .i .u32 (.ofNat 506948616), .i .u32 (.ofNat 659060556), .i .u32 (.ofNat 883997877), .i .u32 (.ofNat 958139571), .i .u32 (.ofNat 1322822218), .i .u32 (.ofNat 1537002063), .i .u32 (.ofNat 1747873779), .i .u32 (.ofNat 1955562222), .i .u32 (.ofNat 2024104815), .i .u32 (.ofNat 2227730452), .i .u32 (.ofNat 2361852424), .i .u32 (.ofNat 2428436474), .i .u32 (.ofNat 2756734187), .i .u32 (.ofNat 3204031479), .i .u32 (.ofNat 3329325298)]
noncomputable def gl3 : List V := [.i .u32 (.ofNat 0), .i .u32 (.ofNat 274646895), .i .u32 (.ofNat 549293790), .i .u32 (.ofNat 820201905), .i .u32 (.ofNat 1098587580), .i .u32 (.ofNat 1361435347), .i .u32 (.ofNat 1640403810), .i .u32 (.ofNat 1905808397), .i .u32 (.ofNat 2197175160), .i .u32 (.ofNat 2460548119), .i .u32 (.ofNat 2722870694), .i .u32 (.ofNat 2987750089), .i .u32 (.ofNat 3280807620), .i .u32 (.ofNat 3553878443), .i .u32 (.ofNat 3811616794), .i .u32 (.ofNat 4084100981)]
noncomputable def T0 : Tab := ⟨tys, fns, fun _ _ => none, fun _ => none, fun _ => none, 4⟩
theorem ok0 : Ok Tryz.prog T0 := { ty := tys_ok, fn := fns_ok, mt := fun _ _ _ h => (by cases h), xf := fun _ _ h => (by cases h), orc := fun _ _ h => (by cases h) }
theorem num64 (t sz : Nat) (ex : Bool) (cap : Option Nat) (x0 x1 x2 x3 : Nat) : tells (run (go T0 3000 (begun 135 fi135 [.sl T0.ng 0 64 cap]) []) (subHeap T0.ng (.cells t 64 sz ex [.u] (Tr.lay [.i .u8 (.ofNat x0), .i .u8 (.ofNat x1), .i .u8 (.ofNat x2), .i .u8 (.ofNat x3)] 0 .l))) (T0.ng + 1) 0 0) = some (.i .i64 (numE x0 x1 x2 x3), 0) := by kernel_rfl
theorem num60 (t sz : Nat) (ex : Bool) (cap : Option Nat) (x0 x1 x2 x3 : Nat) : tells (run (go T0 3000 (begun 135 fi135 [.sl T0.ng 0 60 cap]) []) (subHeap T0.ng (.cells t 60 sz ex [.u] (Tr.lay [.i .u8 (.ofNat x0), .i .u8 (.ofNat x1), .i .u8 (.ofNat x2), .i .u8 (.ofNat x3)] 0 .l))) (T0.ng + 1) 0 0) = some (.i .i64 (numE x0 x1 x2 x3), 0) := by kernel_rfl
theorem num27 (t sz : Nat) (ex : Bool) (cap : Option Nat) (x0 x1 x2 x3 : Nat) : tells (run (go T0 3000 (begun 135 fi135 [.sl T0.ng 0 27 cap]) []) (subHeap T0.ng (.cells t 27 sz ex [.u] (Tr.lay [.i .u8 (.ofNat x0), .i .u8 (.ofNat x1), .i .u8 (.ofNat x2), .i .u8 (.ofNat x3)] 0 .l))) (T0.ng + 1) 0 0) = some (.i .i64 (numE x0 x1 x2 x3), 0) := by kernel_rfl
theorem num23 (t sz : Nat) (ex : Bool) (cap : Option Nat) (x0 x1 x2 x3 : Nat) : tells (run (go T0 3000 (begun 135 fi135 [.sl T0.ng 0 23 cap]) []) (subHeap T0.ng (.cells t 23 sz ex [.u] (Tr.lay [.i .u8 (.ofNat x0), .i .u8 (.ofNat x1), .i .u8 (.ofNat x2), .i .u8 (.ofNat x3)] 0 .l))) (T0.ng + 1) 0 0) = some (.i .i64 (numE x0 x1 x2 x3), 0) := by kernel_rfl
theorem num_orc : OrcOk Tryz.prog 4 135 numO := numO_ok (N := 3000) (fi := fi135) ok0 (by kernel_rfl) (by decide +kernel) fun len t sz ex cap x0 x1 x2 x3 h => by
  unfold numLen at h
  simp only [Bool.or_eq_true, nbeq_iff, decide_eq_true_eq] at h
  rcases h with rfl | rfl | rfl | rfl
  · exact num64 t sz ex cap x0 x1 x2 x3
  · exact num60 t sz ex cap x0 x1 x2 x3
  · exact num27 t sz ex cap x0 x1 x2 x3
  · exact num23 t sz ex cap x0 x1 x2 x3
theorem idx0 (t sz : Nat) (ex : Bool) (cap : Option Nat) : tells (run (go T0 3000 (begun 188 fi188 [.sl T0.ng 0 64 cap, .f (.func 139) [] []]) []) (subHeap T0.ng (.cells t 64 sz ex [.i .u8 0] .l)) (T0.ng + 1) 0 0) = some (.i .i64 (-1), 0) := by kernel_rfl
theorem idx1 (t sz : Nat) (ex : Bool) (cap : Option Nat) (x : Nat) : tells (run (go T0 3000 (begun 188 fi188 [.sl T0.ng 0 64 cap, .f (.func 139) [] []]) []) (subHeap T0.ng (.cells t 64 sz ex [.u] (Tr.lay [.i .u8 (.ofNat (x + 1))] 0 .l))) (T0.ng + 1) 0 0) = some (.i .i64 0, 0) := by kernel_rfl
theorem idx_orc : OrcOk Tryz.prog 4 188 (idxO 139) := idxO_ok (N := 3000) (fi := fi188) ok0 (by kernel_rfl) (by decide +kernel) idx0 idx1
theorem blk (t sz tp szp : Nat) (ex exp : Bool) (cap : Option Nat) (hh : Nat → Int) (x : Nat → Nat) (k : Nat → Int) :
      tellsM (2 ^ (T0.ng + 1) - 1) (run (go T0 200000 (begun 165 fi165 [.ag (mk8 hh), .sl T0.ng 0 64 cap]) []) (subHeap2 T0.ng 1 (.cells t 64 sz ex [.u] (lay8 x)) (.cells tp 64 szp exp [.u] (lay32 k))) (T0.ng + 1) 0 0) = some (.ag (Sha.block hh x k), 0) := by kernel_rfl
theorem blk_orc : OrcOk Tryz.prog 4 165 (blkO 1) := blkO_ok (N := 200000) (fi := fi165) ok0 (by decide +kernel) (by kernel_rfl) (by decide +kernel) blk
end Go.Ev
