/- What the functions of the program compute, as plain functions, with the proof that they do. -/
import Derived.Test.YtfhhagbbfiiiiaaGreatFn1
import Derived.Test.YtfhhagbbfiiiiaaGreatEv4
import Derived.Test.YtfhhagbbfiiiiaaGreatGiv
import Derived.Test.YtfhhagbbfiiiiaaGreatProg
import Derived.KernelRfl
set_option maxRecDepth 100000
set_option linter.unusedVariables false
set_option autoImplicit false
noncomputable section
namespace Go.Ev
open Go.Proofs
/-! loop.example/wholecheck/laws.FnFollowBlocks -/
namespace laws_FnFollowBlocks
noncomputable def D : Fd := ⟨Tryz.f4, 1, .bool, .sh, [.sh], .unit, h4⟩
noncomputable def C (k : Nat) : Ctx := cx [(16, spec_DrawFollowBlocks.sem k), (17, impl_FollowBlocks.sem k), (18, spec_FollowBlocks.sem k), (11, impl_BlocksValid.sem k), (12, spec_BlocksValid.sem k), (10, laws_wcInts.sem k), (19, impl_ReachOf.sem k), (14, impl_SetWithout.sem k), (20, impl_NextNumbers.sem k)] [((6, 8), 4099)] [(9, [(3, none), (4, none), (5, none), (6, none), (7, none), (44, none), (45, none), (43, none)]), (16, [(3, none), (4, none), (5, none), (6, none), (7, none), (8, none), (44, none), (45, none), (81, none), (82, none), (43, none), (80, none)])] [] [(6, [0, 1, 2, 3, 4, 5, 6, 7, 9, 10, 8, 11, 12, 13]), (13, [0, 1, 2, 3, 4, 5, 6, 7, 8, 9, 10, 11, 12, 13, 14]), (18, [0, 1, 2, 3, 4, 5, 6, 7, 8, 9])] [((6, 8), [3, 4])] []
noncomputable def sem (k : Nat) : Sem := D.sem (D.ev (C k) k)
noncomputable def f (k : Nat) (p0 : (List Int)) : Option (Bool × Unit) := D.ev (C k) k (p0, ())
noncomputable def l9 (k : Nat) (n : Nat) (v3_9 : y9) (v4_9 v5_9 : (List Int)) (v6_9 v7_9 : (List (List Int))) (v44_9 v45_9 : Int) : Option (Bool × Unit) :=
 D.lp (C k) k 9 [1, 1, 1, 1, 1, 1, 0, 1, 0] [] n [(43, .al 6 []), (45, vI v45_9), (44, vI v44_9), (7, vO h51 v7_9), (6, vO h51 v6_9), (5, vO h7 v5_9), (4, .val h53 (.ow .sh) v4_9), (3, .val h44 (.ow .sh) v3_9)]
noncomputable def l16 (k n9 : Nat) (v3_9 : y9) (v44_9 v45_9 : Int) (v4_9 v5_9 : (List Int)) (v6_9 v7_9 : (List (List Int))) (n : Nat) (v82_16 : Int) : Option (Bool × Unit) :=
 D.lp (C k) k 16 [1, 1, 1, 1, 1, 1, 0, 1, 0, 0, 1, 1, 0, 0, 1, 1, 1, 1, 0] [n9] n [(80, .al 6 [v45_9.toNat]), (43, .al 6 []), (82, vI v82_16), (81, vI (((v6_9.getD (v45_9.toNat) []).length : Int))), (45, vI v45_9), (44, vI v44_9), (8, vI v45_9), (7, vO h51 v7_9), (6, vO h51 v6_9), (5, vO h7 v5_9), (4, .val h53 (.ow .sh) v4_9), (3, .val h44 (.ow .sh) v3_9)]
theorem s16 (k n9 : Nat) (v3_9 : y9) (v44_9 v45_9 : Int) (v4_9 v5_9 : (List Int)) (v6_9 v7_9 : (List (List Int))) (n : Nat) (v82_16 : Int) : l16 k n9 v3_9 v44_9 v45_9 v4_9 v5_9 v6_9 v7_9 (n + 1) v82_16 =
 (if (decide (v82_16 < (((v6_9.getD (v45_9.toNat) []).length : Int)))) = true then
  gd ((0 : Int) ≤ v82_16) <| gd (v82_16 < ((v6_9.getD (v45_9.toNat) []).length : Int)) <| gd ((0 : Int) ≤ ((v6_9.getD (v45_9.toNat) []).getD (v82_16.toNat) 0)) <| gd (((v6_9.getD (v45_9.toNat) []).getD (v82_16.toNat) 0) < (v4_9.length : Int)) <| gd ((0 : Int) ≤ v45_9) <| gd (v45_9 < (v5_9.length : Int)) <| if ((v4_9.getD (((v6_9.getD (v45_9.toNat) []).getD (v82_16.toNat) 0).toNat) 0) != (v5_9.getD (v45_9.toNat) 0)) = true then
   some (false, ())
  else
   l16 k n9 v3_9 v44_9 v45_9 v4_9 v5_9 v6_9 v7_9 n (w64 (v82_16 + 1))
 else
  l9 k n9 v3_9 v4_9 v5_9 v6_9 v7_9 v44_9 (w64 (v45_9 + 1))) := by kernel_rfl
theorem s9 (k : Nat) (n : Nat) (v3_9 : y9) (v4_9 v5_9 : (List Int)) (v6_9 v7_9 : (List (List Int))) (v44_9 v45_9 : Int) : l9 k (n + 1) v3_9 v4_9 v5_9 v6_9 v7_9 v44_9 v45_9 =
 (if (decide (v45_9 < v44_9)) = true then
  gd ((0 : Int) ≤ v45_9) <| gd (v45_9 < (v6_9.length : Int)) <| gd ((0 : Int) ≤ v45_9) <| gd (v45_9 < (v7_9.length : Int)) <| (laws_wcInts.f k (v6_9.getD (v45_9.toNat) []) (v7_9.getD (v45_9.toNat) [])).bind fun r6 =>
  if (!r6.1) = true then
   some (false, ())
  else
   (impl_ReachOf.f k v3_9).bind fun r7 =>
   (impl_SetWithout.f k (v6_9.getD (v45_9.toNat) []) r7.1).bind fun r8 =>
   if (decide (((r8.1.length : Int)) > 0)) = true then
    some (false, ())
   else
    if (decide (v45_9 > 0)) = true then
     gd ((0 : Int) ≤ (w64 (v45_9 - 1))) <| gd ((w64 (v45_9 - 1)) < (v6_9.length : Int)) <| (impl_NextNumbers.f k v3_9 (v6_9.getD ((w64 (v45_9 - 1)).toNat) [])).bind fun r9 =>
     (impl_SetWithout.f k (v6_9.getD (v45_9.toNat) []) r9.1).bind fun r10 =>
     if (decide (((r10.1.length : Int)) > 0)) = true then
      some (false, ())
     else
      l16 k n v3_9 v44_9 v45_9 v4_9 v5_9 v6_9 v7_9 k 0
    else
     l16 k n v3_9 v44_9 v45_9 v4_9 v5_9 v6_9 v7_9 k 0
 else
  some (decide (((v6_9.length : Int)) ≤ ((v5_9.length : Int))), ())) := by kernel_rfl
theorem s (k : Nat) (p0 : (List Int)) : f k p0 =
 (if (decide (((p0.length : Int)) > 1048576)) = true then
  some (true, ())
 else
  (spec_DrawFollowBlocks.f k p0).bind fun r1 =>
  (impl_FollowBlocks.f k r1.1.1 r1.1.2.1 r1.1.2.2).bind fun r2 =>
  (spec_FollowBlocks.f k r1.1.1 r1.1.2.1 r1.1.2.2).bind fun r3 =>
  if (((r2.1.length : Int)) != ((r3.1.length : Int))) = true then
   some (false, ())
  else
   (impl_BlocksValid.f k r1.1.1 r1.1.2.1).bind fun r4 =>
   (spec_BlocksValid.f k r1.1.1 r1.1.2.1).bind fun r5 =>
   if (r4.1 != r5.1) = true then
    some (false, ())
   else
    l9 k k r1.1.1 r1.1.2.1 r1.1.2.2 r2.1 r3.1 ((r2.1.length : Int)) 0) := by kernel_rfl
theorem ok (k : Nat) : Ok Tryz.prog 4 (sem k) := Fd.ok (cx_ok ⟨spec_DrawFollowBlocks.ok k, impl_FollowBlocks.ok k, spec_FollowBlocks.ok k, impl_BlocksValid.ok k, spec_BlocksValid.ok k, laws_wcInts.ok k, impl_ReachOf.ok k, impl_SetWithout.ok k, impl_NextNumbers.ok k, trivial⟩) ⟨Tryz.func4, rfl, by kernel_rfl⟩ rfl
attribute [irreducible] f l9 l16
end laws_FnFollowBlocks
end Go.Ev
