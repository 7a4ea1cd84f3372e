/- What the functions of the program compute, as plain functions, with the proof that they do. -/
import Derived.Test.YtekfgacofojofaaGreatEv4
import Derived.Test.YtekfgacofojofaaGreatGiv
import Derived.Test.YtekfgacofojofaaGreatProg
import Derived.KernelRfl
set_option maxRecDepth 100000
set_option linter.unusedVariables false
set_option autoImplicit false
noncomputable section
namespace Go.Ev
open Go.Proofs
abbrev y0 : Type := List (Int × (Int × Int))
abbrev h0 : S := .pair I (.pair I I)
abbrev h1 : S := .agg h0
abbrev h2 : S := .slice false h1
abbrev h3 : S := .pair I .unit
abbrev h4 : S := .pair h2 h3
abbrev y1 : Type := Int × (Int × (Int × Int))
abbrev y2 : Type := List y1
abbrev h5 : S := .pair I h0
abbrev h6 : S := .agg h5
abbrev h7 : S := .slice false h6
abbrev h8 : S := .pair h7 h3
abbrev h9 : S := .slice false I
abbrev h10 : S := .pair h9 h3
abbrev y3 : Type := List y2
abbrev h11 : S := .slice false h7
abbrev h12 : S := .pair h11 h3
abbrev y4 : Type := (List Int) × y3
abbrev y5 : Type := y2 × y4
abbrev h13 : S := .pair h9 h11
abbrev h14 : S := .pair h7 h13
abbrev h15 : S := .agg h14
abbrev h16 : S := .pair h15 h3
abbrev y6 : Type := List y5
abbrev h17 : S := .slice false h15
abbrev h18 : S := .pair h17 h3
abbrev y7 : Type := y0 × y6
abbrev h19 : S := .pair h2 h17
abbrev h20 : S := .agg h19
abbrev h21 : S := .pair h20 h3
abbrev h22 : S := .pair h1 .unit
abbrev h23 : S := .pair h2 .unit
abbrev h24 : S := .pair h6 .unit
abbrev h25 : S := .pair h7 .unit
abbrev h26 : S := .pair h9 .unit
abbrev h27 : S := .pair h11 .unit
abbrev h28 : S := .pair h15 .unit
abbrev h29 : S := .pair h17 .unit
abbrev h30 : S := .pair h20 .unit
abbrev h31 : S := .pair I h3
abbrev h32 : S := .pair I h31
abbrev h33 : S := .pair h6 h10
abbrev h34 : S := .ptr h6
abbrev h35 : S := .pair h7 h31
abbrev h36 : S := .ptr h15
abbrev h37 : S := .ptr h20
abbrev h38 : S := .pair .bool .unit
abbrev h39 : S := .pair h7 h26
abbrev h40 : S := .pair h20 h26
abbrev h41 : S := .pair h20 h10
abbrev h42 : S := .pair h9 h26
abbrev h43 : S := .slice false h9
abbrev h44 : S := .pair h43 h26
abbrev h45 : S := .pair I h26
abbrev h46 : S := .pair h20 h45
abbrev h47 : S := .slice false .bool
abbrev h48 : S := .pair h47 .unit
abbrev h49 : S := .pair h20 h44
abbrev y8 : Type := (Int × (Int × Int)) → Option Bool
abbrev h50 : S := .func h1 .bool
abbrev h51 : S := .pair h50 .unit
abbrev h52 : S := .pair h2 h51
abbrev h53 : S := .slice true I
abbrev h54 : S := .pair h37 .unit
abbrev h55 : S := .pair h15 h54
abbrev y9 : Type := y5 → Option Bool
abbrev h56 : S := .func h15 .bool
abbrev h57 : S := .pair h56 .unit
abbrev h58 : S := .pair h17 h57
abbrev h59 : S := .pair h9 .bool
abbrev y10 : Type := (List Int) × ((List Int) × Unit)
abbrev y11 : Type := y10 → Option Int
abbrev h60 : S := .pair I .bool
abbrev h61 : S := .func h42 I
abbrev h62 : S := .pair h61 .unit
abbrev h63 : S := .pair h9 h62
abbrev h64 : S := .pair h43 h63
abbrev h65 : S := .pair h43 .unit
abbrev h66 : S := .pair h1 h22
abbrev h67 : S := .pair h2 h23
abbrev h68 : S := .pair h6 h24
abbrev h69 : S := .pair h7 h25
abbrev h70 : S := .pair h11 h27
abbrev h71 : S := .pair h15 h28
abbrev h72 : S := .pair h17 h29
abbrev h73 : S := .pair h20 h30
noncomputable def tys : List (Nat × S) := [(3, I), (4, .bool), (22, h2), (23, h17), (25, h20), (26, h9), (29, h2), (30, h17), (32, h20), (43, h43), (50, h7), (51, h11), (53, h15), (55, h50), (57, h1), (59, h7), (60, h11), (62, h15), (69, h1), (74, h56), (83, h47), (95, (.int .u64)), (100, h61), (108, h6), (110, h6)]
theorem tys_ok : tysB Tryz.prog tys = true := by kernel_rfl
theorem mix : Tryz.prog.follows .mixedOrders = true := by kernel_rfl
abbrev HD : Type := List (Nat × List (Nat × Option (S × M)))
noncomputable def cx (e : List (Nat × Sem)) (h : List ((Nat × Nat) × Nat)) (d : HD) (x : List Nat) (o : List (Nat × List Nat)) (i : List ((Nat × Nat) × List Nat)) (j : HD) : Ctx := mkC tys e (hintOf h) (headOf d) x (ordOf o) (hidOf i) (jnOf j)
theorem cx_ok {e : List (Nat × Sem)} {h : List ((Nat × Nat) × Nat)} {d : HD} {x : List Nat} {o : List (Nat × List Nat)} {i : List ((Nat × Nat) × List Nat)} {j : HD} (w : EnvOk Tryz.prog e) : CtxOk Tryz.prog (cx e h d x o i j) := mkC_ok tys_ok w mix
/-! loop.example/wholecheck/laws.szVarS -/
namespace laws_szVarS
noncomputable def D : Fd := ⟨Tryz.f11, 1, I, .sh, [.sh, .sh], .unit, h4⟩
noncomputable def C (k : Nat) : Ctx := cx [] [] [] [] [] [] []
noncomputable def sem (k : Nat) : Sem := D.sem (D.ev (C k) k)
noncomputable def f (k : Nat) (p0 : y0) (p1 : Int) : Option (Int × Unit) := D.ev (C k) k (p0, p1, ())
theorem s (k : Nat) (p0 : y0) (p1 : Int) : f k p0 p1 =
 (if (decide ((w64 (p1 - ((p0.length : Int)))) < 0)) = true then
  some ((-1), ())
 else
  some (w64 (p1 - ((p0.length : Int))), ())) := by kernel_rfl
theorem ok (k : Nat) : Ok Tryz.prog 11 (sem k) := Fd.ok (cx_ok trivial) ⟨Tryz.func11, rfl, by kernel_rfl⟩ rfl
attribute [irreducible] f
end laws_szVarS
/-! loop.example/wholecheck/laws.szTermS -/
namespace laws_szTermS
noncomputable def D : Fd := ⟨Tryz.f57, 1, I, .sh, [.sh, .sh], .unit, h8⟩
noncomputable def C (k : Nat) : Ctx := cx [] [] [] [] [] [] []
noncomputable def sem (k : Nat) : Sem := D.sem (D.ev (C k) k)
noncomputable def f (k : Nat) (p0 : y2) (p1 : Int) : Option (Int × Unit) := D.ev (C k) k (p0, p1, ())
theorem s (k : Nat) (p0 : y2) (p1 : Int) : f k p0 p1 =
 (if (decide ((w64 (p1 - ((p0.length : Int)))) < 0)) = true then
  some ((-1), ())
 else
  some (w64 (p1 - ((p0.length : Int))), ())) := by kernel_rfl
theorem ok (k : Nat) : Ok Tryz.prog 57 (sem k) := Fd.ok (cx_ok trivial) ⟨Tryz.func57, rfl, by kernel_rfl⟩ rfl
attribute [irreducible] f
end laws_szTermS
/-! loop.example/wholecheck/laws.szIntS -/
namespace laws_szIntS
noncomputable def D : Fd := ⟨Tryz.f58, 1, I, .sh, [.sh, .sh], .unit, h10⟩
noncomputable def C (k : Nat) : Ctx := cx [] [] [] [] [] [] []
noncomputable def sem (k : Nat) : Sem := D.sem (D.ev (C k) k)
noncomputable def f (k : Nat) (p0 : (List Int)) (p1 : Int) : Option (Int × Unit) := D.ev (C k) k (p0, p1, ())
theorem s (k : Nat) (p0 : (List Int)) (p1 : Int) : f k p0 p1 =
 (if (decide ((w64 (p1 - ((p0.length : Int)))) < 0)) = true then
  some ((-1), ())
 else
  some (w64 (p1 - ((p0.length : Int))), ())) := by kernel_rfl
theorem ok (k : Nat) : Ok Tryz.prog 58 (sem k) := Fd.ok (cx_ok trivial) ⟨Tryz.func58, rfl, by kernel_rfl⟩ rfl
attribute [irreducible] f
end laws_szIntS
/-! loop.example/wholecheck/laws.szTermSS -/
namespace laws_szTermSS
noncomputable def D : Fd := ⟨Tryz.f59, 1, I, .sh, [.sh, .sh], .unit, h12⟩
noncomputable def C (k : Nat) : Ctx := cx [(57, laws_szTermS.sem k)] [] [(5, [(0, none), (1, none), (5, none)])] [] [] [] []
noncomputable def sem (k : Nat) : Sem := D.sem (D.ev (C k) k)
noncomputable def f (k : Nat) (p0 : y3) (p1 : Int) : Option (Int × Unit) := D.ev (C k) k (p0, p1, ())
noncomputable def l5 (k : Nat) (p0 : y3) (n : Nat) (v1_5 v5_5 : Int) : Option (Int × Unit) :=
 D.lp (C k) k 5 [1, 1, 1, 0, 1, 0] [] n [(5, vI v5_5), (1, vI v1_5), (0, vS h11 p0)]
theorem s5 (k : Nat) (p0 : y3) (n : Nat) (v1_5 v5_5 : Int) : l5 k p0 (n + 1) v1_5 v5_5 =
 (if (decide (v5_5 < ((p0.length : Int)))) = true then
  gd ((0 : Int) ≤ v5_5) <| gd (v5_5 < (p0.length : Int)) <| (laws_szTermS.f k (p0.getD (v5_5.toNat) []) v1_5).bind fun r1 =>
  if (decide (r1.1 < 0)) = true then
   some ((-1), ())
  else
   l5 k p0 n r1.1 (w64 (v5_5 + 1))
 else
  some (v1_5, ())) := by kernel_rfl
theorem z5 (k : Nat) (p0 : y3) (v1_5 v5_5 : Int) : l5 k p0 0 v1_5 v5_5 = none := by kernel_rfl
theorem s (k : Nat) (p0 : y3) (p1 : Int) : f k p0 p1 =
 (if (decide ((w64 (p1 - ((p0.length : Int)))) < 0)) = true then
  some ((-1), ())
 else
  l5 k p0 k (w64 (p1 - ((p0.length : Int)))) 0) := by kernel_rfl
theorem ok (k : Nat) : Ok Tryz.prog 59 (sem k) := Fd.ok (cx_ok ⟨laws_szTermS.ok k, trivial⟩) ⟨Tryz.func59, rfl, by kernel_rfl⟩ rfl
attribute [irreducible] f l5
end laws_szTermSS
/-! loop.example/wholecheck/laws.szRule -/
namespace laws_szRule
noncomputable def D : Fd := ⟨Tryz.f25, 1, I, .sh, [.sh, .sh], .unit, h16⟩
noncomputable def C (k : Nat) : Ctx := cx [(57, laws_szTermS.sem k), (58, laws_szIntS.sem k), (59, laws_szTermSS.sem k)] [] [] [] [] [] []
noncomputable def sem (k : Nat) : Sem := D.sem (D.ev (C k) k)
noncomputable def f (k : Nat) (p0 : y5) (p1 : Int) : Option (Int × Unit) := D.ev (C k) k (p0, p1, ())
theorem s (k : Nat) (p0 : y5) (p1 : Int) : f k p0 p1 =
 ((laws_szTermS.f k p0.1 p1).bind fun r1 =>
 if (decide (r1.1 < 0)) = true then
  some ((-1), ())
 else
  (laws_szIntS.f k p0.2.1 r1.1).bind fun r2 =>
  if (decide (r2.1 < 0)) = true then
   some ((-1), ())
  else
   (laws_szTermSS.f k p0.2.2 r2.1).bind fun r3 =>
   if (decide (r3.1 < 0)) = true then
    some ((-1), ())
   else
    some (r3.1, ())) := by kernel_rfl
theorem ok (k : Nat) : Ok Tryz.prog 25 (sem k) := Fd.ok (cx_ok ⟨laws_szTermS.ok k, laws_szIntS.ok k, laws_szTermSS.ok k, trivial⟩) ⟨Tryz.func25, rfl, by kernel_rfl⟩ rfl
attribute [irreducible] f
end laws_szRule
/-! loop.example/wholecheck/laws.szRuleS -/
namespace laws_szRuleS
noncomputable def D : Fd := ⟨Tryz.f12, 1, I, .sh, [.sh, .sh], .unit, h18⟩
noncomputable def C (k : Nat) : Ctx := cx [(25, laws_szRule.sem k)] [] [(5, [(0, none), (1, none), (5, none)])] [] [] [] []
noncomputable def sem (k : Nat) : Sem := D.sem (D.ev (C k) k)
noncomputable def f (k : Nat) (p0 : y6) (p1 : Int) : Option (Int × Unit) := D.ev (C k) k (p0, p1, ())
noncomputable def l5 (k : Nat) (p0 : y6) (n : Nat) (v1_5 v5_5 : Int) : Option (Int × Unit) :=
 D.lp (C k) k 5 [1, 1, 1, 0, 1, 0] [] n [(5, vI v5_5), (1, vI v1_5), (0, vS h17 p0)]
theorem s5 (k : Nat) (p0 : y6) (n : Nat) (v1_5 v5_5 : Int) : l5 k p0 (n + 1) v1_5 v5_5 =
 (if (decide (v5_5 < ((p0.length : Int)))) = true then
  gd ((0 : Int) ≤ v5_5) <| gd (v5_5 < (p0.length : Int)) <| (laws_szRule.f k (p0.getD (v5_5.toNat) ([], ([], []))) v1_5).bind fun r1 =>
  if (decide (r1.1 < 0)) = true then
   some ((-1), ())
  else
   l5 k p0 n r1.1 (w64 (v5_5 + 1))
 else
  some (v1_5, ())) := by kernel_rfl
theorem z5 (k : Nat) (p0 : y6) (v1_5 v5_5 : Int) : l5 k p0 0 v1_5 v5_5 = none := by kernel_rfl
theorem s (k : Nat) (p0 : y6) (p1 : Int) : f k p0 p1 =
 (if (decide ((w64 (p1 - ((p0.length : Int)))) < 0)) = true then
  some ((-1), ())
 else
  l5 k p0 k (w64 (p1 - ((p0.length : Int)))) 0) := by kernel_rfl
theorem ok (k : Nat) : Ok Tryz.prog 12 (sem k) := Fd.ok (cx_ok ⟨laws_szRule.ok k, trivial⟩) ⟨Tryz.func12, rfl, by kernel_rfl⟩ rfl
attribute [irreducible] f l5
end laws_szRuleS
/-! loop.example/wholecheck/laws.szSystem -/
namespace laws_szSystem
noncomputable def D : Fd := ⟨Tryz.f4, 1, I, .sh, [.sh, .sh], .unit, h21⟩
noncomputable def C (k : Nat) : Ctx := cx [(11, laws_szVarS.sem k), (12, laws_szRuleS.sem k)] [] [] [] [] [] []
noncomputable def sem (k : Nat) : Sem := D.sem (D.ev (C k) k)
noncomputable def f (k : Nat) (p0 : y7) (p1 : Int) : Option (Int × Unit) := D.ev (C k) k (p0, p1, ())
theorem s (k : Nat) (p0 : y7) (p1 : Int) : f k p0 p1 =
 ((laws_szVarS.f k p0.1 p1).bind fun r1 =>
 if (decide (r1.1 < 0)) = true then
  some ((-1), ())
 else
  (laws_szRuleS.f k p0.2 r1.1).bind fun r2 =>
  if (decide (r2.1 < 0)) = true then
   some ((-1), ())
  else
   some (r2.1, ())) := by kernel_rfl
theorem ok (k : Nat) : Ok Tryz.prog 4 (sem k) := Fd.ok (cx_ok ⟨laws_szVarS.ok k, laws_szRuleS.ok k, trivial⟩) ⟨Tryz.func4, rfl, by kernel_rfl⟩ rfl
attribute [irreducible] f
end laws_szSystem
/-! loop.example/wholecheck/laws.toVar -/
namespace laws_toVar
noncomputable def D : Fd := ⟨Tryz.f38, 1, h1, .sh, [.sh], .unit, h22⟩
noncomputable def C (k : Nat) : Ctx := cx [] [] [] [] [] [] []
noncomputable def sem (k : Nat) : Sem := D.sem (D.ev (C k) k)
noncomputable def f (k : Nat) (p0 : (Int × (Int × Int))) : Option ((Int × (Int × Int)) × Unit) := D.ev (C k) k (p0, ())
theorem s (k : Nat) (p0 : (Int × (Int × Int))) : f k p0 =
 (some (p0, ())) := by kernel_rfl
theorem ok (k : Nat) : Ok Tryz.prog 38 (sem k) := Fd.ok (cx_ok trivial) ⟨Tryz.func38, rfl, by kernel_rfl⟩ rfl
attribute [irreducible] f
end laws_toVar
/-! loop.example/wholecheck/laws.toVarS -/
namespace laws_toVarS
noncomputable def D : Fd := ⟨Tryz.f17, 1, h2, (.ow (.ag (.pr .sh (.pr .sh .sh)))), [.sh], .unit, h23⟩
noncomputable def C (k : Nat) : Ctx := cx [(38, laws_toVar.sem k)] [] [(3, [(0, none), (3, some (h2, (.ow (.ag (.pr .sh (.pr .sh .sh)))))), (4, none)])] [] [] [] []
noncomputable def sem (k : Nat) : Sem := D.sem (D.ev (C k) k)
noncomputable def f (k : Nat) (p0 : y0) : Option (y0 × Unit) := D.ev (C k) k (p0, ())
noncomputable def l3 (k : Nat) (p0 : y0) (n : Nat) (v3_3 : y0) (v4_3 : Int) : Option (y0 × Unit) :=
 D.lp (C k) k 3 [1, 1, 0, 1, 0] [] n [(4, vI v4_3), (3, vO h2 v3_3), (0, vS h2 p0)]
theorem s3 (k : Nat) (p0 : y0) (n : Nat) (v3_3 : y0) (v4_3 : Int) : l3 k p0 (n + 1) v3_3 v4_3 =
 (if (decide (v4_3 < ((p0.length : Int)))) = true then
  gd ((0 : Int) ≤ v4_3) <| gd (v4_3 < (p0.length : Int)) <| (laws_toVar.f k (p0.getD (v4_3.toNat) (0, (0, 0)))).bind fun r1 =>
  gd ((0 : Int) ≤ v4_3) <| gd (v4_3 < (v3_3.length : Int)) <| l3 k p0 n (v3_3.set (v4_3.toNat) r1.1) (w64 (v4_3 + 1))
 else
  some (v3_3, ())) := by kernel_rfl
theorem z3 (k : Nat) (p0 : y0) (v3_3 : y0) (v4_3 : Int) : l3 k p0 0 v3_3 v4_3 = none := by kernel_rfl
theorem s (k : Nat) (p0 : y0) : f k p0 =
 (gd ((0 : Int) ≤ ((p0.length : Int))) <| gd ((((p0.length : Int)) : Int) ≤ 1099511627776) <| l3 k p0 k ((List.replicate ((p0.length : Int)).toNat (0, (0, 0)) : (List (Int × (Int × Int))))) 0) := by kernel_rfl
theorem ok (k : Nat) : Ok Tryz.prog 17 (sem k) := Fd.ok (cx_ok ⟨laws_toVar.ok k, trivial⟩) ⟨Tryz.func17, rfl, by kernel_rfl⟩ rfl
attribute [irreducible] f l3
end laws_toVarS
/-! loop.example/wholecheck/laws.toTerm -/
namespace laws_toTerm
noncomputable def D : Fd := ⟨Tryz.f86, 1, h6, .sh, [.sh], .unit, h24⟩
noncomputable def C (k : Nat) : Ctx := cx [] [] [] [] [] [] []
noncomputable def sem (k : Nat) : Sem := D.sem (D.ev (C k) k)
noncomputable def f (k : Nat) (p0 : y1) : Option (y1 × Unit) := D.ev (C k) k (p0, ())
theorem s (k : Nat) (p0 : y1) : f k p0 =
 (some (p0, ())) := by kernel_rfl
theorem ok (k : Nat) : Ok Tryz.prog 86 (sem k) := Fd.ok (cx_ok trivial) ⟨Tryz.func86, rfl, by kernel_rfl⟩ rfl
attribute [irreducible] f
end laws_toTerm
/-! loop.example/wholecheck/laws.toTermS -/
namespace laws_toTermS
noncomputable def D : Fd := ⟨Tryz.f67, 1, h7, (.ow (.ag (.pr .sh (.pr .sh (.pr .sh .sh))))), [.sh], .unit, h25⟩
noncomputable def C (k : Nat) : Ctx := cx [(86, laws_toTerm.sem k)] [] [(3, [(0, none), (3, some (h7, (.ow (.ag (.pr .sh (.pr .sh (.pr .sh .sh))))))), (4, none)])] [] [] [] []
noncomputable def sem (k : Nat) : Sem := D.sem (D.ev (C k) k)
noncomputable def f (k : Nat) (p0 : y2) : Option (y2 × Unit) := D.ev (C k) k (p0, ())
noncomputable def l3 (k : Nat) (p0 : y2) (n : Nat) (v3_3 : y2) (v4_3 : Int) : Option (y2 × Unit) :=
 D.lp (C k) k 3 [1, 1, 0, 1, 0] [] n [(4, vI v4_3), (3, vO h7 v3_3), (0, vS h7 p0)]
theorem s3 (k : Nat) (p0 : y2) (n : Nat) (v3_3 : y2) (v4_3 : Int) : l3 k p0 (n + 1) v3_3 v4_3 =
 (if (decide (v4_3 < ((p0.length : Int)))) = true then
  gd ((0 : Int) ≤ v4_3) <| gd (v4_3 < (p0.length : Int)) <| (laws_toTerm.f k (p0.getD (v4_3.toNat) (0, (0, (0, 0))))).bind fun r1 =>
  gd ((0 : Int) ≤ v4_3) <| gd (v4_3 < (v3_3.length : Int)) <| l3 k p0 n (v3_3.set (v4_3.toNat) r1.1) (w64 (v4_3 + 1))
 else
  some (v3_3, ())) := by kernel_rfl
theorem z3 (k : Nat) (p0 : y2) (v3_3 : y2) (v4_3 : Int) : l3 k p0 0 v3_3 v4_3 = none := by kernel_rfl
theorem s (k : Nat) (p0 : y2) : f k p0 =
 (gd ((0 : Int) ≤ ((p0.length : Int))) <| gd ((((p0.length : Int)) : Int) ≤ 1099511627776) <| l3 k p0 k ((List.replicate ((p0.length : Int)).toNat (0, (0, (0, 0))) : (List (Int × (Int × (Int × Int)))))) 0) := by kernel_rfl
theorem ok (k : Nat) : Ok Tryz.prog 67 (sem k) := Fd.ok (cx_ok ⟨laws_toTerm.ok k, trivial⟩) ⟨Tryz.func67, rfl, by kernel_rfl⟩ rfl
attribute [irreducible] f l3
end laws_toTermS
/-! loop.example/wholecheck/laws.toIntS -/
namespace laws_toIntS
noncomputable def D : Fd := ⟨Tryz.f7, 1, h9, (.ow .sh), [.sh], .unit, h26⟩
noncomputable def C (k : Nat) : Ctx := cx [] [] [(3, [(0, none), (3, none), (4, none)])] [] [] [] []
noncomputable def sem (k : Nat) : Sem := D.sem (D.ev (C k) k)
noncomputable def f (k : Nat) (p0 : (List Int)) : Option ((List Int) × Unit) := D.ev (C k) k (p0, ())
noncomputable def l3 (k : Nat) (p0 : (List Int)) (n : Nat) (v3_3 : (List Int)) (v4_3 : Int) : Option ((List Int) × Unit) :=
 D.lp (C k) k 3 [1, 1, 0, 1, 0] [] n [(4, vI v4_3), (3, vO h9 v3_3), (0, vS h9 p0)]
theorem s3 (k : Nat) (p0 : (List Int)) (n : Nat) (v3_3 : (List Int)) (v4_3 : Int) : l3 k p0 (n + 1) v3_3 v4_3 =
 (if (decide (v4_3 < ((p0.length : Int)))) = true then
  gd ((0 : Int) ≤ v4_3) <| gd (v4_3 < (p0.length : Int)) <| gd ((0 : Int) ≤ v4_3) <| gd (v4_3 < (v3_3.length : Int)) <| l3 k p0 n (v3_3.set (v4_3.toNat) (p0.getD (v4_3.toNat) 0)) (w64 (v4_3 + 1))
 else
  some (v3_3, ())) := by kernel_rfl
theorem z3 (k : Nat) (p0 : (List Int)) (v3_3 : (List Int)) (v4_3 : Int) : l3 k p0 0 v3_3 v4_3 = none := by kernel_rfl
theorem s (k : Nat) (p0 : (List Int)) : f k p0 =
 (gd ((0 : Int) ≤ ((p0.length : Int))) <| gd ((((p0.length : Int)) : Int) ≤ 1099511627776) <| l3 k p0 k ((List.replicate ((p0.length : Int)).toNat 0 : (List Int))) 0) := by kernel_rfl
theorem ok (k : Nat) : Ok Tryz.prog 7 (sem k) := Fd.ok (cx_ok trivial) ⟨Tryz.func7, rfl, by kernel_rfl⟩ rfl
attribute [irreducible] f l3
end laws_toIntS
/-! loop.example/wholecheck/laws.toTermSS -/
namespace laws_toTermSS
noncomputable def D : Fd := ⟨Tryz.f68, 1, h11, (.ow (.ow (.ag (.pr .sh (.pr .sh (.pr .sh .sh)))))), [.sh], .unit, h27⟩
noncomputable def C (k : Nat) : Ctx := cx [(67, laws_toTermS.sem k)] [] [(3, [(0, none), (3, none), (4, none)])] [] [] [] []
noncomputable def sem (k : Nat) : Sem := D.sem (D.ev (C k) k)
noncomputable def f (k : Nat) (p0 : y3) : Option (y3 × Unit) := D.ev (C k) k (p0, ())
noncomputable def l3 (k : Nat) (p0 : y3) (n : Nat) (v3_3 : y3) (v4_3 : Int) : Option (y3 × Unit) :=
 D.lp (C k) k 3 [1, 1, 0, 1, 0] [] n [(4, vI v4_3), (3, vO h11 v3_3), (0, vS h11 p0)]
theorem s3 (k : Nat) (p0 : y3) (n : Nat) (v3_3 : y3) (v4_3 : Int) : l3 k p0 (n + 1) v3_3 v4_3 =
 (if (decide (v4_3 < ((p0.length : Int)))) = true then
  gd ((0 : Int) ≤ v4_3) <| gd (v4_3 < (p0.length : Int)) <| (laws_toTermS.f k (p0.getD (v4_3.toNat) [])).bind fun r1 =>
  gd ((0 : Int) ≤ v4_3) <| gd (v4_3 < (v3_3.length : Int)) <| l3 k p0 n (v3_3.set (v4_3.toNat) r1.1) (w64 (v4_3 + 1))
 else
  some (v3_3, ())) := by kernel_rfl
theorem z3 (k : Nat) (p0 : y3) (v3_3 : y3) (v4_3 : Int) : l3 k p0 0 v3_3 v4_3 = none := by kernel_rfl
theorem s (k : Nat) (p0 : y3) : f k p0 =
 (gd ((0 : Int) ≤ ((p0.length : Int))) <| gd ((((p0.length : Int)) : Int) ≤ 1099511627776) <| l3 k p0 k ((List.replicate ((p0.length : Int)).toNat [] : (List (List (Int × (Int × (Int × Int))))))) 0) := by kernel_rfl
theorem ok (k : Nat) : Ok Tryz.prog 68 (sem k) := Fd.ok (cx_ok ⟨laws_toTermS.ok k, trivial⟩) ⟨Tryz.func68, rfl, by kernel_rfl⟩ rfl
attribute [irreducible] f l3
end laws_toTermSS
/-! loop.example/wholecheck/laws.toRule -/
namespace laws_toRule
noncomputable def D : Fd := ⟨Tryz.f39, 1, h15, (.ag (.pr (.ow (.ag (.pr .sh (.pr .sh (.pr .sh .sh))))) (.pr (.ow .sh) (.ow (.ow (.ag (.pr .sh (.pr .sh (.pr .sh .sh))))))))), [.sh], .unit, h28⟩
noncomputable def C (k : Nat) : Ctx := cx [(67, laws_toTermS.sem k), (7, laws_toIntS.sem k), (68, laws_toTermSS.sem k)] [] [] [] [] [] []
noncomputable def sem (k : Nat) : Sem := D.sem (D.ev (C k) k)
noncomputable def f (k : Nat) (p0 : y5) : Option (y5 × Unit) := D.ev (C k) k (p0, ())
theorem s (k : Nat) (p0 : y5) : f k p0 =
 ((laws_toTermS.f k p0.1).bind fun r1 =>
 (laws_toIntS.f k p0.2.1).bind fun r2 =>
 (laws_toTermSS.f k p0.2.2).bind fun r3 =>
 some ((r1.1, (r2.1, r3.1)), ())) := by kernel_rfl
theorem ok (k : Nat) : Ok Tryz.prog 39 (sem k) := Fd.ok (cx_ok ⟨laws_toTermS.ok k, laws_toIntS.ok k, laws_toTermSS.ok k, trivial⟩) ⟨Tryz.func39, rfl, by kernel_rfl⟩ rfl
attribute [irreducible] f
end laws_toRule
/-! loop.example/wholecheck/laws.toRuleS -/
namespace laws_toRuleS
noncomputable def D : Fd := ⟨Tryz.f18, 1, h17, (.ow (.ag (.pr (.ow (.ag (.pr .sh (.pr .sh (.pr .sh .sh))))) (.pr (.ow .sh) (.ow (.ow (.ag (.pr .sh (.pr .sh (.pr .sh .sh)))))))))), [.sh], .unit, h29⟩
noncomputable def C (k : Nat) : Ctx := cx [(39, laws_toRule.sem k)] [] [(3, [(0, none), (3, none), (4, none)])] [] [] [] []
noncomputable def sem (k : Nat) : Sem := D.sem (D.ev (C k) k)
noncomputable def f (k : Nat) (p0 : y6) : Option (y6 × Unit) := D.ev (C k) k (p0, ())
noncomputable def l3 (k : Nat) (p0 : y6) (n : Nat) (v3_3 : y6) (v4_3 : Int) : Option (y6 × Unit) :=
 D.lp (C k) k 3 [1, 1, 0, 1, 0] [] n [(4, vI v4_3), (3, vO h17 v3_3), (0, vS h17 p0)]
theorem s3 (k : Nat) (p0 : y6) (n : Nat) (v3_3 : y6) (v4_3 : Int) : l3 k p0 (n + 1) v3_3 v4_3 =
 (if (decide (v4_3 < ((p0.length : Int)))) = true then
  gd ((0 : Int) ≤ v4_3) <| gd (v4_3 < (p0.length : Int)) <| (laws_toRule.f k (p0.getD (v4_3.toNat) ([], ([], [])))).bind fun r1 =>
  gd ((0 : Int) ≤ v4_3) <| gd (v4_3 < (v3_3.length : Int)) <| l3 k p0 n (v3_3.set (v4_3.toNat) r1.1) (w64 (v4_3 + 1))
 else
  some (v3_3, ())) := by kernel_rfl
theorem z3 (k : Nat) (p0 : y6) (v3_3 : y6) (v4_3 : Int) : l3 k p0 0 v3_3 v4_3 = none := by kernel_rfl
theorem s (k : Nat) (p0 : y6) : f k p0 =
 (gd ((0 : Int) ≤ ((p0.length : Int))) <| gd ((((p0.length : Int)) : Int) ≤ 1099511627776) <| l3 k p0 k ((List.replicate ((p0.length : Int)).toNat ([], ([], [])) : (List ((List (Int × (Int × (Int × Int)))) × ((List Int) × (List (List (Int × (Int × (Int × Int)))))))))) 0) := by kernel_rfl
theorem ok (k : Nat) : Ok Tryz.prog 18 (sem k) := Fd.ok (cx_ok ⟨laws_toRule.ok k, trivial⟩) ⟨Tryz.func18, rfl, by kernel_rfl⟩ rfl
attribute [irreducible] f l3
end laws_toRuleS
/-! loop.example/wholecheck/laws.toSystem -/
namespace laws_toSystem
noncomputable def D : Fd := ⟨Tryz.f6, 1, h20, (.ag (.pr (.ow (.ag (.pr .sh (.pr .sh .sh)))) (.ow (.ag (.pr (.ow (.ag (.pr .sh (.pr .sh (.pr .sh .sh))))) (.pr (.ow .sh) (.ow (.ow (.ag (.pr .sh (.pr .sh (.pr .sh .sh)))))))))))), [.sh], .unit, h30⟩
noncomputable def C (k : Nat) : Ctx := cx [(17, laws_toVarS.sem k), (18, laws_toRuleS.sem k)] [] [] [] [] [] []
noncomputable def sem (k : Nat) : Sem := D.sem (D.ev (C k) k)
noncomputable def f (k : Nat) (p0 : y7) : Option (y7 × Unit) := D.ev (C k) k (p0, ())
theorem s (k : Nat) (p0 : y7) : f k p0 =
 ((laws_toVarS.f k p0.1).bind fun r1 =>
 (laws_toRuleS.f k p0.2).bind fun r2 =>
 some ((r1.1, r2.1), ())) := by kernel_rfl
theorem ok (k : Nat) : Ok Tryz.prog 6 (sem k) := Fd.ok (cx_ok ⟨laws_toVarS.ok k, laws_toRuleS.ok k, trivial⟩) ⟨Tryz.func6, rfl, by kernel_rfl⟩ rfl
attribute [irreducible] f
end laws_toSystem
/-! loop.example/wholecheck/spec.l1In -/
namespace spec_l1In
noncomputable def D : Fd := ⟨Tryz.f26, 1, .bool, .sh, [.sh, .sh, .sh], .unit, h32⟩
noncomputable def C (k : Nat) : Ctx := cx [] [] [] [] [] [] []
noncomputable def sem (k : Nat) : Sem := D.sem (D.ev (C k) k)
noncomputable def f (k : Nat) (p0 p1 p2 : Int) : Option (Bool × Unit) := D.ev (C k) k (p0, p1, p2, ())
theorem s (k : Nat) (p0 p1 p2 : Int) : f k p0 p1 p2 =
 (if (decide (p0 ≥ p1)) = true then
  some (decide (p0 ≤ p2), ())
 else
  some (false, ())) := by kernel_rfl
theorem ok (k : Nat) : Ok Tryz.prog 26 (sem k) := Fd.ok (cx_ok trivial) ⟨Tryz.func26, rfl, by kernel_rfl⟩ rfl
attribute [irreducible] f
end spec_l1In
/-! loop.example/wholecheck/spec.l2Var -/
namespace spec_l2Var
noncomputable def D : Fd := ⟨Tryz.f27, 1, .bool, .sh, [.sh], .unit, h22⟩
noncomputable def C (k : Nat) : Ctx := cx [(26, spec_l1In.sem k)] [] [] [] [] [] []
noncomputable def sem (k : Nat) : Sem := D.sem (D.ev (C k) k)
noncomputable def f (k : Nat) (p0 : (Int × (Int × Int))) : Option (Bool × Unit) := D.ev (C k) k (p0, ())
theorem s (k : Nat) (p0 : (Int × (Int × Int))) : f k p0 =
 ((spec_l1In.f k p0.1 (-9999) 9999).bind fun r1 =>
 if r1.1 = true then
  (spec_l1In.f k p0.2.1 p0.1 9999).bind fun r2 =>
  if r2.1 = true then
   if (decide ((w64 (p0.2.1 - p0.1)) < 20)) = true then
    (spec_l1In.f k p0.2.2 p0.1 p0.2.1).bind fun r3 =>
    some (r3.1, ())
   else
    some (false, ())
  else
   some (false, ())
 else
  some (false, ())) := by kernel_rfl
theorem ok (k : Nat) : Ok Tryz.prog 27 (sem k) := Fd.ok (cx_ok ⟨spec_l1In.ok k, trivial⟩) ⟨Tryz.func27, rfl, by kernel_rfl⟩ rfl
attribute [irreducible] f
end spec_l2Var
/-! loop.example/wholecheck/spec.l1One -/
namespace spec_l1One
noncomputable def D : Fd := ⟨Tryz.f117, 1, .bool, .sh, [.sh], .unit, h3⟩
noncomputable def C (k : Nat) : Ctx := cx [] [] [] [] [] [] []
noncomputable def sem (k : Nat) : Sem := D.sem (D.ev (C k) k)
noncomputable def f (k : Nat) (p0 : Int) : Option (Bool × Unit) := D.ev (C k) k (p0, ())
theorem s (k : Nat) (p0 : Int) : f k p0 =
 (some (p0 == 7, ())) := by kernel_rfl
theorem ok (k : Nat) : Ok Tryz.prog 117 (sem k) := Fd.ok (cx_ok trivial) ⟨Tryz.func117, rfl, by kernel_rfl⟩ rfl
attribute [irreducible] f
end spec_l1One
/-! loop.example/wholecheck/spec.l1Kind -/
namespace spec_l1Kind
noncomputable def D : Fd := ⟨Tryz.f106, 1, I, .sh, [.sh, .sh, .sh], .unit, h33⟩
noncomputable def C (k : Nat) : Ctx := cx [(26, spec_l1In.sem k), (117, spec_l1One.sem k)] [] [] [] [] [] [(3, [(1, none), (2, none), (3, none)]), (5, [(1, none), (3, none)]), (10, [(1, none), (3, none), (7, none)])]
noncomputable def sem (k : Nat) : Sem := D.sem (D.ev (C k) k)
noncomputable def f (k : Nat) (p0 : y1) (p1 : (List Int)) (p2 : Int) : Option (Int × Unit) := D.ev (C k) k (p0, p1, p2, ())
noncomputable def lj3 (k : Nat) (p0 : y1) (p1 : (List Int)) (p2 : Int) (n : Nat) : Option (Int × Unit) :=
 D.jn (C k) k 3 [1] [] n [(3, .val h34 (.ow .sh) p0), (2, vI p2), (1, vS h9 p1)]
noncomputable def lj5 (k : Nat) (p0 : y1) (p1 : (List Int)) (n : Nat) : Option (Int × Unit) :=
 D.jn (C k) k 5 [1, 1] [] n [(3, .val h34 (.ow .sh) p0), (1, vS h9 p1)]
noncomputable def lj10 (k : Nat) (p0 : y1) (p1 : (List Int)) (n : Nat) (v7_j10 : Int) : Option (Int × Unit) :=
 D.jn (C k) k 10 [1, 1, 1, 1, 1] [] n [(7, vI v7_j10), (3, .val h34 (.ow .sh) p0), (1, vS h9 p1)]
theorem sj10 (k : Nat) (p0 : y1) (p1 : (List Int)) (n : Nat) (v7_j10 : Int) : lj10 k p0 p1 (n + 1) v7_j10 =
 (gd ((0 : Int) ≤ p0.2.2.1) <| gd (p0.2.2.1 < (p1.length : Int)) <| if ((p1.getD (p0.2.2.1.toNat) 0) != v7_j10) = true then
  some (0, ())
 else
  gd ((0 : Int) ≤ p0.2.2.2) <| gd (p0.2.2.2 < (p1.length : Int)) <| if ((p1.getD (p0.2.2.2.toNat) 0) != v7_j10) = true then
   some (0, ())
  else
   (spec_l1One.f k p0.1).bind fun r6 =>
   if r6.1 = true then
    if (p0.2.2.2 != p0.2.2.1) = true then
     some (0, ())
    else
     if (decide (p0.1 ≥ 5)) = true then
      some (2, ())
     else
      some (1, ())
   else
    if (decide (p0.1 ≥ 5)) = true then
     some (2, ())
    else
     some (1, ())) := by kernel_rfl
theorem zj10 (k : Nat) (p0 : y1) (p1 : (List Int)) (v7_j10 : Int) : lj10 k p0 p1 0 v7_j10 = none := by kernel_rfl
theorem sj5 (k : Nat) (p0 : y1) (p1 : (List Int)) (n : Nat) : lj5 k p0 p1 (n + 1) =
 ((spec_l1In.f k p0.1 2 9).bind fun r3 =>
 if (!r3.1) = true then
  some (0, ())
 else
  if (p0.2.1 != 0) = true then
   some (0, ())
  else
   (spec_l1In.f k p0.2.2.1 0 (w64 (((p1.length : Int)) - 1))).bind fun r4 =>
   if (!r4.1) = true then
    some (0, ())
   else
    (spec_l1In.f k p0.2.2.2 0 (w64 (((p1.length : Int)) - 1))).bind fun r5 =>
    if (!r5.1) = true then
     some (0, ())
    else
     if (decide (p0.1 ≥ 7)) = true then
      lj10 k p0 p1 k 2
     else
      lj10 k p0 p1 k 1) := by kernel_rfl
theorem zj5 (k : Nat) (p0 : y1) (p1 : (List Int)) : lj5 k p0 p1 0 = none := by kernel_rfl
theorem sj3 (k : Nat) (p0 : y1) (p1 : (List Int)) (p2 : Int) (n : Nat) : lj3 k p0 p1 p2 (n + 1) =
 (if (p0.1 == 1) = true then
  (spec_l1In.f k p0.2.1 0 (w64 (p2 - 1))).bind fun r2 =>
  if r2.1 = true then
   if (p0.2.2.1 == 0) = true then
    if (p0.2.2.2 == 0) = true then
     some (1, ())
    else
     lj5 k p0 p1 k
   else
    lj5 k p0 p1 k
  else
   lj5 k p0 p1 k
 else
  lj5 k p0 p1 k) := by kernel_rfl
theorem zj3 (k : Nat) (p0 : y1) (p1 : (List Int)) (p2 : Int) : lj3 k p0 p1 p2 0 = none := by kernel_rfl
theorem s (k : Nat) (p0 : y1) (p1 : (List Int)) (p2 : Int) : f k p0 p1 p2 =
 (if (p0.1 == 0) = true then
  (spec_l1In.f k p0.2.1 (-9999) 9999).bind fun r1 =>
  if r1.1 = true then
   if (p0.2.2.1 == 0) = true then
    if (p0.2.2.2 == 0) = true then
     some (1, ())
    else
     lj3 k p0 p1 p2 k
   else
    lj3 k p0 p1 p2 k
  else
   lj3 k p0 p1 p2 k
 else
  lj3 k p0 p1 p2 k) := by kernel_rfl
theorem ok (k : Nat) : Ok Tryz.prog 106 (sem k) := Fd.ok (cx_ok ⟨spec_l1In.ok k, spec_l1One.ok k, trivial⟩) ⟨Tryz.func106, rfl, by kernel_rfl⟩ rfl
attribute [irreducible] f lj3 lj5 lj10
end spec_l1Kind
/-! loop.example/wholecheck/spec.KindsOf -/
namespace spec_KindsOf
noncomputable def D : Fd := ⟨Tryz.f82, 1, h9, (.ow .sh), [.sh, .sh], .unit, h8⟩
noncomputable def C (k : Nat) : Ctx := cx [(26, spec_l1In.sem k), (106, spec_l1Kind.sem k)] [] [(5, [(0, none), (1, none), (5, none), (6, none)])] [] [] [] []
noncomputable def sem (k : Nat) : Sem := D.sem (D.ev (C k) k)
noncomputable def f (k : Nat) (p0 : y2) (p1 : Int) : Option ((List Int) × Unit) := D.ev (C k) k (p0, p1, ())
noncomputable def l5 (k : Nat) (p0 : y2) (p1 : Int) (n : Nat) (v5_5 : (List Int)) (v6_5 : Int) : Option ((List Int) × Unit) :=
 D.lp (C k) k 5 [1, 1, 1, 0, 1, 0] [] n [(6, vI v6_5), (5, vO h9 v5_5), (1, vI p1), (0, vS h7 p0)]
theorem s5 (k : Nat) (p0 : y2) (p1 : Int) (n : Nat) (v5_5 : (List Int)) (v6_5 : Int) : l5 k p0 p1 (n + 1) v5_5 v6_5 =
 (if (decide (v6_5 < ((p0.length : Int)))) = true then
  gd ((0 : Int) ≤ v6_5) <| gd (v6_5 < (p0.length : Int)) <| (spec_l1Kind.f k (p0.getD (v6_5.toNat) (0, (0, (0, 0)))) v5_5 p1).bind fun r3 =>
  if (r3.1 == 0) = true then
   some ([], ())
  else
   gd ((v5_5.length : Int) + ([r3.1].length : Int) ≤ 1099511627776) <| l5 k p0 p1 n (v5_5 ++ [r3.1]) (w64 (v6_5 + 1))
 else
  some (v5_5, ())) := by kernel_rfl
theorem z5 (k : Nat) (p0 : y2) (p1 : Int) (v5_5 : (List Int)) (v6_5 : Int) : l5 k p0 p1 0 v5_5 v6_5 = none := by kernel_rfl
theorem s (k : Nat) (p0 : y2) (p1 : Int) : f k p0 p1 =
 ((spec_l1In.f k p1 0 5).bind fun r1 =>
 if (!r1.1) = true then
  some ([], ())
 else
  (spec_l1In.f k ((p0.length : Int)) 1 40).bind fun r2 =>
  if (!r2.1) = true then
   some ([], ())
  else
   l5 k p0 p1 k [] 0) := by kernel_rfl
theorem ok (k : Nat) : Ok Tryz.prog 82 (sem k) := Fd.ok (cx_ok ⟨spec_l1In.ok k, spec_l1Kind.ok k, trivial⟩) ⟨Tryz.func82, rfl, by kernel_rfl⟩ rfl
attribute [irreducible] f l5
end spec_KindsOf
/-! loop.example/wholecheck/spec.l2Is -/
namespace spec_l2Is
noncomputable def D : Fd := ⟨Tryz.f60, 1, .bool, .sh, [.sh, .sh, .sh], .unit, h35⟩
noncomputable def C (k : Nat) : Ctx := cx [(82, spec_KindsOf.sem k)] [] [] [] [] [] []
noncomputable def sem (k : Nat) : Sem := D.sem (D.ev (C k) k)
noncomputable def f (k : Nat) (p0 : y2) (p1 p2 : Int) : Option (Bool × Unit) := D.ev (C k) k (p0, p1, p2, ())
theorem s (k : Nat) (p0 : y2) (p1 p2 : Int) : f k p0 p1 p2 =
 ((spec_KindsOf.f k p0 p1).bind fun r1 =>
 if (decide (((r1.1.length : Int)) > 0)) = true then
  gd ((0 : Int) ≤ (w64 (((r1.1.length : Int)) - 1))) <| gd ((w64 (((r1.1.length : Int)) - 1)) < (r1.1.length : Int)) <| some ((r1.1.getD ((w64 (((r1.1.length : Int)) - 1)).toNat) 0) == p2, ())
 else
  some (false, ())) := by kernel_rfl
theorem ok (k : Nat) : Ok Tryz.prog 60 (sem k) := Fd.ok (cx_ok ⟨spec_KindsOf.ok k, trivial⟩) ⟨Tryz.func60, rfl, by kernel_rfl⟩ rfl
attribute [irreducible] f
end spec_l2Is
/-! loop.example/wholecheck/spec.l2Rule -/
namespace spec_l2Rule
noncomputable def D : Fd := ⟨Tryz.f28, 1, .bool, .sh, [.sh, .sh], .unit, h16⟩
noncomputable def C (k : Nat) : Ctx := cx [(60, spec_l2Is.sem k), (26, spec_l1In.sem k)] [] [(4, [(1, none), (2, none), (5, none)])] [] [(6, [0, 1, 2, 3, 4, 5, 6, 7, 8, 9, 10, 11, 12, 13, 14, 15, 16, 17, 18, 19, 20, 21, 22, 23, 24, 25, 26, 27, 28, 29, 30, 31, 32, 33, 34, 35, 36])] [] []
noncomputable def sem (k : Nat) : Sem := D.sem (D.ev (C k) k)
noncomputable def f (k : Nat) (p0 : y5) (p1 : Int) : Option (Bool × Unit) := D.ev (C k) k (p0, p1, ())
noncomputable def l4 (k : Nat) (p0 : y5) (p1 : Int) (n : Nat) (v5_4 : Int) : Option (Bool × Unit) :=
 D.lp (C k) k 4 [1, 1, 0, 1, 0] [] n [(5, vI v5_4), (2, .val h36 (.ow .sh) p0), (1, vI p1)]
theorem s4 (k : Nat) (p0 : y5) (p1 : Int) (n : Nat) (v5_4 : Int) : l4 k p0 p1 (n + 1) v5_4 =
 (if (decide (v5_4 < ((p0.2.1.length : Int)))) = true then
  gd ((0 : Int) ≤ v5_4) <| gd (v5_4 < (p0.2.1.length : Int)) <| (spec_l1In.f k (p0.2.1.getD (v5_4.toNat) 0) 0 (w64 (p1 - 1))).bind fun r2 =>
  if (!r2.1) = true then
   some (false, ())
  else
   if (decide (v5_4 > 0)) = true then
    gd ((0 : Int) ≤ v5_4) <| gd (v5_4 < (p0.2.1.length : Int)) <| gd ((0 : Int) ≤ (w64 (v5_4 - 1))) <| gd ((w64 (v5_4 - 1)) < (p0.2.1.length : Int)) <| if (decide ((p0.2.1.getD (v5_4.toNat) 0) ≤ (p0.2.1.getD ((w64 (v5_4 - 1)).toNat) 0))) = true then
     some (false, ())
    else
     gd ((0 : Int) ≤ v5_4) <| gd (v5_4 < (p0.2.2.length : Int)) <| (spec_l2Is.f k (p0.2.2.getD (v5_4.toNat) []) p1 1).bind fun r3 =>
     if (!r3.1) = true then
      some (false, ())
     else
      l4 k p0 p1 n (w64 (v5_4 + 1))
   else
    gd ((0 : Int) ≤ v5_4) <| gd (v5_4 < (p0.2.2.length : Int)) <| (spec_l2Is.f k (p0.2.2.getD (v5_4.toNat) []) p1 1).bind fun r4 =>
    if (!r4.1) = true then
     some (false, ())
    else
     l4 k p0 p1 n (w64 (v5_4 + 1))
 else
  some (true, ())) := by kernel_rfl
theorem z4 (k : Nat) (p0 : y5) (p1 : Int) (v5_4 : Int) : l4 k p0 p1 0 v5_4 = none := by kernel_rfl
theorem s (k : Nat) (p0 : y5) (p1 : Int) : f k p0 p1 =
 ((spec_l2Is.f k p0.1 p1 2).bind fun r1 =>
 if (!r1.1) = true then
  some (false, ())
 else
  if (((p0.2.1.length : Int)) != ((p0.2.2.length : Int))) = true then
   some (false, ())
  else
   if (decide (((p0.2.1.length : Int)) > p1)) = true then
    some (false, ())
   else
    l4 k p0 p1 k 0) := by kernel_rfl
theorem ok (k : Nat) : Ok Tryz.prog 28 (sem k) := Fd.ok (cx_ok ⟨spec_l2Is.ok k, spec_l1In.ok k, trivial⟩) ⟨Tryz.func28, rfl, by kernel_rfl⟩ rfl
attribute [irreducible] f l4
end spec_l2Rule
/-! loop.example/wholecheck/spec.SystemValid -/
namespace spec_SystemValid
noncomputable def D : Fd := ⟨Tryz.f13, 1, .bool, .sh, [.sh], .unit, h30⟩
noncomputable def C (k : Nat) : Ctx := cx [(26, spec_l1In.sem k), (27, spec_l2Var.sem k), (28, spec_l2Rule.sem k)] [((9, 16), 3)] [(5, [(1, none), (3, none), (4, none)]), (11, [(1, none), (3, none), (5, none)])] [] [(9, [0, 1, 2, 3, 4, 5, 6, 7, 8, 9, 10, 11, 12, 13, 14, 15, 16]), (13, [0, 1, 2, 3, 4, 5, 6, 7, 8, 9])] [] []
noncomputable def sem (k : Nat) : Sem := D.sem (D.ev (C k) k)
noncomputable def f (k : Nat) (p0 : y7) : Option (Bool × Unit) := D.ev (C k) k (p0, ())
noncomputable def l5 (k : Nat) (p0 : y7) (n : Nat) (v3_5 v4_5 : Int) : Option (Bool × Unit) :=
 D.lp (C k) k 5 [1, 1, 1, 0, 1, 0] [] n [(4, vI v4_5), (3, vI v3_5), (1, .val h37 (.ow .sh) p0)]
noncomputable def l11 (k : Nat) (p0 : y7) (v3_5 : Int) (n : Nat) (v5_11 : Int) : Option (Bool × Unit) :=
 D.lp (C k) k 11 [1, 1, 1, 1, 0, 1, 0] [] n [(5, vI v5_11), (3, vI v3_5), (1, .val h37 (.ow .sh) p0)]
theorem s11 (k : Nat) (p0 : y7) (v3_5 : Int) (n : Nat) (v5_11 : Int) : l11 k p0 v3_5 (n + 1) v5_11 =
 (if (decide (v5_11 < ((p0.2.length : Int)))) = true then
  gd ((0 : Int) ≤ v5_11) <| gd (v5_11 < (p0.2.length : Int)) <| (spec_l2Rule.f k (p0.2.getD (v5_11.toNat) ([], ([], []))) ((p0.1.length : Int))).bind fun r3 =>
  if (!r3.1) = true then
   some (false, ())
  else
   l11 k p0 v3_5 n (w64 (v5_11 + 1))
 else
  some (decide (v3_5 ≤ 400), ())) := by kernel_rfl
theorem z11 (k : Nat) (p0 : y7) (v3_5 : Int) (v5_11 : Int) : l11 k p0 v3_5 0 v5_11 = none := by kernel_rfl
theorem s5 (k : Nat) (p0 : y7) (n : Nat) (v3_5 v4_5 : Int) : l5 k p0 (n + 1) v3_5 v4_5 =
 (if (decide (v4_5 < ((p0.1.length : Int)))) = true then
  gd ((0 : Int) ≤ v4_5) <| gd (v4_5 < (p0.1.length : Int)) <| (spec_l2Var.f k (p0.1.getD (v4_5.toNat) (0, (0, 0)))).bind fun r2 =>
  if (!r2.1) = true then
   some (false, ())
  else
   gd ((0 : Int) ≤ v4_5) <| gd (v4_5 < (p0.1.length : Int)) <| gd ((0 : Int) ≤ v4_5) <| gd (v4_5 < (p0.1.length : Int)) <| l5 k p0 n (w64 (v3_5 * (w64 ((w64 ((p0.1.getD (v4_5.toNat) (0, (0, 0))).2.1 - (p0.1.getD (v4_5.toNat) (0, (0, 0))).1)) + 1)))) (w64 (v4_5 + 1))
 else
  l11 k p0 v3_5 k 0) := by kernel_rfl
theorem z5 (k : Nat) (p0 : y7) (v3_5 v4_5 : Int) : l5 k p0 0 v3_5 v4_5 = none := by kernel_rfl
theorem s (k : Nat) (p0 : y7) : f k p0 =
 ((spec_l1In.f k ((p0.1.length : Int)) 1 5).bind fun r1 =>
 if (!r1.1) = true then
  some (false, ())
 else
  if (decide (((p0.2.length : Int)) > 8)) = true then
   some (false, ())
  else
   l5 k p0 k 1 0) := by kernel_rfl
theorem ok (k : Nat) : Ok Tryz.prog 13 (sem k) := Fd.ok (cx_ok ⟨spec_l1In.ok k, spec_l2Var.ok k, spec_l2Rule.ok k, trivial⟩) ⟨Tryz.func13, rfl, by kernel_rfl⟩ rfl
attribute [irreducible] f l5 l11
end spec_SystemValid
/-! loop.example/wholecheck/spec.l2Has -/
namespace spec_l2Has
noncomputable def D : Fd := ⟨Tryz.f29, 1, .bool, .sh, [.sh, .sh], .unit, h10⟩
noncomputable def C (k : Nat) : Ctx := cx [] [] [(2, [(0, none), (1, none), (5, none)])] [] [] [] []
noncomputable def sem (k : Nat) : Sem := D.sem (D.ev (C k) k)
noncomputable def f (k : Nat) (p0 : (List Int)) (p1 : Int) : Option (Bool × Unit) := D.ev (C k) k (p0, p1, ())
noncomputable def l2 (k : Nat) (p0 : (List Int)) (p1 : Int) (n : Nat) (v5_2 : Int) : Option (Bool × Unit) :=
 D.lp (C k) k 2 [1, 0, 1, 0] [] n [(5, vI v5_2), (1, vI p1), (0, vS h9 p0)]
theorem s2 (k : Nat) (p0 : (List Int)) (p1 : Int) (n : Nat) (v5_2 : Int) : l2 k p0 p1 (n + 1) v5_2 =
 (if (decide (v5_2 < ((p0.length : Int)))) = true then
  gd ((0 : Int) ≤ v5_2) <| gd (v5_2 < (p0.length : Int)) <| if ((p0.getD (v5_2.toNat) 0) == p1) = true then
   some (true, ())
  else
   l2 k p0 p1 n (w64 (v5_2 + 1))
 else
  some (false, ())) := by kernel_rfl
theorem z2 (k : Nat) (p0 : (List Int)) (p1 : Int) (v5_2 : Int) : l2 k p0 p1 0 v5_2 = none := by kernel_rfl
theorem s (k : Nat) (p0 : (List Int)) (p1 : Int) : f k p0 p1 =
 (l2 k p0 p1 k 0) := by kernel_rfl
theorem ok (k : Nat) : Ok Tryz.prog 29 (sem k) := Fd.ok (cx_ok trivial) ⟨Tryz.func29, rfl, by kernel_rfl⟩ rfl
attribute [irreducible] f l2
end spec_l2Has
/-! loop.example/wholecheck/spec.OrderValid -/
namespace spec_OrderValid
noncomputable def D : Fd := ⟨Tryz.f14, 1, .bool, .sh, [.sh, .sh], .unit, h10⟩
noncomputable def C (k : Nat) : Ctx := cx [(26, spec_l1In.sem k), (29, spec_l2Has.sem k)] [] [(4, [(0, none), (1, none), (5, none)])] [] [] [] []
noncomputable def sem (k : Nat) : Sem := D.sem (D.ev (C k) k)
noncomputable def f (k : Nat) (p0 : (List Int)) (p1 : Int) : Option (Bool × Unit) := D.ev (C k) k (p0, p1, ())
noncomputable def l4 (k : Nat) (p0 : (List Int)) (p1 : Int) (n : Nat) (v5_4 : Int) : Option (Bool × Unit) :=
 D.lp (C k) k 4 [1, 1, 0, 1, 0] [] n [(5, vI v5_4), (1, vI p1), (0, vS h9 p0)]
theorem s4 (k : Nat) (p0 : (List Int)) (p1 : Int) (n : Nat) (v5_4 : Int) : l4 k p0 p1 (n + 1) v5_4 =
 (if (decide (v5_4 < p1)) = true then
  (spec_l2Has.f k p0 v5_4).bind fun r2 =>
  if (!r2.1) = true then
   some (false, ())
  else
   l4 k p0 p1 n (w64 (v5_4 + 1))
 else
  some (true, ())) := by kernel_rfl
theorem z4 (k : Nat) (p0 : (List Int)) (p1 : Int) (v5_4 : Int) : l4 k p0 p1 0 v5_4 = none := by kernel_rfl
theorem s (k : Nat) (p0 : (List Int)) (p1 : Int) : f k p0 p1 =
 ((spec_l1In.f k p1 0 12).bind fun r1 =>
 if (!r1.1) = true then
  some (false, ())
 else
  if (((p0.length : Int)) != p1) = true then
   some (false, ())
  else
   l4 k p0 p1 k 0) := by kernel_rfl
theorem ok (k : Nat) : Ok Tryz.prog 14 (sem k) := Fd.ok (cx_ok ⟨spec_l1In.ok k, spec_l2Has.ok k, trivial⟩) ⟨Tryz.func14, rfl, by kernel_rfl⟩ rfl
attribute [irreducible] f l4
end spec_OrderValid
/-! loop.example/wholecheck/spec.SizeOf -/
namespace spec_SizeOf
noncomputable def D : Fd := ⟨Tryz.f34, 1, I, .sh, [.sh], .unit, h30⟩
noncomputable def C (k : Nat) : Ctx := cx [(13, spec_SystemValid.sem k)] [((7, 16), 3)] [(5, [(1, none), (3, none), (4, none)])] [] [(7, [0, 1, 2, 3, 4, 5, 6, 7, 8, 9, 10, 11, 12, 13, 14, 15, 16])] [] []
noncomputable def sem (k : Nat) : Sem := D.sem (D.ev (C k) k)
noncomputable def f (k : Nat) (p0 : y7) : Option (Int × Unit) := D.ev (C k) k (p0, ())
noncomputable def l5 (k : Nat) (p0 : y7) (n : Nat) (v3_5 v4_5 : Int) : Option (Int × Unit) :=
 D.lp (C k) k 5 [1, 1, 1, 0, 1, 0] [] n [(4, vI v4_5), (3, vI v3_5), (1, .val h37 (.ow .sh) p0)]
theorem s5 (k : Nat) (p0 : y7) (n : Nat) (v3_5 v4_5 : Int) : l5 k p0 (n + 1) v3_5 v4_5 =
 (if (decide (v4_5 < ((p0.1.length : Int)))) = true then
  gd ((0 : Int) ≤ v4_5) <| gd (v4_5 < (p0.1.length : Int)) <| gd ((0 : Int) ≤ v4_5) <| gd (v4_5 < (p0.1.length : Int)) <| l5 k p0 n (w64 (v3_5 * (w64 ((w64 ((p0.1.getD (v4_5.toNat) (0, (0, 0))).2.1 - (p0.1.getD (v4_5.toNat) (0, (0, 0))).1)) + 1)))) (w64 (v4_5 + 1))
 else
  some (v3_5, ())) := by kernel_rfl
theorem z5 (k : Nat) (p0 : y7) (v3_5 v4_5 : Int) : l5 k p0 0 v3_5 v4_5 = none := by kernel_rfl
theorem s (k : Nat) (p0 : y7) : f k p0 =
 ((spec_SystemValid.f k p0).bind fun r1 =>
 if (!r1.1) = true then
  some (0, ())
 else
  l5 k p0 k 1 0) := by kernel_rfl
theorem ok (k : Nat) : Ok Tryz.prog 34 (sem k) := Fd.ok (cx_ok ⟨spec_SystemValid.ok k, trivial⟩) ⟨Tryz.func34, rfl, by kernel_rfl⟩ rfl
attribute [irreducible] f l5
end spec_SizeOf
/-! loop.example/wholecheck/spec.FirstState -/
namespace spec_FirstState
noncomputable def D : Fd := ⟨Tryz.f66, 1, h9, (.ow .sh), [.sh], .unit, h30⟩
noncomputable def C (k : Nat) : Ctx := cx [(13, spec_SystemValid.sem k)] [] [(3, [(1, none), (3, none), (4, none)])] [] [] [] []
noncomputable def sem (k : Nat) : Sem := D.sem (D.ev (C k) k)
noncomputable def f (k : Nat) (p0 : y7) : Option ((List Int) × Unit) := D.ev (C k) k (p0, ())
noncomputable def l3 (k : Nat) (p0 : y7) (n : Nat) (v3_3 : (List Int)) (v4_3 : Int) : Option ((List Int) × Unit) :=
 D.lp (C k) k 3 [1, 1, 0, 1, 0] [] n [(4, vI v4_3), (3, vO h9 v3_3), (1, .val h37 (.ow .sh) p0)]
theorem s3 (k : Nat) (p0 : y7) (n : Nat) (v3_3 : (List Int)) (v4_3 : Int) : l3 k p0 (n + 1) v3_3 v4_3 =
 (if (decide (v4_3 < ((p0.1.length : Int)))) = true then
  (spec_SystemValid.f k p0).bind fun r1 =>
  if r1.1 = true then
   gd ((0 : Int) ≤ v4_3) <| gd (v4_3 < (p0.1.length : Int)) <| gd ((v3_3.length : Int) + ([(p0.1.getD (v4_3.toNat) (0, (0, 0))).2.2].length : Int) ≤ 1099511627776) <| l3 k p0 n (v3_3 ++ [(p0.1.getD (v4_3.toNat) (0, (0, 0))).2.2]) (w64 (v4_3 + 1))
  else
   some (v3_3, ())
 else
  some (v3_3, ())) := by kernel_rfl
theorem z3 (k : Nat) (p0 : y7) (v3_3 : (List Int)) (v4_3 : Int) : l3 k p0 0 v3_3 v4_3 = none := by kernel_rfl
theorem s (k : Nat) (p0 : y7) : f k p0 =
 (l3 k p0 k [] 0) := by kernel_rfl
theorem ok (k : Nat) : Ok Tryz.prog 66 (sem k) := Fd.ok (cx_ok ⟨spec_SystemValid.ok k, trivial⟩) ⟨Tryz.func66, rfl, by kernel_rfl⟩ rfl
attribute [irreducible] f l3
end spec_FirstState
/-! loop.example/wholecheck/spec.l3Copy -/
namespace spec_l3Copy
noncomputable def D : Fd := ⟨Tryz.f65, 1, h9, (.ow .sh), [.sh], .unit, h26⟩
noncomputable def C (k : Nat) : Ctx := cx [] [] [(3, [(0, none), (3, none), (4, none)])] [] [] [] []
noncomputable def sem (k : Nat) : Sem := D.sem (D.ev (C k) k)
noncomputable def f (k : Nat) (p0 : (List Int)) : Option ((List Int) × Unit) := D.ev (C k) k (p0, ())
noncomputable def l3 (k : Nat) (p0 : (List Int)) (n : Nat) (v3_3 : (List Int)) (v4_3 : Int) : Option ((List Int) × Unit) :=
 D.lp (C k) k 3 [1, 1, 0, 1, 0] [] n [(4, vI v4_3), (3, vO h9 v3_3), (0, vS h9 p0)]
theorem s3 (k : Nat) (p0 : (List Int)) (n : Nat) (v3_3 : (List Int)) (v4_3 : Int) : l3 k p0 (n + 1) v3_3 v4_3 =
 (if (decide (v4_3 < ((p0.length : Int)))) = true then
  gd ((0 : Int) ≤ v4_3) <| gd (v4_3 < (p0.length : Int)) <| gd ((v3_3.length : Int) + ([(p0.getD (v4_3.toNat) 0)].length : Int) ≤ 1099511627776) <| l3 k p0 n (v3_3 ++ [(p0.getD (v4_3.toNat) 0)]) (w64 (v4_3 + 1))
 else
  some (v3_3, ())) := by kernel_rfl
theorem z3 (k : Nat) (p0 : (List Int)) (v3_3 : (List Int)) (v4_3 : Int) : l3 k p0 0 v3_3 v4_3 = none := by kernel_rfl
theorem s (k : Nat) (p0 : (List Int)) : f k p0 =
 (l3 k p0 k [] 0) := by kernel_rfl
theorem ok (k : Nat) : Ok Tryz.prog 65 (sem k) := Fd.ok (cx_ok trivial) ⟨Tryz.func65, rfl, by kernel_rfl⟩ rfl
attribute [irreducible] f l3
end spec_l3Copy
/-! loop.example/wholecheck/spec.l4State -/
namespace spec_l4State
noncomputable def D : Fd := ⟨Tryz.f36, 1, h9, (.ow .sh), [.sh, .sh], .unit, h21⟩
noncomputable def C (k : Nat) : Ctx := cx [(66, spec_FirstState.sem k), (65, spec_l3Copy.sem k)] [] [(3, [(1, none), (2, none), (5, none), (6, none)])] [] [(5, [0, 1, 2, 3, 4, 5, 6, 7, 8, 9, 10, 11, 12, 13, 14]), (6, [0, 1, 2, 3, 4, 5, 6, 7, 8, 9, 10, 11, 12, 13])] [] []
noncomputable def sem (k : Nat) : Sem := D.sem (D.ev (C k) k)
noncomputable def f (k : Nat) (p0 : y7) (p1 : Int) : Option ((List Int) × Unit) := D.ev (C k) k (p0, p1, ())
noncomputable def l3 (k : Nat) (p0 : y7) (n : Nat) (v1_3 : Int) (v5_3 : (List Int)) (v6_3 : Int) : Option ((List Int) × Unit) :=
 D.lp (C k) k 3 [1, 1, 0, 1, 0] [] n [(6, vI v6_3), (5, vO h9 v5_3), (2, .val h37 (.ow .sh) p0), (1, vI v1_3)]
theorem s3 (k : Nat) (p0 : y7) (n : Nat) (v1_3 : Int) (v5_3 : (List Int)) (v6_3 : Int) : l3 k p0 (n + 1) v1_3 v5_3 v6_3 =
 (if (decide (v6_3 ≥ 0)) = true then
  gd ((0 : Int) ≤ v6_3) <| gd (v6_3 < (p0.1.length : Int)) <| gd ((0 : Int) ≤ v6_3) <| gd (v6_3 < (p0.1.length : Int)) <| gd ((0 : Int) ≤ v6_3) <| gd (v6_3 < (p0.1.length : Int)) <| gd (((w64 ((w64 ((p0.1.getD (v6_3.toNat) (0, (0, 0))).2.1 - (p0.1.getD (v6_3.toNat) (0, (0, 0))).1)) + 1)) : Int) ≠ 0) <| gd ((0 : Int) ≤ v6_3) <| gd (v6_3 < (v5_3.length : Int)) <| gd (((w64 ((w64 ((p0.1.getD (v6_3.toNat) (0, (0, 0))).2.1 - (p0.1.getD (v6_3.toNat) (0, (0, 0))).1)) + 1)) : Int) ≠ 0) <| l3 k p0 n (w64 (v1_3.tdiv (w64 ((w64 ((p0.1.getD (v6_3.toNat) (0, (0, 0))).2.1 - (p0.1.getD (v6_3.toNat) (0, (0, 0))).1)) + 1)))) (v5_3.set (v6_3.toNat) (w64 ((p0.1.getD (v6_3.toNat) (0, (0, 0))).1 + (v1_3.tmod (w64 ((w64 ((p0.1.getD (v6_3.toNat) (0, (0, 0))).2.1 - (p0.1.getD (v6_3.toNat) (0, (0, 0))).1)) + 1)))))) (w64 (v6_3 - 1))
 else
  some (v5_3, ())) := by kernel_rfl
theorem z3 (k : Nat) (p0 : y7) (v1_3 : Int) (v5_3 : (List Int)) (v6_3 : Int) : l3 k p0 0 v1_3 v5_3 v6_3 = none := by kernel_rfl
theorem s (k : Nat) (p0 : y7) (p1 : Int) : f k p0 p1 =
 ((spec_FirstState.f k p0).bind fun r1 =>
 (spec_l3Copy.f k r1.1).bind fun r2 =>
 l3 k p0 k p1 r2.1 (w64 (((p0.1.length : Int)) - 1))) := by kernel_rfl
theorem ok (k : Nat) : Ok Tryz.prog 36 (sem k) := Fd.ok (cx_ok ⟨spec_FirstState.ok k, spec_l3Copy.ok k, trivial⟩) ⟨Tryz.func36, rfl, by kernel_rfl⟩ rfl
attribute [irreducible] f l3
end spec_l4State
/-! loop.example/wholecheck/spec.l1Held -/
namespace spec_l1Held
noncomputable def D : Fd := ⟨Tryz.f123, 1, I, .sh, [.sh], .unit, h3⟩
noncomputable def C (k : Nat) : Ctx := cx [] [] [] [] [] [] []
noncomputable def sem (k : Nat) : Sem := D.sem (D.ev (C k) k)
noncomputable def f (k : Nat) (p0 : Int) : Option (Int × Unit) := D.ev (C k) k (p0, ())
theorem s (k : Nat) (p0 : Int) : f k p0 =
 (if (decide (p0 > 9999)) = true then
  some (9999, ())
 else
  if (decide (p0 < (-9999))) = true then
   some ((-9999), ())
  else
   some (p0, ())) := by kernel_rfl
theorem ok (k : Nat) : Ok Tryz.prog 123 (sem k) := Fd.ok (cx_ok trivial) ⟨Tryz.func123, rfl, by kernel_rfl⟩ rfl
attribute [irreducible] f
end spec_l1Held
/-! loop.example/wholecheck/spec.l1Truth -/
namespace spec_l1Truth
noncomputable def D : Fd := ⟨Tryz.f124, 1, I, .sh, [.sh], .unit, h38⟩
noncomputable def C (k : Nat) : Ctx := cx [] [] [] [] [] [] []
noncomputable def sem (k : Nat) : Sem := D.sem (D.ev (C k) k)
noncomputable def f (k : Nat) (p0 : Bool) : Option (Int × Unit) := D.ev (C k) k (p0, ())
theorem s (k : Nat) (p0 : Bool) : f k p0 =
 (if p0 = true then
  some (1, ())
 else
  some (0, ())) := by kernel_rfl
theorem ok (k : Nat) : Ok Tryz.prog 124 (sem k) := Fd.ok (cx_ok trivial) ⟨Tryz.func124, rfl, by kernel_rfl⟩ rfl
attribute [irreducible] f
end spec_l1Truth
/-! loop.example/wholecheck/spec.l1Do -/
namespace spec_l1Do
noncomputable def D : Fd := ⟨Tryz.f118, 1, I, .sh, [.sh, .sh, .sh], .unit, h32⟩
noncomputable def C (k : Nat) : Ctx := cx [(123, spec_l1Held.sem k), (124, spec_l1Truth.sem k)] [] [] [] [] [] []
noncomputable def sem (k : Nat) : Sem := D.sem (D.ev (C k) k)
noncomputable def f (k : Nat) (p0 p1 p2 : Int) : Option (Int × Unit) := D.ev (C k) k (p0, p1, p2, ())
theorem s (k : Nat) (p0 p1 p2 : Int) : f k p0 p1 p2 =
 (if (p0 == 2) = true then
  (spec_l1Held.f k (w64 (p1 + p2))).bind fun r1 =>
  some (r1.1, ())
 else
  if (p0 == 3) = true then
   (spec_l1Held.f k (w64 (p1 - p2))).bind fun r2 =>
   some (r2.1, ())
  else
   if (p0 == 4) = true then
    (spec_l1Held.f k (w64 (p1 * p2))).bind fun r3 =>
    some (r3.1, ())
   else
    if (p0 == 5) = true then
     (spec_l1Truth.f k (decide (p1 < p2))).bind fun r4 =>
     some (r4.1, ())
    else
     if (p0 == 6) = true then
      (spec_l1Truth.f k (p1 == p2)).bind fun r5 =>
      some (r5.1, ())
     else
      if (p0 == 7) = true then
       some (w64 (1 - p1), ())
      else
       if (p0 == 8) = true then
        some (w64 (p1 * p2), ())
       else
        (spec_l1Truth.f k (decide ((w64 (p1 + p2)) > 0))).bind fun r6 =>
        some (r6.1, ())) := by kernel_rfl
theorem ok (k : Nat) : Ok Tryz.prog 118 (sem k) := Fd.ok (cx_ok ⟨spec_l1Held.ok k, spec_l1Truth.ok k, trivial⟩) ⟨Tryz.func118, rfl, by kernel_rfl⟩ rfl
attribute [irreducible] f
end spec_l1Do
/-! loop.example/wholecheck/spec.l1Values -/
namespace spec_l1Values
noncomputable def D : Fd := ⟨Tryz.f107, 1, h9, (.ow .sh), [.sh, .sh], .unit, h39⟩
noncomputable def C (k : Nat) : Ctx := cx [(118, spec_l1Do.sem k)] [((10, 16), 3)] [(3, [(0, none), (1, none), (5, none), (6, none)])] [] [(10, [0, 1, 2, 3, 4, 5, 6, 7, 8, 9, 10, 11, 12, 13, 14, 15, 16])] [] []
noncomputable def sem (k : Nat) : Sem := D.sem (D.ev (C k) k)
noncomputable def f (k : Nat) (p0 : y2) (p1 : (List Int)) : Option ((List Int) × Unit) := D.ev (C k) k (p0, p1, ())
noncomputable def l3 (k : Nat) (p0 : y2) (p1 : (List Int)) (n : Nat) (v5_3 : (List Int)) (v6_3 : Int) : Option ((List Int) × Unit) :=
 D.lp (C k) k 3 [1, 1, 0, 1, 0] [] n [(6, vI v6_3), (5, vO h9 v5_3), (1, vS h9 p1), (0, vS h7 p0)]
theorem s3 (k : Nat) (p0 : y2) (p1 : (List Int)) (n : Nat) (v5_3 : (List Int)) (v6_3 : Int) : l3 k p0 p1 (n + 1) v5_3 v6_3 =
 (if (decide (v6_3 < ((p0.length : Int)))) = true then
  gd ((0 : Int) ≤ v6_3) <| gd (v6_3 < (p0.length : Int)) <| if ((p0.getD (v6_3.toNat) (0, (0, (0, 0)))).1 == 0) = true then
   gd ((v5_3.length : Int) + ([(p0.getD (v6_3.toNat) (0, (0, (0, 0)))).2.1].length : Int) ≤ 1099511627776) <| l3 k p0 p1 n (v5_3 ++ [(p0.getD (v6_3.toNat) (0, (0, (0, 0)))).2.1]) (w64 (v6_3 + 1))
  else
   if ((p0.getD (v6_3.toNat) (0, (0, (0, 0)))).1 == 1) = true then
    gd ((0 : Int) ≤ (p0.getD (v6_3.toNat) (0, (0, (0, 0)))).2.1) <| gd ((p0.getD (v6_3.toNat) (0, (0, (0, 0)))).2.1 < (p1.length : Int)) <| gd ((v5_3.length : Int) + ([(p1.getD ((p0.getD (v6_3.toNat) (0, (0, (0, 0)))).2.1.toNat) 0)].length : Int) ≤ 1099511627776) <| l3 k p0 p1 n (v5_3 ++ [(p1.getD ((p0.getD (v6_3.toNat) (0, (0, (0, 0)))).2.1.toNat) 0)]) (w64 (v6_3 + 1))
   else
    gd ((0 : Int) ≤ (p0.getD (v6_3.toNat) (0, (0, (0, 0)))).2.2.1) <| gd ((p0.getD (v6_3.toNat) (0, (0, (0, 0)))).2.2.1 < (v5_3.length : Int)) <| gd ((0 : Int) ≤ (p0.getD (v6_3.toNat) (0, (0, (0, 0)))).2.2.2) <| gd ((p0.getD (v6_3.toNat) (0, (0, (0, 0)))).2.2.2 < (v5_3.length : Int)) <| (spec_l1Do.f k (p0.getD (v6_3.toNat) (0, (0, (0, 0)))).1 (v5_3.getD ((p0.getD (v6_3.toNat) (0, (0, (0, 0)))).2.2.1.toNat) 0) (v5_3.getD ((p0.getD (v6_3.toNat) (0, (0, (0, 0)))).2.2.2.toNat) 0)).bind fun r1 =>
    gd ((v5_3.length : Int) + ([r1.1].length : Int) ≤ 1099511627776) <| l3 k p0 p1 n (v5_3 ++ [r1.1]) (w64 (v6_3 + 1))
 else
  some (v5_3, ())) := by kernel_rfl
theorem z3 (k : Nat) (p0 : y2) (p1 : (List Int)) (v5_3 : (List Int)) (v6_3 : Int) : l3 k p0 p1 0 v5_3 v6_3 = none := by kernel_rfl
theorem s (k : Nat) (p0 : y2) (p1 : (List Int)) : f k p0 p1 =
 (l3 k p0 p1 k [] 0) := by kernel_rfl
theorem ok (k : Nat) : Ok Tryz.prog 107 (sem k) := Fd.ok (cx_ok ⟨spec_l1Do.ok k, trivial⟩) ⟨Tryz.func107, rfl, by kernel_rfl⟩ rfl
attribute [irreducible] f l3
end spec_l1Values
/-! loop.example/wholecheck/spec.l2Last -/
namespace spec_l2Last
noncomputable def D : Fd := ⟨Tryz.f83, 1, I, .sh, [.sh, .sh], .unit, h39⟩
noncomputable def C (k : Nat) : Ctx := cx [(107, spec_l1Values.sem k)] [] [] [] [] [] []
noncomputable def sem (k : Nat) : Sem := D.sem (D.ev (C k) k)
noncomputable def f (k : Nat) (p0 : y2) (p1 : (List Int)) : Option (Int × Unit) := D.ev (C k) k (p0, p1, ())
theorem s (k : Nat) (p0 : y2) (p1 : (List Int)) : f k p0 p1 =
 ((spec_l1Values.f k p0 p1).bind fun r1 =>
 gd ((0 : Int) ≤ (w64 (((p0.length : Int)) - 1))) <| gd ((w64 (((p0.length : Int)) - 1)) < (r1.1.length : Int)) <| some (r1.1.getD ((w64 (((p0.length : Int)) - 1)).toNat) 0, ())) := by kernel_rfl
theorem ok (k : Nat) : Ok Tryz.prog 83 (sem k) := Fd.ok (cx_ok ⟨spec_l1Values.ok k, trivial⟩) ⟨Tryz.func83, rfl, by kernel_rfl⟩ rfl
attribute [irreducible] f
end spec_l2Last
/-! loop.example/wholecheck/spec.l2In -/
namespace spec_l2In
noncomputable def D : Fd := ⟨Tryz.f84, 1, .bool, .sh, [.sh, .sh], .unit, h40⟩
noncomputable def C (k : Nat) : Ctx := cx [(26, spec_l1In.sem k)] [] [(4, [(1, none), (2, none), (5, none)])] [] [(6, [0, 1, 2, 3, 4, 5, 6, 7, 8, 9, 10, 11, 12, 13, 14, 15, 16, 17])] [] []
noncomputable def sem (k : Nat) : Sem := D.sem (D.ev (C k) k)
noncomputable def f (k : Nat) (p0 : y7) (p1 : (List Int)) : Option (Bool × Unit) := D.ev (C k) k (p0, p1, ())
noncomputable def l4 (k : Nat) (p0 : y7) (p1 : (List Int)) (n : Nat) (v5_4 : Int) : Option (Bool × Unit) :=
 D.lp (C k) k 4 [1, 1, 0, 1, 0] [] n [(5, vI v5_4), (2, .val h37 (.ow .sh) p0), (1, vS h9 p1)]
theorem s4 (k : Nat) (p0 : y7) (p1 : (List Int)) (n : Nat) (v5_4 : Int) : l4 k p0 p1 (n + 1) v5_4 =
 (if (decide (v5_4 < ((p1.length : Int)))) = true then
  gd ((0 : Int) ≤ v5_4) <| gd (v5_4 < (p1.length : Int)) <| gd ((0 : Int) ≤ v5_4) <| gd (v5_4 < (p0.1.length : Int)) <| gd ((0 : Int) ≤ v5_4) <| gd (v5_4 < (p0.1.length : Int)) <| (spec_l1In.f k (p1.getD (v5_4.toNat) 0) (p0.1.getD (v5_4.toNat) (0, (0, 0))).1 (p0.1.getD (v5_4.toNat) (0, (0, 0))).2.1).bind fun r1 =>
  if (!r1.1) = true then
   some (false, ())
  else
   l4 k p0 p1 n (w64 (v5_4 + 1))
 else
  some (true, ())) := by kernel_rfl
theorem z4 (k : Nat) (p0 : y7) (p1 : (List Int)) (v5_4 : Int) : l4 k p0 p1 0 v5_4 = none := by kernel_rfl
theorem s (k : Nat) (p0 : y7) (p1 : (List Int)) : f k p0 p1 =
 (if (((p1.length : Int)) != ((p0.1.length : Int))) = true then
  some (false, ())
 else
  l4 k p0 p1 k 0) := by kernel_rfl
theorem ok (k : Nat) : Ok Tryz.prog 84 (sem k) := Fd.ok (cx_ok ⟨spec_l1In.ok k, trivial⟩) ⟨Tryz.func84, rfl, by kernel_rfl⟩ rfl
attribute [irreducible] f l4
end spec_l2In
/-! loop.example/wholecheck/spec.l2Use -/
namespace spec_l2Use
noncomputable def D : Fd := ⟨Tryz.f63, 1, h9, (.ow .sh), [.sh, .sh, .sh], .unit, h41⟩
noncomputable def C (k : Nat) : Ctx := cx [(83, spec_l2Last.sem k), (84, spec_l2In.sem k)] [] [(6, [(1, none), (3, none), (7, none), (8, none), (9, none)]), (10, [(1, none), (3, none), (7, none), (8, none), (10, none)])] [] [(12, [0, 1, 2, 3, 4, 5, 6, 7, 8, 9, 10, 11, 12, 13, 14])] [((12, 12), [7])] []
noncomputable def sem (k : Nat) : Sem := D.sem (D.ev (C k) k)
noncomputable def f (k : Nat) (p0 : y7) (p1 : (List Int)) (p2 : Int) : Option ((List Int) × Unit) := D.ev (C k) k (p0, p1, p2, ())
noncomputable def l6 (k : Nat) (p0 : y7) (p1 : (List Int)) (p2 : Int) (n : Nat) (v8_6 : (List Int)) (v9_6 : Int) : Option ((List Int) × Unit) :=
 D.lp (C k) k 6 [1, 1, 1, 1, 0, 1, 0] [] n [(9, vI v9_6), (8, vO h9 v8_6), (7, .val h36 (.ow .sh) (p0.2.getD (p2.toNat) ([], ([], [])))), (3, .val h37 (.ow .sh) p0), (1, vS h9 p1)]
noncomputable def l10 (k : Nat) (p0 : y7) (p1 : (List Int)) (p2 : Int) (n : Nat) (v8_10 : (List Int)) (v10_10 : Int) : Option ((List Int) × Unit) :=
 D.lp (C k) k 10 [1, 1, 1, 1, 1, 0, 1, 0] [] n [(10, vI v10_10), (8, vO h9 v8_10), (7, .val h36 (.ow .sh) (p0.2.getD (p2.toNat) ([], ([], [])))), (3, .val h37 (.ow .sh) p0), (1, vS h9 p1)]
theorem s10 (k : Nat) (p0 : y7) (p1 : (List Int)) (p2 : Int) (n : Nat) (v8_10 : (List Int)) (v10_10 : Int) : l10 k p0 p1 p2 (n + 1) v8_10 v10_10 =
 (if (decide (v10_10 < (((p0.2.getD (p2.toNat) ([], ([], []))).2.1.length : Int)))) = true then
  gd ((0 : Int) ≤ v10_10) <| gd (v10_10 < ((p0.2.getD (p2.toNat) ([], ([], []))).2.1.length : Int)) <| gd ((0 : Int) ≤ v10_10) <| gd (v10_10 < ((p0.2.getD (p2.toNat) ([], ([], []))).2.2.length : Int)) <| (spec_l2Last.f k ((p0.2.getD (p2.toNat) ([], ([], []))).2.2.getD (v10_10.toNat) []) p1).bind fun r2 =>
  gd ((0 : Int) ≤ ((p0.2.getD (p2.toNat) ([], ([], []))).2.1.getD (v10_10.toNat) 0)) <| gd (((p0.2.getD (p2.toNat) ([], ([], []))).2.1.getD (v10_10.toNat) 0) < (v8_10.length : Int)) <| l10 k p0 p1 p2 n (v8_10.set (((p0.2.getD (p2.toNat) ([], ([], []))).2.1.getD (v10_10.toNat) 0).toNat) r2.1) (w64 (v10_10 + 1))
 else
  (spec_l2In.f k p0 v8_10).bind fun r3 =>
  if (!r3.1) = true then
   some ([], ())
  else
   some (v8_10, ())) := by kernel_rfl
theorem z10 (k : Nat) (p0 : y7) (p1 : (List Int)) (p2 : Int) (v8_10 : (List Int)) (v10_10 : Int) : l10 k p0 p1 p2 0 v8_10 v10_10 = none := by kernel_rfl
theorem s6 (k : Nat) (p0 : y7) (p1 : (List Int)) (p2 : Int) (n : Nat) (v8_6 : (List Int)) (v9_6 : Int) : l6 k p0 p1 p2 (n + 1) v8_6 v9_6 =
 (if (decide (v9_6 < ((p1.length : Int)))) = true then
  gd ((0 : Int) ≤ v9_6) <| gd (v9_6 < (p1.length : Int)) <| gd ((v8_6.length : Int) + ([(p1.getD (v9_6.toNat) 0)].length : Int) ≤ 1099511627776) <| l6 k p0 p1 p2 n (v8_6 ++ [(p1.getD (v9_6.toNat) 0)]) (w64 (v9_6 + 1))
 else
  l10 k p0 p1 p2 k v8_6 0) := by kernel_rfl
theorem z6 (k : Nat) (p0 : y7) (p1 : (List Int)) (p2 : Int) (v8_6 : (List Int)) (v9_6 : Int) : l6 k p0 p1 p2 0 v8_6 v9_6 = none := by kernel_rfl
theorem s (k : Nat) (p0 : y7) (p1 : (List Int)) (p2 : Int) : f k p0 p1 p2 =
 (gd ((0 : Int) ≤ p2) <| gd (p2 < (p0.2.length : Int)) <| (spec_l2Last.f k (p0.2.getD (p2.toNat) ([], ([], []))).1 p1).bind fun r1 =>
 if (r1.1 == 0) = true then
  some ([], ())
 else
  l6 k p0 p1 p2 k [] 0) := by kernel_rfl
theorem ok (k : Nat) : Ok Tryz.prog 63 (sem k) := Fd.ok (cx_ok ⟨spec_l2Last.ok k, spec_l2In.ok k, trivial⟩) ⟨Tryz.func63, rfl, by kernel_rfl⟩ rfl
attribute [irreducible] f l6 l10
end spec_l2Use
/-! loop.example/wholecheck/spec.l2Same -/
namespace spec_l2Same
noncomputable def D : Fd := ⟨Tryz.f32, 1, .bool, .sh, [.sh, .sh], .unit, h42⟩
noncomputable def C (k : Nat) : Ctx := cx [] [] [(4, [(0, none), (1, none), (5, none)])] [] [(6, [0, 1, 2, 3, 4, 5, 6, 7, 8])] [] []
noncomputable def sem (k : Nat) : Sem := D.sem (D.ev (C k) k)
noncomputable def f (k : Nat) (p0 p1 : (List Int)) : Option (Bool × Unit) := D.ev (C k) k (p0, p1, ())
noncomputable def l4 (k : Nat) (p0 p1 : (List Int)) (n : Nat) (v5_4 : Int) : Option (Bool × Unit) :=
 D.lp (C k) k 4 [1, 1, 0, 1, 0] [] n [(5, vI v5_4), (1, vS h9 p1), (0, vS h9 p0)]
theorem s4 (k : Nat) (p0 p1 : (List Int)) (n : Nat) (v5_4 : Int) : l4 k p0 p1 (n + 1) v5_4 =
 (if (decide (v5_4 < ((p0.length : Int)))) = true then
  gd ((0 : Int) ≤ v5_4) <| gd (v5_4 < (p0.length : Int)) <| gd ((0 : Int) ≤ v5_4) <| gd (v5_4 < (p1.length : Int)) <| if ((p0.getD (v5_4.toNat) 0) != (p1.getD (v5_4.toNat) 0)) = true then
   some (false, ())
  else
   l4 k p0 p1 n (w64 (v5_4 + 1))
 else
  some (true, ())) := by kernel_rfl
theorem z4 (k : Nat) (p0 p1 : (List Int)) (v5_4 : Int) : l4 k p0 p1 0 v5_4 = none := by kernel_rfl
theorem s (k : Nat) (p0 p1 : (List Int)) : f k p0 p1 =
 (if (((p0.length : Int)) != ((p1.length : Int))) = true then
  some (false, ())
 else
  l4 k p0 p1 k 0) := by kernel_rfl
theorem ok (k : Nat) : Ok Tryz.prog 32 (sem k) := Fd.ok (cx_ok trivial) ⟨Tryz.func32, rfl, by kernel_rfl⟩ rfl
attribute [irreducible] f l4
end spec_l2Same
/-! loop.example/wholecheck/spec.l2Less -/
namespace spec_l2Less
noncomputable def D : Fd := ⟨Tryz.f85, 1, .bool, .sh, [.sh, .sh], .unit, h42⟩
noncomputable def C (k : Nat) : Ctx := cx [] [] [(2, [(0, none), (1, none), (5, none)])] [] [(4, [0, 1, 2, 3, 4, 5, 6, 7, 8]), (5, [0, 1, 2, 3, 4, 5, 6, 7, 8, 9])] [] []
noncomputable def sem (k : Nat) : Sem := D.sem (D.ev (C k) k)
noncomputable def f (k : Nat) (p0 p1 : (List Int)) : Option (Bool × Unit) := D.ev (C k) k (p0, p1, ())
noncomputable def l2 (k : Nat) (p0 p1 : (List Int)) (n : Nat) (v5_2 : Int) : Option (Bool × Unit) :=
 D.lp (C k) k 2 [1, 0, 1, 0] [] n [(5, vI v5_2), (1, vS h9 p1), (0, vS h9 p0)]
theorem s2 (k : Nat) (p0 p1 : (List Int)) (n : Nat) (v5_2 : Int) : l2 k p0 p1 (n + 1) v5_2 =
 (if (decide (v5_2 < ((p0.length : Int)))) = true then
  if (decide (v5_2 < ((p1.length : Int)))) = true then
   gd ((0 : Int) ≤ v5_2) <| gd (v5_2 < (p0.length : Int)) <| gd ((0 : Int) ≤ v5_2) <| gd (v5_2 < (p1.length : Int)) <| if ((p0.getD (v5_2.toNat) 0) != (p1.getD (v5_2.toNat) 0)) = true then
    gd ((0 : Int) ≤ v5_2) <| gd (v5_2 < (p0.length : Int)) <| gd ((0 : Int) ≤ v5_2) <| gd (v5_2 < (p1.length : Int)) <| some (decide ((p0.getD (v5_2.toNat) 0) < (p1.getD (v5_2.toNat) 0)), ())
   else
    l2 k p0 p1 n (w64 (v5_2 + 1))
  else
   some (decide (((p0.length : Int)) < ((p1.length : Int))), ())
 else
  some (decide (((p0.length : Int)) < ((p1.length : Int))), ())) := by kernel_rfl
theorem z2 (k : Nat) (p0 p1 : (List Int)) (v5_2 : Int) : l2 k p0 p1 0 v5_2 = none := by kernel_rfl
theorem s (k : Nat) (p0 p1 : (List Int)) : f k p0 p1 =
 (l2 k p0 p1 k 0) := by kernel_rfl
theorem ok (k : Nat) : Ok Tryz.prog 85 (sem k) := Fd.ok (cx_ok trivial) ⟨Tryz.func85, rfl, by kernel_rfl⟩ rfl
attribute [irreducible] f l2
end spec_l2Less
/-! loop.example/wholecheck/spec.l2Put -/
namespace spec_l2Put
noncomputable def D : Fd := ⟨Tryz.f64, 1, h43, (.ow .sh), [.sh, .sh], .unit, h44⟩
noncomputable def C (k : Nat) : Ctx := cx [(32, spec_l2Same.sem k), (85, spec_l2Less.sem k)] [] [(4, [(0, none), (1, none), (5, some (h43, (.ow .sh))), (6, none), (7, none)])] [] [] [] [(8, [(0, none), (1, none), (5, none), (6, none), (7, none)])]
noncomputable def sem (k : Nat) : Sem := D.sem (D.ev (C k) k)
noncomputable def f (k : Nat) (p0 : (List (List Int))) (p1 : (List Int)) : Option ((List (List Int)) × Unit) := D.ev (C k) k (p0, p1, ())
noncomputable def l4 (k : Nat) (p0 : (List (List Int))) (p1 : (List Int)) (n : Nat) (v5_4 : (List (List Int))) (v6_4 : Bool) (v7_4 : Int) : Option ((List (List Int)) × Unit) :=
 D.lp (C k) k 4 [1, 1, 1, 0, 1, 0] [] n [(7, vI v7_4), (6, vB v6_4), (5, .val h43 (.ow .sh) v5_4), (1, vS h9 p1), (0, vS h43 p0)]
noncomputable def lj8 (k n4 : Nat) (p0 : (List (List Int))) (p1 : (List Int)) (v5_4 : (List (List Int))) (v7_4 : Int) (n : Nat) (v6_j8 : Bool) : Option ((List (List Int)) × Unit) :=
 D.jn (C k) k 8 [1, 1, 1, 0, 1, 0, 0, 1, 0, 0] [n4] n [(7, vI v7_4), (6, vB v6_j8), (5, .val h43 (.ow .sh) v5_4), (1, vS h9 p1), (0, vS h43 p0)]
theorem sj8 (k n4 : Nat) (p0 : (List (List Int))) (p1 : (List Int)) (v5_4 : (List (List Int))) (v7_4 : Int) (n : Nat) (v6_j8 : Bool) : lj8 k n4 p0 p1 v5_4 v7_4 (n + 1) v6_j8 =
 (if (!v6_j8) = true then
  gd ((0 : Int) ≤ v7_4) <| gd (v7_4 < (p0.length : Int)) <| (spec_l2Less.f k p1 (p0.getD (v7_4.toNat) [])).bind fun r2 =>
  if r2.1 = true then
   gd ((v5_4.length : Int) + ([p1].length : Int) ≤ 1099511627776) <| gd ((0 : Int) ≤ v7_4) <| gd (v7_4 < (p0.length : Int)) <| gd (((v5_4 ++ [p1]).length : Int) + ([(p0.getD (v7_4.toNat) [])].length : Int) ≤ 1099511627776) <| l4 k p0 p1 n4 ((v5_4 ++ [p1]) ++ [(p0.getD (v7_4.toNat) [])]) true (w64 (v7_4 + 1))
  else
   gd ((0 : Int) ≤ v7_4) <| gd (v7_4 < (p0.length : Int)) <| gd ((v5_4.length : Int) + ([(p0.getD (v7_4.toNat) [])].length : Int) ≤ 1099511627776) <| l4 k p0 p1 n4 (v5_4 ++ [(p0.getD (v7_4.toNat) [])]) v6_j8 (w64 (v7_4 + 1))
 else
  gd ((0 : Int) ≤ v7_4) <| gd (v7_4 < (p0.length : Int)) <| gd ((v5_4.length : Int) + ([(p0.getD (v7_4.toNat) [])].length : Int) ≤ 1099511627776) <| l4 k p0 p1 n4 (v5_4 ++ [(p0.getD (v7_4.toNat) [])]) v6_j8 (w64 (v7_4 + 1))) := by kernel_rfl
theorem zj8 (k n4 : Nat) (p0 : (List (List Int))) (p1 : (List Int)) (v5_4 : (List (List Int))) (v7_4 : Int) (v6_j8 : Bool) : lj8 k n4 p0 p1 v5_4 v7_4 0 v6_j8 = none := by kernel_rfl
theorem s4 (k : Nat) (p0 : (List (List Int))) (p1 : (List Int)) (n : Nat) (v5_4 : (List (List Int))) (v6_4 : Bool) (v7_4 : Int) : l4 k p0 p1 (n + 1) v5_4 v6_4 v7_4 =
 (if (decide (v7_4 < ((p0.length : Int)))) = true then
  if (!v6_4) = true then
   gd ((0 : Int) ≤ v7_4) <| gd (v7_4 < (p0.length : Int)) <| (spec_l2Same.f k (p0.getD (v7_4.toNat) []) p1).bind fun r1 =>
   if r1.1 = true then
    lj8 k n p0 p1 v5_4 v7_4 k true
   else
    lj8 k n p0 p1 v5_4 v7_4 k v6_4
  else
   lj8 k n p0 p1 v5_4 v7_4 k v6_4
 else
  if (!v6_4) = true then
   gd ((v5_4.length : Int) + ([p1].length : Int) ≤ 1099511627776) <| some (v5_4 ++ [p1], ())
  else
   some (v5_4, ())) := by kernel_rfl
theorem z4 (k : Nat) (p0 : (List (List Int))) (p1 : (List Int)) (v5_4 : (List (List Int))) (v6_4 : Bool) (v7_4 : Int) : l4 k p0 p1 0 v5_4 v6_4 v7_4 = none := by kernel_rfl
theorem s (k : Nat) (p0 : (List (List Int))) (p1 : (List Int)) : f k p0 p1 =
 (l4 k p0 p1 k [] false 0) := by kernel_rfl
theorem ok (k : Nat) : Ok Tryz.prog 64 (sem k) := Fd.ok (cx_ok ⟨spec_l2Same.ok k, spec_l2Less.ok k, trivial⟩) ⟨Tryz.func64, rfl, by kernel_rfl⟩ rfl
attribute [irreducible] f l4 lj8
end spec_l2Put
/-! loop.example/wholecheck/spec.l2Next -/
namespace spec_l2Next
noncomputable def D : Fd := ⟨Tryz.f35, 1, h43, (.ow .sh), [.sh, .sh], .unit, h40⟩
noncomputable def C (k : Nat) : Ctx := cx [(63, spec_l2Use.sem k), (64, spec_l2Put.sem k)] [] [(3, [(1, none), (2, none), (5, some (h43, (.ow .sh))), (6, none)])] [] [] [] []
noncomputable def sem (k : Nat) : Sem := D.sem (D.ev (C k) k)
noncomputable def f (k : Nat) (p0 : y7) (p1 : (List Int)) : Option ((List (List Int)) × Unit) := D.ev (C k) k (p0, p1, ())
noncomputable def l3 (k : Nat) (p0 : y7) (p1 : (List Int)) (n : Nat) (v5_3 : (List (List Int))) (v6_3 : Int) : Option ((List (List Int)) × Unit) :=
 D.lp (C k) k 3 [1, 1, 0, 1, 0] [] n [(6, vI v6_3), (5, .val h43 (.ow .sh) v5_3), (2, .val h37 (.ow .sh) p0), (1, vS h9 p1)]
theorem s3 (k : Nat) (p0 : y7) (p1 : (List Int)) (n : Nat) (v5_3 : (List (List Int))) (v6_3 : Int) : l3 k p0 p1 (n + 1) v5_3 v6_3 =
 (if (decide (v6_3 < ((p0.2.length : Int)))) = true then
  (spec_l2Use.f k p0 p1 v6_3).bind fun r1 =>
  if (decide (((r1.1.length : Int)) > 0)) = true then
   (spec_l2Put.f k v5_3 r1.1).bind fun r2 =>
   l3 k p0 p1 n r2.1 (w64 (v6_3 + 1))
  else
   l3 k p0 p1 n v5_3 (w64 (v6_3 + 1))
 else
  some (v5_3, ())) := by kernel_rfl
theorem z3 (k : Nat) (p0 : y7) (p1 : (List Int)) (v5_3 : (List (List Int))) (v6_3 : Int) : l3 k p0 p1 0 v5_3 v6_3 = none := by kernel_rfl
theorem s (k : Nat) (p0 : y7) (p1 : (List Int)) : f k p0 p1 =
 (l3 k p0 p1 k [] 0) := by kernel_rfl
theorem ok (k : Nat) : Ok Tryz.prog 35 (sem k) := Fd.ok (cx_ok ⟨spec_l2Use.ok k, spec_l2Put.ok k, trivial⟩) ⟨Tryz.func35, rfl, by kernel_rfl⟩ rfl
attribute [irreducible] f l3
end spec_l2Next
/-! loop.example/wholecheck/spec.l4Number -/
namespace spec_l4Number
noncomputable def D : Fd := ⟨Tryz.f37, 1, I, .sh, [.sh, .sh], .unit, h40⟩
noncomputable def C (k : Nat) : Ctx := cx [] [((5, 28), 3)] [(3, [(1, none), (2, none), (5, none), (6, none)])] [] [(5, [0, 1, 2, 3, 4, 5, 6, 7, 8, 9, 10, 11, 12, 13, 14, 15, 16, 17, 18, 19, 20, 21, 22, 23, 24, 25, 26, 27, 28])] [] []
noncomputable def sem (k : Nat) : Sem := D.sem (D.ev (C k) k)
noncomputable def f (k : Nat) (p0 : y7) (p1 : (List Int)) : Option (Int × Unit) := D.ev (C k) k (p0, p1, ())
noncomputable def l3 (k : Nat) (p0 : y7) (p1 : (List Int)) (n : Nat) (v5_3 v6_3 : Int) : Option (Int × Unit) :=
 D.lp (C k) k 3 [1, 1, 0, 1, 0] [] n [(6, vI v6_3), (5, vI v5_3), (2, .val h37 (.ow .sh) p0), (1, vS h9 p1)]
theorem s3 (k : Nat) (p0 : y7) (p1 : (List Int)) (n : Nat) (v5_3 v6_3 : Int) : l3 k p0 p1 (n + 1) v5_3 v6_3 =
 (if (decide (v6_3 < ((p1.length : Int)))) = true then
  gd ((0 : Int) ≤ v6_3) <| gd (v6_3 < (p0.1.length : Int)) <| gd ((0 : Int) ≤ v6_3) <| gd (v6_3 < (p0.1.length : Int)) <| gd ((0 : Int) ≤ v6_3) <| gd (v6_3 < (p1.length : Int)) <| gd ((0 : Int) ≤ v6_3) <| gd (v6_3 < (p0.1.length : Int)) <| l3 k p0 p1 n (w64 ((w64 ((w64 (v5_3 * (w64 ((w64 ((p0.1.getD (v6_3.toNat) (0, (0, 0))).2.1 - (p0.1.getD (v6_3.toNat) (0, (0, 0))).1)) + 1)))) + (p1.getD (v6_3.toNat) 0))) - (p0.1.getD (v6_3.toNat) (0, (0, 0))).1)) (w64 (v6_3 + 1))
 else
  some (v5_3, ())) := by kernel_rfl
theorem z3 (k : Nat) (p0 : y7) (p1 : (List Int)) (v5_3 v6_3 : Int) : l3 k p0 p1 0 v5_3 v6_3 = none := by kernel_rfl
theorem s (k : Nat) (p0 : y7) (p1 : (List Int)) : f k p0 p1 =
 (l3 k p0 p1 k 0 0) := by kernel_rfl
theorem ok (k : Nat) : Ok Tryz.prog 37 (sem k) := Fd.ok (cx_ok trivial) ⟨Tryz.func37, rfl, by kernel_rfl⟩ rfl
attribute [irreducible] f l3
end spec_l4Number
/-! loop.example/wholecheck/spec.l4Steps -/
namespace spec_l4Steps
noncomputable def D : Fd := ⟨Tryz.f16, 1, h43, (.ow (.ow .sh)), [.sh], .unit, h30⟩
noncomputable def C (k : Nat) : Ctx := cx [(34, spec_SizeOf.sem k), (36, spec_l4State.sem k), (35, spec_l2Next.sem k), (37, spec_l4Number.sem k)] [((10, 9), 3)] [(3, [(1, none), (3, none), (4, none)]), (8, [(1, none), (3, none), (4, none), (5, none), (6, none), (7, none)])] [] [(5, [0, 1, 2, 3, 4, 5]), (10, [0, 1, 2, 3, 4, 5, 6, 7, 8, 9])] [((5, 3), [1])] []
noncomputable def sem (k : Nat) : Sem := D.sem (D.ev (C k) k)
noncomputable def f (k : Nat) (p0 : y7) : Option ((List (List Int)) × Unit) := D.ev (C k) k (p0, ())
noncomputable def l3 (k : Nat) (p0 : y7) (n : Nat) (v3_3 : (List (List Int))) (v4_3 : Int) : Option ((List (List Int)) × Unit) :=
 D.lp (C k) k 3 [1, 1, 0, 1, 0] [] n [(4, vI v4_3), (3, vO h43 v3_3), (1, .val h37 (.ow .sh) p0)]
noncomputable def l8 (k n3 : Nat) (p0 : y7) (v3_3 : (List (List Int))) (v4_3 : Int) (n : Nat) (v5_8 : (List (List Int))) (v6_8 : (List Int)) (v7_8 : Int) : Option ((List (List Int)) × Unit) :=
 D.lp (C k) k 8 [1, 1, 0, 1, 0, 0, 1, 0, 0, 1, 1, 0, 1, 0] [n3] n [(7, vI v7_8), (6, vO h9 v6_8), (5, .val h43 (.ow .sh) v5_8), (4, vI v4_3), (3, vO h43 v3_3), (1, .val h37 (.ow .sh) p0)]
theorem s8 (k n3 : Nat) (p0 : y7) (v3_3 : (List (List Int))) (v4_3 : Int) (n : Nat) (v5_8 : (List (List Int))) (v6_8 : (List Int)) (v7_8 : Int) : l8 k n3 p0 v3_3 v4_3 (n + 1) v5_8 v6_8 v7_8 =
 (if (decide (v7_8 < ((v5_8.length : Int)))) = true then
  gd ((0 : Int) ≤ v7_8) <| gd (v7_8 < (v5_8.length : Int)) <| (spec_l4Number.f k p0 (v5_8.getD (v7_8.toNat) [])).bind fun r4 =>
  gd ((v6_8.length : Int) + ([r4.1].length : Int) ≤ 1099511627776) <| l8 k n3 p0 v3_3 v4_3 n v5_8 (v6_8 ++ [r4.1]) (w64 (v7_8 + 1))
 else
  gd ((v3_3.length : Int) + ([v6_8].length : Int) ≤ 1099511627776) <| l3 k p0 n3 (v3_3 ++ [v6_8]) (w64 (v4_3 + 1))) := by kernel_rfl
theorem z8 (k n3 : Nat) (p0 : y7) (v3_3 : (List (List Int))) (v4_3 : Int) (v5_8 : (List (List Int))) (v6_8 : (List Int)) (v7_8 : Int) : l8 k n3 p0 v3_3 v4_3 0 v5_8 v6_8 v7_8 = none := by kernel_rfl
theorem s3 (k : Nat) (p0 : y7) (n : Nat) (v3_3 : (List (List Int))) (v4_3 : Int) : l3 k p0 (n + 1) v3_3 v4_3 =
 ((spec_SizeOf.f k p0).bind fun r1 =>
 if (decide (v4_3 < r1.1)) = true then
  (spec_l4State.f k p0 v4_3).bind fun r2 =>
  (spec_l2Next.f k p0 r2.1).bind fun r3 =>
  l8 k n p0 v3_3 v4_3 k r3.1 [] 0
 else
  some (v3_3, ())) := by kernel_rfl
theorem z3 (k : Nat) (p0 : y7) (v3_3 : (List (List Int))) (v4_3 : Int) : l3 k p0 0 v3_3 v4_3 = none := by kernel_rfl
theorem s (k : Nat) (p0 : y7) : f k p0 =
 (l3 k p0 k [] 0) := by kernel_rfl
theorem ok (k : Nat) : Ok Tryz.prog 16 (sem k) := Fd.ok (cx_ok ⟨spec_SizeOf.ok k, spec_l4State.ok k, spec_l2Next.ok k, spec_l4Number.ok k, trivial⟩) ⟨Tryz.func16, rfl, by kernel_rfl⟩ rfl
attribute [irreducible] f l3 l8
end spec_l4Steps
/-! loop.example/wholecheck/spec.l27Vars -/
namespace spec_l27Vars
noncomputable def D : Fd := ⟨Tryz.f30, 1, .bool, .sh, [.sh, .sh], .unit, h40⟩
noncomputable def C (k : Nat) : Ctx := cx [] [] [(2, [(1, none), (2, none), (5, none)])] [] [(4, [0, 1, 2, 3, 4, 5, 6, 7, 8, 9, 10, 11, 12, 13])] [] []
noncomputable def sem (k : Nat) : Sem := D.sem (D.ev (C k) k)
noncomputable def f (k : Nat) (p0 : y7) (p1 : (List Int)) : Option (Bool × Unit) := D.ev (C k) k (p0, p1, ())
noncomputable def l2 (k : Nat) (p0 : y7) (p1 : (List Int)) (n : Nat) (v5_2 : Int) : Option (Bool × Unit) :=
 D.lp (C k) k 2 [1, 0, 1, 0] [] n [(5, vI v5_2), (2, .val h37 (.ow .sh) p0), (1, vS h9 p1)]
theorem s2 (k : Nat) (p0 : y7) (p1 : (List Int)) (n : Nat) (v5_2 : Int) : l2 k p0 p1 (n + 1) v5_2 =
 (if (decide (v5_2 < ((p1.length : Int)))) = true then
  gd ((0 : Int) ≤ v5_2) <| gd (v5_2 < (p1.length : Int)) <| gd ((0 : Int) ≤ (p1.getD (v5_2.toNat) 0)) <| gd ((p1.getD (v5_2.toNat) 0) < (p0.1.length : Int)) <| gd ((0 : Int) ≤ v5_2) <| gd (v5_2 < (p0.1.length : Int)) <| if (!(((p0.1.getD ((p1.getD (v5_2.toNat) 0).toNat) (0, (0, 0))).1 == (p0.1.getD (v5_2.toNat) (0, (0, 0))).1) && (((p0.1.getD ((p1.getD (v5_2.toNat) 0).toNat) (0, (0, 0))).2.1 == (p0.1.getD (v5_2.toNat) (0, (0, 0))).2.1) && ((p0.1.getD ((p1.getD (v5_2.toNat) 0).toNat) (0, (0, 0))).2.2 == (p0.1.getD (v5_2.toNat) (0, (0, 0))).2.2)))) = true then
   some (false, ())
  else
   l2 k p0 p1 n (w64 (v5_2 + 1))
 else
  some (true, ())) := by kernel_rfl
theorem z2 (k : Nat) (p0 : y7) (p1 : (List Int)) (v5_2 : Int) : l2 k p0 p1 0 v5_2 = none := by kernel_rfl
theorem s (k : Nat) (p0 : y7) (p1 : (List Int)) : f k p0 p1 =
 (l2 k p0 p1 k 0) := by kernel_rfl
theorem ok (k : Nat) : Ok Tryz.prog 30 (sem k) := Fd.ok (cx_ok trivial) ⟨Tryz.func30, rfl, by kernel_rfl⟩ rfl
attribute [irreducible] f l2
end spec_l27Vars
/-! loop.example/wholecheck/spec.Exchanged -/
namespace spec_Exchanged
noncomputable def D : Fd := ⟨Tryz.f61, 1, h9, (.ow .sh), [.sh, .sh], .unit, h42⟩
noncomputable def C (k : Nat) : Ctx := cx [(14, spec_OrderValid.sem k)] [] [(3, [(0, none), (1, none), (5, none), (6, none)])] [] [] [] []
noncomputable def sem (k : Nat) : Sem := D.sem (D.ev (C k) k)
noncomputable def f (k : Nat) (p0 p1 : (List Int)) : Option ((List Int) × Unit) := D.ev (C k) k (p0, p1, ())
noncomputable def l3 (k : Nat) (p0 p1 : (List Int)) (n : Nat) (v5_3 : (List Int)) (v6_3 : Int) : Option ((List Int) × Unit) :=
 D.lp (C k) k 3 [1, 1, 0, 1, 0] [] n [(6, vI v6_3), (5, vO h9 v5_3), (1, vS h9 p1), (0, vS h9 p0)]
theorem s3 (k : Nat) (p0 p1 : (List Int)) (n : Nat) (v5_3 : (List Int)) (v6_3 : Int) : l3 k p0 p1 (n + 1) v5_3 v6_3 =
 (if (decide (v6_3 < ((p1.length : Int)))) = true then
  (spec_OrderValid.f k p1 ((p0.length : Int))).bind fun r1 =>
  if r1.1 = true then
   gd ((0 : Int) ≤ v6_3) <| gd (v6_3 < (p1.length : Int)) <| gd ((0 : Int) ≤ (p1.getD (v6_3.toNat) 0)) <| gd ((p1.getD (v6_3.toNat) 0) < (p0.length : Int)) <| gd ((v5_3.length : Int) + ([(p0.getD ((p1.getD (v6_3.toNat) 0).toNat) 0)].length : Int) ≤ 1099511627776) <| l3 k p0 p1 n (v5_3 ++ [(p0.getD ((p1.getD (v6_3.toNat) 0).toNat) 0)]) (w64 (v6_3 + 1))
  else
   some (v5_3, ())
 else
  some (v5_3, ())) := by kernel_rfl
theorem z3 (k : Nat) (p0 p1 : (List Int)) (v5_3 : (List Int)) (v6_3 : Int) : l3 k p0 p1 0 v5_3 v6_3 = none := by kernel_rfl
theorem s (k : Nat) (p0 p1 : (List Int)) : f k p0 p1 =
 (l3 k p0 p1 k [] 0) := by kernel_rfl
theorem ok (k : Nat) : Ok Tryz.prog 61 (sem k) := Fd.ok (cx_ok ⟨spec_OrderValid.ok k, trivial⟩) ⟨Tryz.func61, rfl, by kernel_rfl⟩ rfl
attribute [irreducible] f l3
end spec_Exchanged
/-! loop.example/wholecheck/spec.l27Image -/
namespace spec_l27Image
noncomputable def D : Fd := ⟨Tryz.f31, 1, I, .sh, [.sh, .sh, .sh], .unit, h46⟩
noncomputable def C (k : Nat) : Ctx := cx [(36, spec_l4State.sem k), (61, spec_Exchanged.sem k), (37, spec_l4Number.sem k)] [] [] [] [(1, [0, 1, 2, 4, 3, 5, 6, 7])] [((1, 3), [3]), ((1, 5), [3])] []
noncomputable def sem (k : Nat) : Sem := D.sem (D.ev (C k) k)
noncomputable def f (k : Nat) (p0 : y7) (p1 : Int) (p2 : (List Int)) : Option (Int × Unit) := D.ev (C k) k (p0, p1, p2, ())
theorem s (k : Nat) (p0 : y7) (p1 : Int) (p2 : (List Int)) : f k p0 p1 p2 =
 ((spec_l4State.f k p0 p1).bind fun r1 =>
 (spec_Exchanged.f k r1.1 p2).bind fun r2 =>
 (spec_l4Number.f k p0 r2.1).bind fun r3 =>
 some (r3.1, ())) := by kernel_rfl
theorem ok (k : Nat) : Ok Tryz.prog 31 (sem k) := Fd.ok (cx_ok ⟨spec_l4State.ok k, spec_Exchanged.ok k, spec_l4Number.ok k, trivial⟩) ⟨Tryz.func31, rfl, by kernel_rfl⟩ rfl
attribute [irreducible] f
end spec_l27Image
/-! loop.example/wholecheck/spec.l4List -/
namespace spec_l4List
noncomputable def D : Fd := ⟨Tryz.f62, 1, h9, (.ow .sh), [.sh], .unit, h48⟩
noncomputable def C (k : Nat) : Ctx := cx [] [] [(3, [(0, none), (3, none), (4, none)])] [] [] [] []
noncomputable def sem (k : Nat) : Sem := D.sem (D.ev (C k) k)
noncomputable def f (k : Nat) (p0 : (List Bool)) : Option ((List Int) × Unit) := D.ev (C k) k (p0, ())
noncomputable def l3 (k : Nat) (p0 : (List Bool)) (n : Nat) (v3_3 : (List Int)) (v4_3 : Int) : Option ((List Int) × Unit) :=
 D.lp (C k) k 3 [1, 1, 0, 1, 0] [] n [(4, vI v4_3), (3, vO h9 v3_3), (0, vS h47 p0)]
theorem s3 (k : Nat) (p0 : (List Bool)) (n : Nat) (v3_3 : (List Int)) (v4_3 : Int) : l3 k p0 (n + 1) v3_3 v4_3 =
 (if (decide (v4_3 < ((p0.length : Int)))) = true then
  gd ((0 : Int) ≤ v4_3) <| gd (v4_3 < (p0.length : Int)) <| if (p0.getD (v4_3.toNat) false) = true then
   gd ((v3_3.length : Int) + ([v4_3].length : Int) ≤ 1099511627776) <| l3 k p0 n (v3_3 ++ [v4_3]) (w64 (v4_3 + 1))
  else
   l3 k p0 n v3_3 (w64 (v4_3 + 1))
 else
  some (v3_3, ())) := by kernel_rfl
theorem z3 (k : Nat) (p0 : (List Bool)) (v3_3 : (List Int)) (v4_3 : Int) : l3 k p0 0 v3_3 v4_3 = none := by kernel_rfl
theorem s (k : Nat) (p0 : (List Bool)) : f k p0 =
 (l3 k p0 k [] 0) := by kernel_rfl
theorem ok (k : Nat) : Ok Tryz.prog 62 (sem k) := Fd.ok (cx_ok trivial) ⟨Tryz.func62, rfl, by kernel_rfl⟩ rfl
attribute [irreducible] f l3
end spec_l4List
/-! loop.example/wholecheck/spec.l17Ordered -/
namespace spec_l17Ordered
noncomputable def D : Fd := ⟨Tryz.f33, 1, h9, (.ow .sh), [.sh], .unit, h26⟩
noncomputable def C (k : Nat) : Ctx := cx [(62, spec_l4List.sem k)] [] [(3, [(0, none), (3, none), (4, none)])] [] [] [] []
noncomputable def sem (k : Nat) : Sem := D.sem (D.ev (C k) k)
noncomputable def f (k : Nat) (p0 : (List Int)) : Option ((List Int) × Unit) := D.ev (C k) k (p0, ())
noncomputable def l3 (k : Nat) (p0 : (List Int)) (n : Nat) (v3_3 : (List Bool)) (v4_3 : Int) : Option ((List Int) × Unit) :=
 D.lp (C k) k 3 [1, 1, 0, 1, 0] [] n [(4, vI v4_3), (3, vO h47 v3_3), (0, vS h9 p0)]
theorem s3 (k : Nat) (p0 : (List Int)) (n : Nat) (v3_3 : (List Bool)) (v4_3 : Int) : l3 k p0 (n + 1) v3_3 v4_3 =
 (if (decide (v4_3 < ((p0.length : Int)))) = true then
  gd ((0 : Int) ≤ v4_3) <| gd (v4_3 < (p0.length : Int)) <| gd ((0 : Int) ≤ (p0.getD (v4_3.toNat) 0)) <| gd ((p0.getD (v4_3.toNat) 0) < (v3_3.length : Int)) <| l3 k p0 n (v3_3.set ((p0.getD (v4_3.toNat) 0).toNat) true) (w64 (v4_3 + 1))
 else
  (spec_l4List.f k v3_3).bind fun r1 =>
  some (r1.1, ())) := by kernel_rfl
theorem z3 (k : Nat) (p0 : (List Int)) (v3_3 : (List Bool)) (v4_3 : Int) : l3 k p0 0 v3_3 v4_3 = none := by kernel_rfl
theorem s (k : Nat) (p0 : (List Int)) : f k p0 =
 (gd ((0 : Int) ≤ 400) <| gd ((400 : Int) ≤ 400) <| gd ((400 : Int) ≤ 1099511627776) <| l3 k p0 k ((List.replicate ((400 : Int)).toNat false : (List Bool))) 0) := by kernel_rfl
theorem ok (k : Nat) : Ok Tryz.prog 33 (sem k) := Fd.ok (cx_ok ⟨spec_l4List.ok k, trivial⟩) ⟨Tryz.func33, rfl, by kernel_rfl⟩ rfl
attribute [irreducible] f l3
end spec_l17Ordered
/-! loop.example/wholecheck/spec.l27Is -/
namespace spec_l27Is
noncomputable def D : Fd := ⟨Tryz.f15, 1, .bool, .sh, [.sh, .sh, .sh], .unit, h49⟩
noncomputable def C (k : Nat) : Ctx := cx [(30, spec_l27Vars.sem k), (31, spec_l27Image.sem k), (33, spec_l17Ordered.sem k), (32, spec_l2Same.sem k)] [((10, 13), 3)] [(4, [(1, none), (2, none), (3, none), (7, none)]), (8, [(1, none), (2, none), (3, none), (7, none), (8, none), (9, none)])] [] [(10, [0, 1, 2, 3, 4, 5, 6, 7, 8, 9, 10, 11, 12, 13]), (11, [0, 2, 3, 4, 5, 1, 6, 7, 8, 9, 10])] [((11, 1), [3])] []
noncomputable def sem (k : Nat) : Sem := D.sem (D.ev (C k) k)
noncomputable def f (k : Nat) (p0 : y7) (p1 : (List (List Int))) (p2 : (List Int)) : Option (Bool × Unit) := D.ev (C k) k (p0, p1, p2, ())
noncomputable def l4 (k : Nat) (p0 : y7) (p1 : (List (List Int))) (p2 : (List Int)) (n : Nat) (v7_4 : Int) : Option (Bool × Unit) :=
 D.lp (C k) k 4 [1, 1, 0, 1, 0] [] n [(7, vI v7_4), (3, .val h37 (.ow .sh) p0), (2, vS h9 p2), (1, vS h43 p1)]
noncomputable def l8 (k n4 : Nat) (p0 : y7) (p1 : (List (List Int))) (p2 : (List Int)) (v7_4 : Int) (n : Nat) (v8_8 : (List Int)) (v9_8 : Int) : Option (Bool × Unit) :=
 D.lp (C k) k 8 [1, 1, 0, 1, 0, 0, 1, 0, 0, 1, 0, 1, 0] [n4] n [(9, vI v9_8), (8, vO h9 v8_8), (7, vI v7_4), (3, .val h37 (.ow .sh) p0), (2, vS h9 p2), (1, vS h43 p1)]
theorem s8 (k n4 : Nat) (p0 : y7) (p1 : (List (List Int))) (p2 : (List Int)) (v7_4 : Int) (n : Nat) (v8_8 : (List Int)) (v9_8 : Int) : l8 k n4 p0 p1 p2 v7_4 (n + 1) v8_8 v9_8 =
 (gd ((0 : Int) ≤ v7_4) <| gd (v7_4 < (p1.length : Int)) <| if (decide (v9_8 < (((p1.getD (v7_4.toNat) []).length : Int)))) = true then
  gd ((0 : Int) ≤ v7_4) <| gd (v7_4 < (p1.length : Int)) <| gd ((0 : Int) ≤ v9_8) <| gd (v9_8 < ((p1.getD (v7_4.toNat) []).length : Int)) <| (spec_l27Image.f k p0 ((p1.getD (v7_4.toNat) []).getD (v9_8.toNat) 0) p2).bind fun r2 =>
  gd ((v8_8.length : Int) + ([r2.1].length : Int) ≤ 1099511627776) <| l8 k n4 p0 p1 p2 v7_4 n (v8_8 ++ [r2.1]) (w64 (v9_8 + 1))
 else
  (spec_l17Ordered.f k v8_8).bind fun r3 =>
  (spec_l27Image.f k p0 v7_4 p2).bind fun r4 =>
  gd ((0 : Int) ≤ r4.1) <| gd (r4.1 < (p1.length : Int)) <| (spec_l2Same.f k r3.1 (p1.getD (r4.1.toNat) [])).bind fun r5 =>
  if (!r5.1) = true then
   some (false, ())
  else
   l4 k p0 p1 p2 n4 (w64 (v7_4 + 1))) := by kernel_rfl
theorem z8 (k n4 : Nat) (p0 : y7) (p1 : (List (List Int))) (p2 : (List Int)) (v7_4 : Int) (v8_8 : (List Int)) (v9_8 : Int) : l8 k n4 p0 p1 p2 v7_4 0 v8_8 v9_8 = none := by kernel_rfl
theorem s4 (k : Nat) (p0 : y7) (p1 : (List (List Int))) (p2 : (List Int)) (n : Nat) (v7_4 : Int) : l4 k p0 p1 p2 (n + 1) v7_4 =
 (if (decide (v7_4 < ((p1.length : Int)))) = true then
  l8 k n p0 p1 p2 v7_4 k [] 0
 else
  some (true, ())) := by kernel_rfl
theorem z4 (k : Nat) (p0 : y7) (p1 : (List (List Int))) (p2 : (List Int)) (v7_4 : Int) : l4 k p0 p1 p2 0 v7_4 = none := by kernel_rfl
theorem s (k : Nat) (p0 : y7) (p1 : (List (List Int))) (p2 : (List Int)) : f k p0 p1 p2 =
 ((spec_l27Vars.f k p0 p2).bind fun r1 =>
 if (!r1.1) = true then
  some (false, ())
 else
  l4 k p0 p1 p2 k 0) := by kernel_rfl
theorem ok (k : Nat) : Ok Tryz.prog 15 (sem k) := Fd.ok (cx_ok ⟨spec_l27Vars.ok k, spec_l27Image.ok k, spec_l17Ordered.ok k, spec_l2Same.ok k, trivial⟩) ⟨Tryz.func15, rfl, by kernel_rfl⟩ rfl
attribute [irreducible] f l4 l8
end spec_l27Is
/-! loop.example/wholecheck/spec.IsSymmetry -/
namespace spec_IsSymmetry
noncomputable def D : Fd := ⟨Tryz.f5, 1, .bool, .sh, [.sh, .sh], .unit, h40⟩
noncomputable def C (k : Nat) : Ctx := cx [(13, spec_SystemValid.sem k), (14, spec_OrderValid.sem k), (16, spec_l4Steps.sem k), (15, spec_l27Is.sem k)] [] [] [] [(1, [0, 1, 2, 3, 4, 5, 6, 7, 8, 9, 10, 11, 13, 12, 14, 15, 16])] [((1, 12), [2])] []
noncomputable def sem (k : Nat) : Sem := D.sem (D.ev (C k) k)
noncomputable def f (k : Nat) (p0 : y7) (p1 : (List Int)) : Option (Bool × Unit) := D.ev (C k) k (p0, p1, ())
theorem s (k : Nat) (p0 : y7) (p1 : (List Int)) : f k p0 p1 =
 ((spec_SystemValid.f k p0).bind fun r1 =>
 if r1.1 = true then
  (spec_OrderValid.f k p1 ((p0.1.length : Int))).bind fun r2 =>
  if r2.1 = true then
   (spec_l4Steps.f k p0).bind fun r3 =>
   (spec_l27Is.f k p0 r3.1 p1).bind fun r4 =>
   some (r4.1, ())
  else
   some (false, ())
 else
  some (false, ())) := by kernel_rfl
theorem ok (k : Nat) : Ok Tryz.prog 5 (sem k) := Fd.ok (cx_ok ⟨spec_SystemValid.ok k, spec_OrderValid.ok k, spec_l4Steps.ok k, spec_l27Is.ok k, trivial⟩) ⟨Tryz.func5, rfl, by kernel_rfl⟩ rfl
attribute [irreducible] f
end spec_IsSymmetry
/-! loop.example/wholecheck/impl.in -/
namespace impl_in
noncomputable def D : Fd := ⟨Tryz.f40, 1, .bool, .sh, [.sh, .sh, .sh], .unit, h32⟩
noncomputable def C (k : Nat) : Ctx := cx [] [] [] [] [] [] []
noncomputable def sem (k : Nat) : Sem := D.sem (D.ev (C k) k)
noncomputable def f (k : Nat) (p0 p1 p2 : Int) : Option (Bool × Unit) := D.ev (C k) k (p0, p1, p2, ())
theorem s (k : Nat) (p0 p1 p2 : Int) : f k p0 p1 p2 =
 (if (decide (p0 ≥ p1)) = true then
  some (decide (p0 ≤ p2), ())
 else
  some (false, ())) := by kernel_rfl
theorem ok (k : Nat) : Ok Tryz.prog 40 (sem k) := Fd.ok (cx_ok trivial) ⟨Tryz.func40, rfl, by kernel_rfl⟩ rfl
attribute [irreducible] f
end impl_in
/-! loop.example/wholecheck/impl.varOk -/
namespace impl_varOk
noncomputable def D : Fd := ⟨Tryz.f43, 1, .bool, .sh, [.sh], .unit, h22⟩
noncomputable def C (k : Nat) : Ctx := cx [(40, impl_in.sem k)] [] [] [] [] [] []
noncomputable def sem (k : Nat) : Sem := D.sem (D.ev (C k) k)
noncomputable def f (k : Nat) (p0 : (Int × (Int × Int))) : Option (Bool × Unit) := D.ev (C k) k (p0, ())
theorem s (k : Nat) (p0 : (Int × (Int × Int))) : f k p0 =
 ((impl_in.f k p0.1 (-9999) 9999).bind fun r1 =>
 if r1.1 = true then
  (impl_in.f k p0.2.1 p0.1 9999).bind fun r2 =>
  if r2.1 = true then
   if (decide ((w64 (p0.2.1 - p0.1)) < 20)) = true then
    (impl_in.f k p0.2.2 p0.1 p0.2.1).bind fun r3 =>
    some (r3.1, ())
   else
    some (false, ())
  else
   some (false, ())
 else
  some (false, ())) := by kernel_rfl
theorem ok (k : Nat) : Ok Tryz.prog 43 (sem k) := Fd.ok (cx_ok ⟨impl_in.ok k, trivial⟩) ⟨Tryz.func43, rfl, by kernel_rfl⟩ rfl
attribute [irreducible] f
end impl_varOk
/-! loop.example/wholecheck/impl.SystemValid$1 -/
namespace impl_SystemValid_1
noncomputable def D : Fd := ⟨Tryz.f42, 1, .bool, .sh, [.sh], .unit, h22⟩
noncomputable def C (k : Nat) : Ctx := cx [(43, impl_varOk.sem k)] [] [] [] [] [] []
noncomputable def sem (k : Nat) : Sem := D.sem (D.ev (C k) k)
noncomputable def f (k : Nat) (p0 : (Int × (Int × Int))) : Option (Bool × Unit) := D.ev (C k) k (p0, ())
theorem s (k : Nat) (p0 : (Int × (Int × Int))) : f k p0 =
 ((impl_varOk.f k p0).bind fun r1 =>
 some (!r1.1, ())) := by kernel_rfl
theorem ok (k : Nat) : Ok Tryz.prog 42 (sem k) := Fd.ok (cx_ok ⟨impl_varOk.ok k, trivial⟩) ⟨Tryz.func42, rfl, by kernel_rfl⟩ rfl
attribute [irreducible] f
end impl_SystemValid_1
/-! slices.IndexFunc[[]loop.example/wholecheck/impl.Var,loop.example/wholecheck/impl.Var] -/
namespace slices_IndexFunc_impl_Var_impl_Var
noncomputable def D : Fd := ⟨Tryz.f69, 1, I, .sh, [.sh, .sh], .unit, h52⟩
noncomputable def C (k : Nat) : Ctx := cx [] [] [(2, [(0, none), (1, none), (7, none), (8, none)])] [] [] [] []
noncomputable def sem (k : Nat) : Sem := D.sem (D.ev (C k) k)
noncomputable def f (k : Nat) (p0 : y0) (p1 : y8) : Option (Int × Unit) := D.ev (C k) k (p0, p1, ())
noncomputable def l2 (k : Nat) (p0 : y0) (p1 : y8) (n : Nat) (v8_2 : Int) : Option (Int × Unit) :=
 D.lp (C k) k 2 [1, 0, 1, 0] [] n [(8, vI v8_2), (7, vI ((p0.length : Int))), (1, vS h50 p1), (0, vS h2 p0)]
theorem s2 (k : Nat) (p0 : y0) (p1 : y8) (n : Nat) (v8_2 : Int) : l2 k p0 p1 (n + 1) v8_2 =
 (if (decide (v8_2 < ((p0.length : Int)))) = true then
  gd ((0 : Int) ≤ v8_2) <| gd (v8_2 < (p0.length : Int)) <| (p1 (p0.getD (v8_2.toNat) (0, (0, 0)))).bind fun r1 =>
  if r1 = true then
   some (v8_2, ())
  else
   l2 k p0 p1 n (w64 (v8_2 + 1))
 else
  some ((-1), ())) := by kernel_rfl
theorem z2 (k : Nat) (p0 : y0) (p1 : y8) (v8_2 : Int) : l2 k p0 p1 0 v8_2 = none := by kernel_rfl
theorem s (k : Nat) (p0 : y0) (p1 : y8) : f k p0 p1 =
 (l2 k p0 p1 k 0) := by kernel_rfl
theorem ok (k : Nat) : Ok Tryz.prog 69 (sem k) := Fd.ok (cx_ok trivial) ⟨Tryz.func69, rfl, by kernel_rfl⟩ rfl
attribute [irreducible] f l2
end slices_IndexFunc_impl_Var_impl_Var
/-! slices.ContainsFunc[[]loop.example/wholecheck/impl.Var,loop.example/wholecheck/impl.Var] -/
namespace slices_ContainsFunc_impl_Var_impl_Var
noncomputable def D : Fd := ⟨Tryz.f41, 1, .bool, .sh, [.sh, .sh], .unit, h52⟩
noncomputable def C (k : Nat) : Ctx := cx [(69, slices_IndexFunc_impl_Var_impl_Var.sem k)] [] [] [] [] [] []
noncomputable def sem (k : Nat) : Sem := D.sem (D.ev (C k) k)
noncomputable def f (k : Nat) (p0 : y0) (p1 : y8) : Option (Bool × Unit) := D.ev (C k) k (p0, p1, ())
theorem s (k : Nat) (p0 : y0) (p1 : y8) : f k p0 p1 =
 ((slices_IndexFunc_impl_Var_impl_Var.f k p0 p1).bind fun r1 =>
 some (decide (r1.1 ≥ 0), ())) := by kernel_rfl
theorem ok (k : Nat) : Ok Tryz.prog 41 (sem k) := Fd.ok (cx_ok ⟨slices_IndexFunc_impl_Var_impl_Var.ok k, trivial⟩) ⟨Tryz.func41, rfl, by kernel_rfl⟩ rfl
attribute [irreducible] f
end slices_ContainsFunc_impl_Var_impl_Var
/-! loop.example/wholecheck/impl.size -/
namespace impl_size
noncomputable def D : Fd := ⟨Tryz.f44, 1, I, .sh, [.sh], .unit, h23⟩
noncomputable def C (k : Nat) : Ctx := cx [] [] [(3, [(3, none), (6, none), (7, none), (8, none)])] [] [] [] []
noncomputable def sem (k : Nat) : Sem := D.sem (D.ev (C k) k)
noncomputable def f (k : Nat) (p0 : y0) : Option (Int × Unit) := D.ev (C k) k (p0, ())
noncomputable def l3 (k : Nat) (p0 : y0) (n : Nat) (v3_3 v8_3 : Int) : Option (Int × Unit) :=
 D.lp (C k) k 3 [1, 1, 0, 1, 0] [] n [(8, vI v8_3), (7, vI ((p0.length : Int))), (6, vS h2 p0), (3, vI v3_3)]
theorem s3 (k : Nat) (p0 : y0) (n : Nat) (v3_3 v8_3 : Int) : l3 k p0 (n + 1) v3_3 v8_3 =
 (if (decide (v8_3 < ((p0.length : Int)))) = true then
  gd ((0 : Int) ≤ v8_3) <| gd (v8_3 < (p0.length : Int)) <| l3 k p0 n (w64 (v3_3 * (w64 ((w64 ((p0.getD (v8_3.toNat) (0, (0, 0))).2.1 - (p0.getD (v8_3.toNat) (0, (0, 0))).1)) + 1)))) (w64 (v8_3 + 1))
 else
  some (v3_3, ())) := by kernel_rfl
theorem z3 (k : Nat) (p0 : y0) (v3_3 v8_3 : Int) : l3 k p0 0 v3_3 v8_3 = none := by kernel_rfl
theorem s (k : Nat) (p0 : y0) : f k p0 =
 (l3 k p0 k 1 0) := by kernel_rfl
theorem ok (k : Nat) : Ok Tryz.prog 44 (sem k) := Fd.ok (cx_ok trivial) ⟨Tryz.func44, rfl, by kernel_rfl⟩ rfl
attribute [irreducible] f l3
end impl_size
/-! loop.example/wholecheck/impl.parts -/
namespace impl_parts
noncomputable def D : Fd := ⟨Tryz.f108, 3, h0, (.pr .sh (.pr .sh .sh)), [.sh], .unit, h3⟩
noncomputable def C (k : Nat) : Ctx := cx [] [] [] [] [] [] [(8, [(5, none), (10, none)])]
noncomputable def sem (k : Nat) : Sem := D.sem (D.ev (C k) k)
noncomputable def f (k : Nat) (p0 : Int) : Option ((Int × (Int × Int)) × Unit) := D.ev (C k) k (p0, ())
noncomputable def lj8 (k : Nat) (p0 : Int) (n : Nat) (v10_j8 : Bool) : Option ((Int × (Int × Int)) × Unit) :=
 D.jn (C k) k 8 [1, 0, 1, 0, 1, 1] [] n [(10, vB v10_j8), (5, vI p0)]
theorem sj8 (k : Nat) (p0 : Int) (n : Nat) (v10_j8 : Bool) : lj8 k p0 (n + 1) v10_j8 =
 (if v10_j8 = true then
  some ((2, (1, 2)), ())
 else
  if (p0 == 7) = true then
   some ((1, (2, 2)), ())
  else
   if (p0 == 8) = true then
    if (p0 == 8) = true then
     some ((2, (2, 2)), ())
    else
     some ((0, (0, 1)), ())
   else
    if (p0 == 9) = true then
     some ((2, (2, 2)), ())
    else
     some ((0, (0, 1)), ())) := by kernel_rfl
theorem zj8 (k : Nat) (p0 : Int) (v10_j8 : Bool) : lj8 k p0 0 v10_j8 = none := by kernel_rfl
theorem s (k : Nat) (p0 : Int) : f k p0 =
 (if (p0 == 2) = true then
  if (p0 == 2) = true then
   some ((2, (1, 1)), ())
  else
   if (p0 == 5) = true then
    lj8 k p0 k (p0 == 5)
   else
    lj8 k p0 k (p0 == 6)
 else
  if (p0 == 3) = true then
   if (p0 == 3) = true then
    some ((2, (1, 1)), ())
   else
    if (p0 == 5) = true then
     lj8 k p0 k (p0 == 5)
    else
     lj8 k p0 k (p0 == 6)
  else
   if (p0 == 4) = true then
    some ((2, (1, 1)), ())
   else
    if (p0 == 5) = true then
     lj8 k p0 k (p0 == 5)
    else
     lj8 k p0 k (p0 == 6)) := by kernel_rfl
theorem ok (k : Nat) : Ok Tryz.prog 108 (sem k) := Fd.ok (cx_ok trivial) ⟨Tryz.func108, rfl, by kernel_rfl⟩ rfl
attribute [irreducible] f lj8
end impl_parts
/-! loop.example/wholecheck/impl.kindsOf -/
namespace impl_kindsOf
noncomputable def D : Fd := ⟨Tryz.f87, 1, h53, (.ow .sh), [.sh, .sh], .unit, h8⟩
noncomputable def C (k : Nat) : Ctx := cx [(40, impl_in.sem k), (108, impl_parts.sem k)] [] [(5, [(1, none), (5, none), (24, none), (25, none), (26, none)])] [] [] [] []
noncomputable def sem (k : Nat) : Sem := D.sem (D.ev (C k) k)
noncomputable def f (k : Nat) (p0 : y2) (p1 : Int) : Option ((List Int) × Unit) := D.ev (C k) k (p0, p1, ())
noncomputable def l5 (k : Nat) (p0 : y2) (p1 : Int) (n : Nat) (v5_5 : (List Int)) (v26_5 : Int) : Option ((List Int) × Unit) :=
 D.lp (C k) k 5 [1, 1, 1, 0, 1, 0] [] n [(26, vI v26_5), (25, vI ((p0.length : Int))), (24, vS h7 p0), (5, vO h9 v5_5), (1, vI p1)]
theorem s5 (k : Nat) (p0 : y2) (p1 : Int) (n : Nat) (v5_5 : (List Int)) (v26_5 : Int) : l5 k p0 p1 (n + 1) v5_5 v26_5 =
 (if (decide (v26_5 < ((p0.length : Int)))) = true then
  gd ((0 : Int) ≤ v26_5) <| gd (v26_5 < (p0.length : Int)) <| (impl_parts.f k (p0.getD (v26_5.toNat) (0, (0, (0, 0)))).1).bind fun r3 =>
  (impl_in.f k (p0.getD (v26_5.toNat) (0, (0, (0, 0)))).1 0 9).bind fun r4 =>
  if ((p0.getD (v26_5.toNat) (0, (0, (0, 0)))).1 == 0) = true then
   (impl_in.f k (p0.getD (v26_5.toNat) (0, (0, (0, 0)))).2.1 (-9999) 9999).bind fun r5 =>
   if r5.1 = true then
    if ((p0.getD (v26_5.toNat) (0, (0, (0, 0)))).2.2.1 == 0) = true then
     if (!((p0.getD (v26_5.toNat) (0, (0, (0, 0)))).2.2.2 == 0)) = true then
      some ([], ())
     else
      gd ((v5_5.length : Int) + ([r3.1.2.2].length : Int) ≤ 1099511627776) <| l5 k p0 p1 n (v5_5 ++ [r3.1.2.2]) (w64 (v26_5 + 1))
    else
     if (!false) = true then
      some ([], ())
     else
      gd ((v5_5.length : Int) + ([r3.1.2.2].length : Int) ≤ 1099511627776) <| l5 k p0 p1 n (v5_5 ++ [r3.1.2.2]) (w64 (v26_5 + 1))
   else
    if (!false) = true then
     some ([], ())
    else
     gd ((v5_5.length : Int) + ([r3.1.2.2].length : Int) ≤ 1099511627776) <| l5 k p0 p1 n (v5_5 ++ [r3.1.2.2]) (w64 (v26_5 + 1))
  else
   if ((p0.getD (v26_5.toNat) (0, (0, (0, 0)))).1 == 1) = true then
    (impl_in.f k (p0.getD (v26_5.toNat) (0, (0, (0, 0)))).2.1 0 (w64 (p1 - 1))).bind fun r6 =>
    if r6.1 = true then
     if ((p0.getD (v26_5.toNat) (0, (0, (0, 0)))).2.2.1 == 0) = true then
      if (!((p0.getD (v26_5.toNat) (0, (0, (0, 0)))).2.2.2 == 0)) = true then
       some ([], ())
      else
       gd ((v5_5.length : Int) + ([r3.1.2.2].length : Int) ≤ 1099511627776) <| l5 k p0 p1 n (v5_5 ++ [r3.1.2.2]) (w64 (v26_5 + 1))
     else
      if (!false) = true then
       some ([], ())
      else
       gd ((v5_5.length : Int) + ([r3.1.2.2].length : Int) ≤ 1099511627776) <| l5 k p0 p1 n (v5_5 ++ [r3.1.2.2]) (w64 (v26_5 + 1))
    else
     if (!false) = true then
      some ([], ())
     else
      gd ((v5_5.length : Int) + ([r3.1.2.2].length : Int) ≤ 1099511627776) <| l5 k p0 p1 n (v5_5 ++ [r3.1.2.2]) (w64 (v26_5 + 1))
   else
    if r4.1 = true then
     if ((p0.getD (v26_5.toNat) (0, (0, (0, 0)))).2.1 == 0) = true then
      (impl_in.f k (p0.getD (v26_5.toNat) (0, (0, (0, 0)))).2.2.1 0 (w64 (v26_5 - 1))).bind fun r7 =>
      if r7.1 = true then
       (impl_in.f k (p0.getD (v26_5.toNat) (0, (0, (0, 0)))).2.2.2 0 (w64 (v26_5 - 1))).bind fun r8 =>
       if r8.1 = true then
        gd ((0 : Int) ≤ (p0.getD (v26_5.toNat) (0, (0, (0, 0)))).2.2.1) <| gd ((p0.getD (v26_5.toNat) (0, (0, (0, 0)))).2.2.1 < (v5_5.length : Int)) <| if ((v5_5.getD ((p0.getD (v26_5.toNat) (0, (0, (0, 0)))).2.2.1.toNat) 0) == r3.1.2.1) = true then
         gd ((0 : Int) ≤ (p0.getD (v26_5.toNat) (0, (0, (0, 0)))).2.2.2) <| gd ((p0.getD (v26_5.toNat) (0, (0, (0, 0)))).2.2.2 < (v5_5.length : Int)) <| if ((v5_5.getD ((p0.getD (v26_5.toNat) (0, (0, (0, 0)))).2.2.2.toNat) 0) == r3.1.2.1) = true then
          if (r3.1.1 == 2) = true then
           if (!true) = true then
            some ([], ())
           else
            gd ((v5_5.length : Int) + ([r3.1.2.2].length : Int) ≤ 1099511627776) <| l5 k p0 p1 n (v5_5 ++ [r3.1.2.2]) (w64 (v26_5 + 1))
          else
           if (!((p0.getD (v26_5.toNat) (0, (0, (0, 0)))).2.2.1 == (p0.getD (v26_5.toNat) (0, (0, (0, 0)))).2.2.2)) = true then
            some ([], ())
           else
            gd ((v5_5.length : Int) + ([r3.1.2.2].length : Int) ≤ 1099511627776) <| l5 k p0 p1 n (v5_5 ++ [r3.1.2.2]) (w64 (v26_5 + 1))
         else
          if (!false) = true then
           some ([], ())
          else
           gd ((v5_5.length : Int) + ([r3.1.2.2].length : Int) ≤ 1099511627776) <| l5 k p0 p1 n (v5_5 ++ [r3.1.2.2]) (w64 (v26_5 + 1))
        else
         if (!false) = true then
          some ([], ())
         else
          gd ((v5_5.length : Int) + ([r3.1.2.2].length : Int) ≤ 1099511627776) <| l5 k p0 p1 n (v5_5 ++ [r3.1.2.2]) (w64 (v26_5 + 1))
       else
        if (!false) = true then
         some ([], ())
        else
         gd ((v5_5.length : Int) + ([r3.1.2.2].length : Int) ≤ 1099511627776) <| l5 k p0 p1 n (v5_5 ++ [r3.1.2.2]) (w64 (v26_5 + 1))
      else
       if (!false) = true then
        some ([], ())
       else
        gd ((v5_5.length : Int) + ([r3.1.2.2].length : Int) ≤ 1099511627776) <| l5 k p0 p1 n (v5_5 ++ [r3.1.2.2]) (w64 (v26_5 + 1))
     else
      if (!false) = true then
       some ([], ())
      else
       gd ((v5_5.length : Int) + ([r3.1.2.2].length : Int) ≤ 1099511627776) <| l5 k p0 p1 n (v5_5 ++ [r3.1.2.2]) (w64 (v26_5 + 1))
    else
     if (!r4.1) = true then
      some ([], ())
     else
      gd ((v5_5.length : Int) + ([r3.1.2.2].length : Int) ≤ 1099511627776) <| l5 k p0 p1 n (v5_5 ++ [r3.1.2.2]) (w64 (v26_5 + 1))
 else
  gd (v5_5.length ≠ 0) <| some (v5_5, ())) := by kernel_rfl
theorem z5 (k : Nat) (p0 : y2) (p1 : Int) (v5_5 : (List Int)) (v26_5 : Int) : l5 k p0 p1 0 v5_5 v26_5 = none := by kernel_rfl
theorem s (k : Nat) (p0 : y2) (p1 : Int) : f k p0 p1 =
 ((impl_in.f k p1 0 5).bind fun r1 =>
 if (!r1.1) = true then
  some ([], ())
 else
  (impl_in.f k ((p0.length : Int)) 1 40).bind fun r2 =>
  if (!r2.1) = true then
   some ([], ())
  else
   gd ((0 : Int) ≤ 0) <| gd ((0 : Int) ≤ ((p0.length : Int))) <| gd ((((p0.length : Int)) : Int) ≤ 1099511627776) <| l5 k p0 p1 k ((List.replicate ((0 : Int)).toNat 0 : (List Int))) 0) := by kernel_rfl
theorem ok (k : Nat) : Ok Tryz.prog 87 (sem k) := Fd.ok (cx_ok ⟨impl_in.ok k, impl_parts.ok k, trivial⟩) ⟨Tryz.func87, rfl, by kernel_rfl⟩ rfl
attribute [irreducible] f l5
end impl_kindsOf
/-! loop.example/wholecheck/impl.kindOf -/
namespace impl_kindOf
noncomputable def D : Fd := ⟨Tryz.f71, 1, I, .sh, [.sh, .sh], .unit, h8⟩
noncomputable def C (k : Nat) : Ctx := cx [(87, impl_kindsOf.sem k)] [] [] [] [] [] []
noncomputable def sem (k : Nat) : Sem := D.sem (D.ev (C k) k)
noncomputable def f (k : Nat) (p0 : y2) (p1 : Int) : Option (Int × Unit) := D.ev (C k) k (p0, p1, ())
theorem s (k : Nat) (p0 : y2) (p1 : Int) : f k p0 p1 =
 ((impl_kindsOf.f k p0 p1).bind fun r1 =>
 if (decide (r1.1.length = 0)) = true then
  some (0, ())
 else
  gd ((0 : Int) ≤ (w64 (((r1.1.length : Int)) - 1))) <| gd ((w64 (((r1.1.length : Int)) - 1)) < (r1.1.length : Int)) <| some (r1.1.getD ((w64 (((r1.1.length : Int)) - 1)).toNat) 0, ())) := by kernel_rfl
theorem ok (k : Nat) : Ok Tryz.prog 71 (sem k) := Fd.ok (cx_ok ⟨impl_kindsOf.ok k, trivial⟩) ⟨Tryz.func71, rfl, by kernel_rfl⟩ rfl
attribute [irreducible] f
end impl_kindOf
/-! loop.example/wholecheck/impl.ruleOk -/
namespace impl_ruleOk
noncomputable def D : Fd := ⟨Tryz.f47, 1, .bool, .sh, [.sh, .sh], .unit, h16⟩
noncomputable def C (k : Nat) : Ctx := cx [(71, impl_kindOf.sem k), (40, impl_in.sem k)] [] [(4, [(1, none), (2, none), (22, none), (23, none), (24, none)])] [] [] [] []
noncomputable def sem (k : Nat) : Sem := D.sem (D.ev (C k) k)
noncomputable def f (k : Nat) (p0 : y5) (p1 : Int) : Option (Bool × Unit) := D.ev (C k) k (p0, p1, ())
noncomputable def l4 (k : Nat) (p0 : y5) (p1 : Int) (n : Nat) (v24_4 : Int) : Option (Bool × Unit) :=
 D.lp (C k) k 4 [1, 1, 0, 1, 0] [] n [(24, vI v24_4), (23, vI ((p0.2.1.length : Int))), (22, vS h9 p0.2.1), (2, .val h36 (.ow .sh) p0), (1, vI p1)]
theorem s4 (k : Nat) (p0 : y5) (p1 : Int) (n : Nat) (v24_4 : Int) : l4 k p0 p1 (n + 1) v24_4 =
 (if (decide (v24_4 < ((p0.2.1.length : Int)))) = true then
  gd ((0 : Int) ≤ v24_4) <| gd (v24_4 < (p0.2.1.length : Int)) <| (impl_in.f k (p0.2.1.getD (v24_4.toNat) 0) 0 (w64 (p1 - 1))).bind fun r2 =>
  if (!r2.1) = true then
   some (false, ())
  else
   if (decide (v24_4 > 0)) = true then
    gd ((0 : Int) ≤ (w64 (v24_4 - 1))) <| gd ((w64 (v24_4 - 1)) < (p0.2.1.length : Int)) <| if (decide ((p0.2.1.getD ((w64 (v24_4 - 1)).toNat) 0) ≥ (p0.2.1.getD (v24_4.toNat) 0))) = true then
     some (false, ())
    else
     gd ((0 : Int) ≤ v24_4) <| gd (v24_4 < (p0.2.2.length : Int)) <| (impl_kindOf.f k (p0.2.2.getD (v24_4.toNat) []) p1).bind fun r3 =>
     if (r3.1 != 1) = true then
      some (false, ())
     else
      l4 k p0 p1 n (w64 (v24_4 + 1))
   else
    gd ((0 : Int) ≤ v24_4) <| gd (v24_4 < (p0.2.2.length : Int)) <| (impl_kindOf.f k (p0.2.2.getD (v24_4.toNat) []) p1).bind fun r4 =>
    if (r4.1 != 1) = true then
     some (false, ())
    else
     l4 k p0 p1 n (w64 (v24_4 + 1))
 else
  some (true, ())) := by kernel_rfl
theorem z4 (k : Nat) (p0 : y5) (p1 : Int) (v24_4 : Int) : l4 k p0 p1 0 v24_4 = none := by kernel_rfl
theorem s (k : Nat) (p0 : y5) (p1 : Int) : f k p0 p1 =
 ((impl_kindOf.f k p0.1 p1).bind fun r1 =>
 if (r1.1 != 2) = true then
  some (false, ())
 else
  if (((p0.2.1.length : Int)) != ((p0.2.2.length : Int))) = true then
   some (false, ())
  else
   l4 k p0 p1 k 0) := by kernel_rfl
theorem ok (k : Nat) : Ok Tryz.prog 47 (sem k) := Fd.ok (cx_ok ⟨impl_kindOf.ok k, impl_in.ok k, trivial⟩) ⟨Tryz.func47, rfl, by kernel_rfl⟩ rfl
attribute [irreducible] f l4
end impl_ruleOk
/-! loop.example/wholecheck/impl.SystemValid$2 -/
namespace impl_SystemValid_2
noncomputable def D : Fd := ⟨Tryz.f46, 1, .bool, .sh, [.sh, .sh], .unit, h55⟩
noncomputable def C (k : Nat) : Ctx := cx [(47, impl_ruleOk.sem k)] [] [] [] [] [] []
noncomputable def sem (k : Nat) : Sem := D.sem (D.ev (C k) k)
noncomputable def f (k : Nat) (p0 : y5) (p1 : y7) : Option (Bool × Unit) := D.ev (C k) k (p0, p1, ())
theorem s (k : Nat) (p0 : y5) (p1 : y7) : f k p0 p1 =
 ((impl_ruleOk.f k p0 ((p1.1.length : Int))).bind fun r1 =>
 some (!r1.1, ())) := by kernel_rfl
theorem ok (k : Nat) : Ok Tryz.prog 46 (sem k) := Fd.ok (cx_ok ⟨impl_ruleOk.ok k, trivial⟩) ⟨Tryz.func46, rfl, by kernel_rfl⟩ rfl
attribute [irreducible] f
end impl_SystemValid_2
/-! slices.IndexFunc[[]loop.example/wholecheck/impl.Rule,loop.example/wholecheck/impl.Rule] -/
namespace slices_IndexFunc_impl_Rule_impl_Rule
noncomputable def D : Fd := ⟨Tryz.f70, 1, I, .sh, [.sh, .sh], .unit, h58⟩
noncomputable def C (k : Nat) : Ctx := cx [] [] [(2, [(0, none), (1, none), (7, none), (8, none)])] [] [] [] []
noncomputable def sem (k : Nat) : Sem := D.sem (D.ev (C k) k)
noncomputable def f (k : Nat) (p0 : y6) (p1 : y9) : Option (Int × Unit) := D.ev (C k) k (p0, p1, ())
noncomputable def l2 (k : Nat) (p0 : y6) (p1 : y9) (n : Nat) (v8_2 : Int) : Option (Int × Unit) :=
 D.lp (C k) k 2 [1, 0, 1, 0] [] n [(8, vI v8_2), (7, vI ((p0.length : Int))), (1, vS h56 p1), (0, vS h17 p0)]
theorem s2 (k : Nat) (p0 : y6) (p1 : y9) (n : Nat) (v8_2 : Int) : l2 k p0 p1 (n + 1) v8_2 =
 (if (decide (v8_2 < ((p0.length : Int)))) = true then
  gd ((0 : Int) ≤ v8_2) <| gd (v8_2 < (p0.length : Int)) <| (p1 (p0.getD (v8_2.toNat) ([], ([], [])))).bind fun r1 =>
  if r1 = true then
   some (v8_2, ())
  else
   l2 k p0 p1 n (w64 (v8_2 + 1))
 else
  some ((-1), ())) := by kernel_rfl
theorem z2 (k : Nat) (p0 : y6) (p1 : y9) (v8_2 : Int) : l2 k p0 p1 0 v8_2 = none := by kernel_rfl
theorem s (k : Nat) (p0 : y6) (p1 : y9) : f k p0 p1 =
 (l2 k p0 p1 k 0) := by kernel_rfl
theorem ok (k : Nat) : Ok Tryz.prog 70 (sem k) := Fd.ok (cx_ok trivial) ⟨Tryz.func70, rfl, by kernel_rfl⟩ rfl
attribute [irreducible] f l2
end slices_IndexFunc_impl_Rule_impl_Rule
/-! slices.ContainsFunc[[]loop.example/wholecheck/impl.Rule,loop.example/wholecheck/impl.Rule] -/
namespace slices_ContainsFunc_impl_Rule_impl_Rule
noncomputable def D : Fd := ⟨Tryz.f45, 1, .bool, .sh, [.sh, .sh], .unit, h58⟩
noncomputable def C (k : Nat) : Ctx := cx [(70, slices_IndexFunc_impl_Rule_impl_Rule.sem k)] [] [] [] [] [] []
noncomputable def sem (k : Nat) : Sem := D.sem (D.ev (C k) k)
noncomputable def f (k : Nat) (p0 : y6) (p1 : y9) : Option (Bool × Unit) := D.ev (C k) k (p0, p1, ())
theorem s (k : Nat) (p0 : y6) (p1 : y9) : f k p0 p1 =
 ((slices_IndexFunc_impl_Rule_impl_Rule.f k p0 p1).bind fun r1 =>
 some (decide (r1.1 ≥ 0), ())) := by kernel_rfl
theorem ok (k : Nat) : Ok Tryz.prog 45 (sem k) := Fd.ok (cx_ok ⟨slices_IndexFunc_impl_Rule_impl_Rule.ok k, trivial⟩) ⟨Tryz.func45, rfl, by kernel_rfl⟩ rfl
attribute [irreducible] f
end slices_ContainsFunc_impl_Rule_impl_Rule
/-! loop.example/wholecheck/impl.SystemValid -/
namespace impl_SystemValid
noncomputable def D : Fd := ⟨Tryz.f19, 1, .bool, .sh, [.sh], .unit, h30⟩
noncomputable def C (k : Nat) : Ctx := cx [(40, impl_in.sem k), (42, impl_SystemValid_1.sem k), (41, slices_ContainsFunc_impl_Var_impl_Var.sem k), (44, impl_size.sem k), (46, impl_SystemValid_2.sem k), (45, slices_ContainsFunc_impl_Rule_impl_Rule.sem k)] [] [] [] [] [] []
noncomputable def sem (k : Nat) : Sem := D.sem (D.ev (C k) k)
noncomputable def f (k : Nat) (p0 : y7) : Option (Bool × Unit) := D.ev (C k) k (p0, ())
theorem s (k : Nat) (p0 : y7) : f k p0 =
 ((impl_in.f k ((p0.1.length : Int)) 1 5).bind fun r1 =>
 if (!r1.1) = true then
  some (false, ())
 else
  if (decide (((p0.2.length : Int)) > 8)) = true then
   some (false, ())
  else
   (slices_ContainsFunc_impl_Var_impl_Var.f k p0.1 (fun p => (impl_SystemValid_1.f k p).bind fun r => some r.1)).bind fun r2 =>
   if r2.1 = true then
    some (false, ())
   else
    (impl_size.f k p0.1).bind fun r3 =>
    if (decide (r3.1 > 400)) = true then
     some (false, ())
    else
     (slices_ContainsFunc_impl_Rule_impl_Rule.f k p0.2 (fun p => (impl_SystemValid_2.f k p p0).bind fun r => some r.1)).bind fun r4 =>
     some (!r4.1, ())) := by kernel_rfl
theorem ok (k : Nat) : Ok Tryz.prog 19 (sem k) := Fd.ok (cx_ok ⟨impl_in.ok k, impl_SystemValid_1.ok k, slices_ContainsFunc_impl_Var_impl_Var.ok k, impl_size.ok k, impl_SystemValid_2.ok k, slices_ContainsFunc_impl_Rule_impl_Rule.ok k, trivial⟩) ⟨Tryz.func19, rfl, by kernel_rfl⟩ rfl
attribute [irreducible] f
end impl_SystemValid
/-! slices.Index[[]int,int] -/
namespace slices_Index_int_int
noncomputable def D : Fd := ⟨Tryz.f72, 1, I, .sh, [.sh, .sh], .unit, h10⟩
noncomputable def C (k : Nat) : Ctx := cx [] [] [(2, [(0, none), (1, none), (7, none), (8, none)])] [] [] [] []
noncomputable def sem (k : Nat) : Sem := D.sem (D.ev (C k) k)
noncomputable def f (k : Nat) (p0 : (List Int)) (p1 : Int) : Option (Int × Unit) := D.ev (C k) k (p0, p1, ())
noncomputable def l2 (k : Nat) (p0 : (List Int)) (p1 : Int) (n : Nat) (v8_2 : Int) : Option (Int × Unit) :=
 D.lp (C k) k 2 [1, 0, 1, 0] [] n [(8, vI v8_2), (7, vI ((p0.length : Int))), (1, vI p1), (0, vS h9 p0)]
theorem s2 (k : Nat) (p0 : (List Int)) (p1 : Int) (n : Nat) (v8_2 : Int) : l2 k p0 p1 (n + 1) v8_2 =
 (if (decide (v8_2 < ((p0.length : Int)))) = true then
  gd ((0 : Int) ≤ v8_2) <| gd (v8_2 < (p0.length : Int)) <| if (p1 == (p0.getD (v8_2.toNat) 0)) = true then
   some (v8_2, ())
  else
   l2 k p0 p1 n (w64 (v8_2 + 1))
 else
  some ((-1), ())) := by kernel_rfl
theorem z2 (k : Nat) (p0 : (List Int)) (p1 : Int) (v8_2 : Int) : l2 k p0 p1 0 v8_2 = none := by kernel_rfl
theorem s (k : Nat) (p0 : (List Int)) (p1 : Int) : f k p0 p1 =
 (l2 k p0 p1 k 0) := by kernel_rfl
theorem ok (k : Nat) : Ok Tryz.prog 72 (sem k) := Fd.ok (cx_ok trivial) ⟨Tryz.func72, rfl, by kernel_rfl⟩ rfl
attribute [irreducible] f l2
end slices_Index_int_int
/-! slices.Contains[[]int,int] -/
namespace slices_Contains_int_int
noncomputable def D : Fd := ⟨Tryz.f48, 1, .bool, .sh, [.sh, .sh], .unit, h10⟩
noncomputable def C (k : Nat) : Ctx := cx [(72, slices_Index_int_int.sem k)] [] [] [] [] [] []
noncomputable def sem (k : Nat) : Sem := D.sem (D.ev (C k) k)
noncomputable def f (k : Nat) (p0 : (List Int)) (p1 : Int) : Option (Bool × Unit) := D.ev (C k) k (p0, p1, ())
theorem s (k : Nat) (p0 : (List Int)) (p1 : Int) : f k p0 p1 =
 ((slices_Index_int_int.f k p0 p1).bind fun r1 =>
 some (decide (r1.1 ≥ 0), ())) := by kernel_rfl
theorem ok (k : Nat) : Ok Tryz.prog 48 (sem k) := Fd.ok (cx_ok ⟨slices_Index_int_int.ok k, trivial⟩) ⟨Tryz.func48, rfl, by kernel_rfl⟩ rfl
attribute [irreducible] f
end slices_Contains_int_int
/-! loop.example/wholecheck/impl.OrderValid -/
namespace impl_OrderValid
noncomputable def D : Fd := ⟨Tryz.f20, 1, .bool, .sh, [.sh, .sh], .unit, h10⟩
noncomputable def C (k : Nat) : Ctx := cx [(40, impl_in.sem k), (48, slices_Contains_int_int.sem k)] [] [(4, [(0, none), (1, none), (16, none), (17, none), (18, none)])] [] [] [] []
noncomputable def sem (k : Nat) : Sem := D.sem (D.ev (C k) k)
noncomputable def f (k : Nat) (p0 : (List Int)) (p1 : Int) : Option (Bool × Unit) := D.ev (C k) k (p0, p1, ())
noncomputable def l4 (k : Nat) (p0 : (List Int)) (p1 : Int) (n : Nat) (v18_4 : Int) : Option (Bool × Unit) :=
 D.lp (C k) k 4 [1, 1, 0, 1, 0] [] n [(18, vI v18_4), (17, vI ((p0.length : Int))), (16, vS h9 p0), (1, vI p1), (0, vS h9 p0)]
theorem s4 (k : Nat) (p0 : (List Int)) (p1 : Int) (n : Nat) (v18_4 : Int) : l4 k p0 p1 (n + 1) v18_4 =
 (if (decide (v18_4 < ((p0.length : Int)))) = true then
  gd ((0 : Int) ≤ v18_4) <| gd (v18_4 < (p0.length : Int)) <| (impl_in.f k (p0.getD (v18_4.toNat) 0) 0 (w64 (p1 - 1))).bind fun r2 =>
  if (!r2.1) = true then
   some (false, ())
  else
   gd ((0 : Int) ≤ 0) <| gd ((0 : Int) ≤ v18_4) <| gd (v18_4 ≤ (p0.length : Int)) <| (slices_Contains_int_int.f k ((p0.take (v18_4.toNat)).drop (Int.toNat 0)) (p0.getD (v18_4.toNat) 0)).bind fun r3 =>
   if r3.1 = true then
    some (false, ())
   else
    l4 k p0 p1 n (w64 (v18_4 + 1))
 else
  some (true, ())) := by kernel_rfl
theorem z4 (k : Nat) (p0 : (List Int)) (p1 : Int) (v18_4 : Int) : l4 k p0 p1 0 v18_4 = none := by kernel_rfl
theorem s (k : Nat) (p0 : (List Int)) (p1 : Int) : f k p0 p1 =
 ((impl_in.f k p1 0 12).bind fun r1 =>
 if (!r1.1) = true then
  some (false, ())
 else
  if (((p0.length : Int)) != p1) = true then
   some (false, ())
  else
   l4 k p0 p1 k 0) := by kernel_rfl
theorem ok (k : Nat) : Ok Tryz.prog 20 (sem k) := Fd.ok (cx_ok ⟨impl_in.ok k, slices_Contains_int_int.ok k, trivial⟩) ⟨Tryz.func20, rfl, by kernel_rfl⟩ rfl
attribute [irreducible] f l4
end impl_OrderValid
/-! loop.example/wholecheck/impl.stateAt -/
namespace impl_stateAt
noncomputable def D : Fd := ⟨Tryz.f51, 1, h9, (.ow .sh), [.sh, .sh], .unit, h21⟩
noncomputable def C (k : Nat) : Ctx := cx [] [] [(3, [(1, none), (2, none), (5, none), (6, none)])] [] [(7, [0, 1, 2, 3, 4, 5, 6, 7, 8, 9])] [] []
noncomputable def sem (k : Nat) : Sem := D.sem (D.ev (C k) k)
noncomputable def f (k : Nat) (p0 : y7) (p1 : Int) : Option ((List Int) × Unit) := D.ev (C k) k (p0, p1, ())
noncomputable def l3 (k : Nat) (p0 : y7) (n : Nat) (v1_3 : Int) (v5_3 : (List Int)) (v6_3 : Int) : Option ((List Int) × Unit) :=
 D.lp (C k) k 3 [1, 1, 0, 1, 0] [] n [(6, vI v6_3), (5, vO h9 v5_3), (2, .val h37 (.ow .sh) p0), (1, vI v1_3)]
theorem s3 (k : Nat) (p0 : y7) (n : Nat) (v1_3 : Int) (v5_3 : (List Int)) (v6_3 : Int) : l3 k p0 (n + 1) v1_3 v5_3 v6_3 =
 (if (decide (v6_3 ≥ 0)) = true then
  gd ((0 : Int) ≤ v6_3) <| gd (v6_3 < (p0.1.length : Int)) <| gd (((w64 ((w64 ((p0.1.getD (v6_3.toNat) (0, (0, 0))).2.1 - (p0.1.getD (v6_3.toNat) (0, (0, 0))).1)) + 1)) : Int) ≠ 0) <| gd ((0 : Int) ≤ v6_3) <| gd (v6_3 < (v5_3.length : Int)) <| gd (((w64 ((w64 ((p0.1.getD (v6_3.toNat) (0, (0, 0))).2.1 - (p0.1.getD (v6_3.toNat) (0, (0, 0))).1)) + 1)) : Int) ≠ 0) <| l3 k p0 n (w64 (v1_3.tdiv (w64 ((w64 ((p0.1.getD (v6_3.toNat) (0, (0, 0))).2.1 - (p0.1.getD (v6_3.toNat) (0, (0, 0))).1)) + 1)))) (v5_3.set (v6_3.toNat) (w64 ((p0.1.getD (v6_3.toNat) (0, (0, 0))).1 + (v1_3.tmod (w64 ((w64 ((p0.1.getD (v6_3.toNat) (0, (0, 0))).2.1 - (p0.1.getD (v6_3.toNat) (0, (0, 0))).1)) + 1)))))) (w64 (v6_3 - 1))
 else
  some (v5_3, ())) := by kernel_rfl
theorem z3 (k : Nat) (p0 : y7) (v1_3 : Int) (v5_3 : (List Int)) (v6_3 : Int) : l3 k p0 0 v1_3 v5_3 v6_3 = none := by kernel_rfl
theorem s (k : Nat) (p0 : y7) (p1 : Int) : f k p0 p1 =
 (gd ((0 : Int) ≤ ((p0.1.length : Int))) <| gd ((((p0.1.length : Int)) : Int) ≤ 1099511627776) <| l3 k p0 k p1 ((List.replicate ((p0.1.length : Int)).toNat 0 : (List Int))) (w64 (((((List.replicate ((p0.1.length : Int)).toNat 0 : (List Int))).length : Int)) - 1))) := by kernel_rfl
theorem ok (k : Nat) : Ok Tryz.prog 51 (sem k) := Fd.ok (cx_ok trivial) ⟨Tryz.func51, rfl, by kernel_rfl⟩ rfl
attribute [irreducible] f l3
end impl_stateAt
/-! loop.example/wholecheck/impl.held -/
namespace impl_held
noncomputable def D : Fd := ⟨Tryz.f120, 1, I, .sh, [.sh], .unit, h3⟩
noncomputable def C (k : Nat) : Ctx := cx [] [] [] [] [] [] []
noncomputable def sem (k : Nat) : Sem := D.sem (D.ev (C k) k)
noncomputable def f (k : Nat) (p0 : Int) : Option (Int × Unit) := D.ev (C k) k (p0, ())
theorem s (k : Nat) (p0 : Int) : f k p0 =
 (some (mx (-9999) (mn 9999 p0), ())) := by kernel_rfl
theorem ok (k : Nat) : Ok Tryz.prog 120 (sem k) := Fd.ok (cx_ok trivial) ⟨Tryz.func120, rfl, by kernel_rfl⟩ rfl
attribute [irreducible] f
end impl_held
/-! loop.example/wholecheck/impl.bit -/
namespace impl_bit
noncomputable def D : Fd := ⟨Tryz.f121, 1, I, .sh, [.sh], .unit, h38⟩
noncomputable def C (k : Nat) : Ctx := cx [] [] [] [] [] [] []
noncomputable def sem (k : Nat) : Sem := D.sem (D.ev (C k) k)
noncomputable def f (k : Nat) (p0 : Bool) : Option (Int × Unit) := D.ev (C k) k (p0, ())
theorem s (k : Nat) (p0 : Bool) : f k p0 =
 (if p0 = true then
  some (1, ())
 else
  some (0, ())) := by kernel_rfl
theorem ok (k : Nat) : Ok Tryz.prog 121 (sem k) := Fd.ok (cx_ok trivial) ⟨Tryz.func121, rfl, by kernel_rfl⟩ rfl
attribute [irreducible] f
end impl_bit
/-! loop.example/wholecheck/impl.do -/
namespace impl_do
noncomputable def D : Fd := ⟨Tryz.f115, 1, I, .sh, [.sh, .sh, .sh], .unit, h32⟩
noncomputable def C (k : Nat) : Ctx := cx [(120, impl_held.sem k), (121, impl_bit.sem k)] [] [] [] [] [] []
noncomputable def sem (k : Nat) : Sem := D.sem (D.ev (C k) k)
noncomputable def f (k : Nat) (p0 p1 p2 : Int) : Option (Int × Unit) := D.ev (C k) k (p0, p1, p2, ())
theorem s (k : Nat) (p0 p1 p2 : Int) : f k p0 p1 p2 =
 (if (p0 == 2) = true then
  (impl_held.f k (w64 (p1 + p2))).bind fun r1 =>
  some (r1.1, ())
 else
  if (p0 == 3) = true then
   (impl_held.f k (w64 (p1 - p2))).bind fun r2 =>
   some (r2.1, ())
  else
   if (p0 == 4) = true then
    (impl_held.f k (w64 (p1 * p2))).bind fun r3 =>
    some (r3.1, ())
   else
    if (p0 == 5) = true then
     (impl_bit.f k (decide (p1 < p2))).bind fun r4 =>
     some (r4.1, ())
    else
     if (p0 == 6) = true then
      (impl_bit.f k (p1 == p2)).bind fun r5 =>
      some (r5.1, ())
     else
      if (p0 == 7) = true then
       some (w64 (1 - p1), ())
      else
       if (p0 == 8) = true then
        some (mn p1 p2, ())
       else
        some (mx p1 p2, ())) := by kernel_rfl
theorem ok (k : Nat) : Ok Tryz.prog 115 (sem k) := Fd.ok (cx_ok ⟨impl_held.ok k, impl_bit.ok k, trivial⟩) ⟨Tryz.func115, rfl, by kernel_rfl⟩ rfl
attribute [irreducible] f
end impl_do
/-! loop.example/wholecheck/impl.eval -/
namespace impl_eval
noncomputable def D : Fd := ⟨Tryz.f99, 1, I, .sh, [.sh, .sh], .unit, h39⟩
noncomputable def C (k : Nat) : Ctx := cx [(115, impl_do.sem k)] [] [(3, [(1, none), (5, none), (11, none), (12, none), (13, none)])] [] [(6, [0, 1, 2, 3, 4, 5, 6, 7, 8, 9, 10, 11, 12, 13, 14, 15, 16])] [] []
noncomputable def sem (k : Nat) : Sem := D.sem (D.ev (C k) k)
noncomputable def f (k : Nat) (p0 : y2) (p1 : (List Int)) : Option (Int × Unit) := D.ev (C k) k (p0, p1, ())
noncomputable def l3 (k : Nat) (p0 : y2) (p1 : (List Int)) (n : Nat) (v5_3 : (List Int)) (v13_3 : Int) : Option (Int × Unit) :=
 D.lp (C k) k 3 [1, 1, 0, 1, 0] [] n [(13, vI v13_3), (12, vI ((p0.length : Int))), (11, vS h7 p0), (5, vO h9 v5_3), (1, vS h9 p1)]
theorem s3 (k : Nat) (p0 : y2) (p1 : (List Int)) (n : Nat) (v5_3 : (List Int)) (v13_3 : Int) : l3 k p0 p1 (n + 1) v5_3 v13_3 =
 (if (decide (v13_3 < ((p0.length : Int)))) = true then
  gd ((0 : Int) ≤ v13_3) <| gd (v13_3 < (p0.length : Int)) <| if ((p0.getD (v13_3.toNat) (0, (0, (0, 0)))).1 == 0) = true then
   gd ((0 : Int) ≤ v13_3) <| gd (v13_3 < (v5_3.length : Int)) <| l3 k p0 p1 n (v5_3.set (v13_3.toNat) (p0.getD (v13_3.toNat) (0, (0, (0, 0)))).2.1) (w64 (v13_3 + 1))
  else
   if ((p0.getD (v13_3.toNat) (0, (0, (0, 0)))).1 == 1) = true then
    gd ((0 : Int) ≤ (p0.getD (v13_3.toNat) (0, (0, (0, 0)))).2.1) <| gd ((p0.getD (v13_3.toNat) (0, (0, (0, 0)))).2.1 < (p1.length : Int)) <| gd ((0 : Int) ≤ v13_3) <| gd (v13_3 < (v5_3.length : Int)) <| l3 k p0 p1 n (v5_3.set (v13_3.toNat) (p1.getD ((p0.getD (v13_3.toNat) (0, (0, (0, 0)))).2.1.toNat) 0)) (w64 (v13_3 + 1))
   else
    gd ((0 : Int) ≤ (p0.getD (v13_3.toNat) (0, (0, (0, 0)))).2.2.1) <| gd ((p0.getD (v13_3.toNat) (0, (0, (0, 0)))).2.2.1 < (v5_3.length : Int)) <| gd ((0 : Int) ≤ (p0.getD (v13_3.toNat) (0, (0, (0, 0)))).2.2.2) <| gd ((p0.getD (v13_3.toNat) (0, (0, (0, 0)))).2.2.2 < (v5_3.length : Int)) <| (impl_do.f k (p0.getD (v13_3.toNat) (0, (0, (0, 0)))).1 (v5_3.getD ((p0.getD (v13_3.toNat) (0, (0, (0, 0)))).2.2.1.toNat) 0) (v5_3.getD ((p0.getD (v13_3.toNat) (0, (0, (0, 0)))).2.2.2.toNat) 0)).bind fun r1 =>
    gd ((0 : Int) ≤ v13_3) <| gd (v13_3 < (v5_3.length : Int)) <| l3 k p0 p1 n (v5_3.set (v13_3.toNat) r1.1) (w64 (v13_3 + 1))
 else
  gd ((0 : Int) ≤ (w64 (((v5_3.length : Int)) - 1))) <| gd ((w64 (((v5_3.length : Int)) - 1)) < (v5_3.length : Int)) <| some (v5_3.getD ((w64 (((v5_3.length : Int)) - 1)).toNat) 0, ())) := by kernel_rfl
theorem z3 (k : Nat) (p0 : y2) (p1 : (List Int)) (v5_3 : (List Int)) (v13_3 : Int) : l3 k p0 p1 0 v5_3 v13_3 = none := by kernel_rfl
theorem s (k : Nat) (p0 : y2) (p1 : (List Int)) : f k p0 p1 =
 (gd ((0 : Int) ≤ ((p0.length : Int))) <| gd ((((p0.length : Int)) : Int) ≤ 1099511627776) <| l3 k p0 p1 k ((List.replicate ((p0.length : Int)).toNat 0 : (List Int))) 0) := by kernel_rfl
theorem ok (k : Nat) : Ok Tryz.prog 99 (sem k) := Fd.ok (cx_ok ⟨impl_do.ok k, trivial⟩) ⟨Tryz.func99, rfl, by kernel_rfl⟩ rfl
attribute [irreducible] f l3
end impl_eval
/-! loop.example/wholecheck/impl.clone[int] -/
namespace impl_clone_int
noncomputable def D : Fd := ⟨Tryz.f100, 1, h9, (.ow .sh), [.sh], .unit, h26⟩
noncomputable def C (k : Nat) : Ctx := cx [] [] [] [] [] [] []
noncomputable def sem (k : Nat) : Sem := D.sem (D.ev (C k) k)
noncomputable def f (k : Nat) (p0 : (List Int)) : Option ((List Int) × Unit) := D.ev (C k) k (p0, ())
theorem s (k : Nat) (p0 : (List Int)) : f k p0 =
 (if (((p0.length : Int)) == 0) = true then
  some ([], ())
 else
  gd ((0 : Int) ≤ ((p0.length : Int))) <| gd ((((p0.length : Int)) : Int) ≤ 1099511627776) <| some (p0.take ((List.replicate ((p0.length : Int)).toNat 0 : (List Int))).length ++ ((List.replicate ((p0.length : Int)).toNat 0 : (List Int))).drop p0.length, ())) := by kernel_rfl
theorem ok (k : Nat) : Ok Tryz.prog 100 (sem k) := Fd.ok (cx_ok trivial) ⟨Tryz.func100, rfl, by kernel_rfl⟩ rfl
attribute [irreducible] f
end impl_clone_int
/-! loop.example/wholecheck/impl.inRange -/
namespace impl_inRange
noncomputable def D : Fd := ⟨Tryz.f101, 1, .bool, .sh, [.sh, .sh], .unit, h40⟩
noncomputable def C (k : Nat) : Ctx := cx [(40, impl_in.sem k)] [] [(4, [(1, none), (14, none), (15, none), (16, none)])] [] [(6, [0, 1, 2, 3, 4, 5, 6, 7, 8, 9])] [] []
noncomputable def sem (k : Nat) : Sem := D.sem (D.ev (C k) k)
noncomputable def f (k : Nat) (p0 : y7) (p1 : (List Int)) : Option (Bool × Unit) := D.ev (C k) k (p0, p1, ())
noncomputable def l4 (k : Nat) (p0 : y7) (p1 : (List Int)) (n : Nat) (v16_4 : Int) : Option (Bool × Unit) :=
 D.lp (C k) k 4 [1, 1, 0, 1, 0] [] n [(16, vI v16_4), (15, vI ((p0.1.length : Int))), (14, vS h2 p0.1), (1, vS h9 p1)]
theorem s4 (k : Nat) (p0 : y7) (p1 : (List Int)) (n : Nat) (v16_4 : Int) : l4 k p0 p1 (n + 1) v16_4 =
 (if (decide (v16_4 < ((p0.1.length : Int)))) = true then
  gd ((0 : Int) ≤ v16_4) <| gd (v16_4 < (p0.1.length : Int)) <| gd ((0 : Int) ≤ v16_4) <| gd (v16_4 < (p1.length : Int)) <| (impl_in.f k (p1.getD (v16_4.toNat) 0) (p0.1.getD (v16_4.toNat) (0, (0, 0))).1 (p0.1.getD (v16_4.toNat) (0, (0, 0))).2.1).bind fun r1 =>
  if (!r1.1) = true then
   some (false, ())
  else
   l4 k p0 p1 n (w64 (v16_4 + 1))
 else
  some (true, ())) := by kernel_rfl
theorem z4 (k : Nat) (p0 : y7) (p1 : (List Int)) (v16_4 : Int) : l4 k p0 p1 0 v16_4 = none := by kernel_rfl
theorem s (k : Nat) (p0 : y7) (p1 : (List Int)) : f k p0 p1 =
 (if (((p1.length : Int)) != ((p0.1.length : Int))) = true then
  some (false, ())
 else
  l4 k p0 p1 k 0) := by kernel_rfl
theorem ok (k : Nat) : Ok Tryz.prog 101 (sem k) := Fd.ok (cx_ok ⟨impl_in.ok k, trivial⟩) ⟨Tryz.func101, rfl, by kernel_rfl⟩ rfl
attribute [irreducible] f l4
end impl_inRange
/-! loop.example/wholecheck/impl.use -/
namespace impl_use
noncomputable def D : Fd := ⟨Tryz.f75, 2, h59, (.pr (.ow .sh) .sh), [.sh, .sh, .sh], .unit, h41⟩
noncomputable def C (k : Nat) : Ctx := cx [(99, impl_eval.sem k), (100, impl_clone_int.sem k), (101, impl_inRange.sem k)] [] [(6, [(1, none), (3, none), (8, none), (9, none), (25, none), (26, none), (27, none)])] [] [] [] []
noncomputable def sem (k : Nat) : Sem := D.sem (D.ev (C k) k)
noncomputable def f (k : Nat) (p0 : y7) (p1 : (List Int)) (p2 : Int) : Option (((List Int) × Bool) × Unit) := D.ev (C k) k (p0, p1, p2, ())
noncomputable def l6 (k : Nat) (p0 : y7) (p1 : (List Int)) (p2 : Int) (n : Nat) (v9_6 : (List Int)) (v27_6 : Int) : Option (((List Int) × Bool) × Unit) :=
 D.lp (C k) k 6 [1, 1, 1, 1, 0, 1, 0] [] n [(27, vI v27_6), (26, vI (((p0.2.getD (p2.toNat) ([], ([], []))).2.1.length : Int))), (25, vS h9 (p0.2.getD (p2.toNat) ([], ([], []))).2.1), (9, vO h9 v9_6), (8, .val h36 (.ow .sh) (p0.2.getD (p2.toNat) ([], ([], [])))), (3, .val h37 (.ow .sh) p0), (1, vS h9 p1)]
theorem s6 (k : Nat) (p0 : y7) (p1 : (List Int)) (p2 : Int) (n : Nat) (v9_6 : (List Int)) (v27_6 : Int) : l6 k p0 p1 p2 (n + 1) v9_6 v27_6 =
 (if (decide (v27_6 < (((p0.2.getD (p2.toNat) ([], ([], []))).2.1.length : Int)))) = true then
  gd ((0 : Int) ≤ v27_6) <| gd (v27_6 < ((p0.2.getD (p2.toNat) ([], ([], []))).2.1.length : Int)) <| gd ((0 : Int) ≤ v27_6) <| gd (v27_6 < ((p0.2.getD (p2.toNat) ([], ([], []))).2.2.length : Int)) <| (impl_eval.f k ((p0.2.getD (p2.toNat) ([], ([], []))).2.2.getD (v27_6.toNat) []) p1).bind fun r3 =>
  gd ((0 : Int) ≤ ((p0.2.getD (p2.toNat) ([], ([], []))).2.1.getD (v27_6.toNat) 0)) <| gd (((p0.2.getD (p2.toNat) ([], ([], []))).2.1.getD (v27_6.toNat) 0) < (v9_6.length : Int)) <| l6 k p0 p1 p2 n (v9_6.set (((p0.2.getD (p2.toNat) ([], ([], []))).2.1.getD (v27_6.toNat) 0).toNat) r3.1) (w64 (v27_6 + 1))
 else
  (impl_inRange.f k p0 v9_6).bind fun r4 =>
  if (!r4.1) = true then
   some (([], false), ())
  else
   some ((v9_6, true), ())) := by kernel_rfl
theorem z6 (k : Nat) (p0 : y7) (p1 : (List Int)) (p2 : Int) (v9_6 : (List Int)) (v27_6 : Int) : l6 k p0 p1 p2 0 v9_6 v27_6 = none := by kernel_rfl
theorem s (k : Nat) (p0 : y7) (p1 : (List Int)) (p2 : Int) : f k p0 p1 p2 =
 (gd ((0 : Int) ≤ p2) <| gd (p2 < (p0.2.length : Int)) <| (impl_eval.f k (p0.2.getD (p2.toNat) ([], ([], []))).1 p1).bind fun r1 =>
 if (r1.1 == 0) = true then
  some (([], false), ())
 else
  (impl_clone_int.f k p1).bind fun r2 =>
  l6 k p0 p1 p2 k r2.1 0) := by kernel_rfl
theorem ok (k : Nat) : Ok Tryz.prog 75 (sem k) := Fd.ok (cx_ok ⟨impl_eval.ok k, impl_clone_int.ok k, impl_inRange.ok k, trivial⟩) ⟨Tryz.func75, rfl, by kernel_rfl⟩ rfl
attribute [irreducible] f l6
end impl_use
/-! cmp.isNaN[int] -/
namespace cmp_isNaN_int
noncomputable def D : Fd := ⟨Tryz.f114, 1, .bool, .sh, [.sh], .unit, h3⟩
noncomputable def C (k : Nat) : Ctx := cx [] [] [] [] [] [] []
noncomputable def sem (k : Nat) : Sem := D.sem (D.ev (C k) k)
noncomputable def f (k : Nat) (p0 : Int) : Option (Bool × Unit) := D.ev (C k) k (p0, ())
theorem s (k : Nat) (p0 : Int) : f k p0 =
 (some (p0 != p0, ())) := by kernel_rfl
theorem ok (k : Nat) : Ok Tryz.prog 114 (sem k) := Fd.ok (cx_ok trivial) ⟨Tryz.func114, rfl, by kernel_rfl⟩ rfl
attribute [irreducible] f
end cmp_isNaN_int
/-! cmp.Compare[int] -/
namespace cmp_Compare_int
noncomputable def D : Fd := ⟨Tryz.f102, 1, I, .sh, [.sh, .sh], .unit, h31⟩
noncomputable def C (k : Nat) : Ctx := cx [(114, cmp_isNaN_int.sem k)] [] [] [] [] [] []
noncomputable def sem (k : Nat) : Sem := D.sem (D.ev (C k) k)
noncomputable def f (k : Nat) (p0 p1 : Int) : Option (Int × Unit) := D.ev (C k) k (p0, p1, ())
theorem s (k : Nat) (p0 p1 : Int) : f k p0 p1 =
 ((cmp_isNaN_int.f k p0).bind fun r1 =>
 (cmp_isNaN_int.f k p1).bind fun r2 =>
 if r1.1 = true then
  if r2.1 = true then
   some (0, ())
  else
   some ((-1), ())
 else
  if r2.1 = true then
   some (1, ())
  else
   if (decide (p0 < p1)) = true then
    some ((-1), ())
   else
    if (decide (p0 > p1)) = true then
     some (1, ())
    else
     some (0, ())) := by kernel_rfl
theorem ok (k : Nat) : Ok Tryz.prog 102 (sem k) := Fd.ok (cx_ok ⟨cmp_isNaN_int.ok k, trivial⟩) ⟨Tryz.func102, rfl, by kernel_rfl⟩ rfl
attribute [irreducible] f
end cmp_Compare_int
/-! slices.Compare[[]int,int] -/
namespace slices_Compare_int_int
noncomputable def D : Fd := ⟨Tryz.f77, 1, I, .sh, [.sh, .sh], .unit, h42⟩
noncomputable def C (k : Nat) : Ctx := cx [(102, cmp_Compare_int.sem k)] [] [(2, [(0, none), (1, none), (9, none), (10, none), (11, none)])] [] [] [] []
noncomputable def sem (k : Nat) : Sem := D.sem (D.ev (C k) k)
noncomputable def f (k : Nat) (p0 p1 : (List Int)) : Option (Int × Unit) := D.ev (C k) k (p0, p1, ())
noncomputable def l2 (k : Nat) (p0 p1 : (List Int)) (n : Nat) (v11_2 : Int) : Option (Int × Unit) :=
 D.lp (C k) k 2 [1, 0, 1, 0] [] n [(11, vI v11_2), (10, vI ((p0.length : Int))), (9, vS h9 p0), (1, vS h9 p1), (0, vS h9 p0)]
theorem s2 (k : Nat) (p0 p1 : (List Int)) (n : Nat) (v11_2 : Int) : l2 k p0 p1 (n + 1) v11_2 =
 (if (decide (v11_2 < ((p0.length : Int)))) = true then
  gd ((0 : Int) ≤ v11_2) <| gd (v11_2 < (p0.length : Int)) <| if (decide (v11_2 ≥ ((p1.length : Int)))) = true then
   some (1, ())
  else
   gd ((0 : Int) ≤ v11_2) <| gd (v11_2 < (p1.length : Int)) <| (cmp_Compare_int.f k (p0.getD (v11_2.toNat) 0) (p1.getD (v11_2.toNat) 0)).bind fun r1 =>
   if (r1.1 != 0) = true then
    some (r1.1, ())
   else
    l2 k p0 p1 n (w64 (v11_2 + 1))
 else
  if (decide (((p0.length : Int)) < ((p1.length : Int)))) = true then
   some ((-1), ())
  else
   some (0, ())) := by kernel_rfl
theorem z2 (k : Nat) (p0 p1 : (List Int)) (v11_2 : Int) : l2 k p0 p1 0 v11_2 = none := by kernel_rfl
theorem s (k : Nat) (p0 p1 : (List Int)) : f k p0 p1 =
 (l2 k p0 p1 k 0) := by kernel_rfl
theorem ok (k : Nat) : Ok Tryz.prog 77 (sem k) := Fd.ok (cx_ok ⟨cmp_Compare_int.ok k, trivial⟩) ⟨Tryz.func77, rfl, by kernel_rfl⟩ rfl
attribute [irreducible] f l2
end slices_Compare_int_int
/-! slices.BinarySearchFunc[[][]int,[]int,[]int] -/
namespace slices_BinarySearchFunc_int_int_int
noncomputable def D : Fd := ⟨Tryz.f76, 2, h60, (.pr .sh .sh), [.sh, .sh, .sh], .unit, h64⟩
noncomputable def C (k : Nat) : Ctx := cx [] [] [(3, [(0, none), (1, none), (2, none), (8, none), (9, none), (10, none)])] [] [] [] []
noncomputable def sem (k : Nat) : Sem := D.sem (D.ev (C k) k)
noncomputable def f (k : Nat) (p0 : (List (List Int))) (p1 : (List Int)) (p2 : y11) : Option ((Int × Bool) × Unit) := D.ev (C k) k (p0, p1, p2, ())
noncomputable def l3 (k : Nat) (p0 : (List (List Int))) (p1 : (List Int)) (p2 : y11) (n : Nat) (v9_3 v10_3 : Int) : Option ((Int × Bool) × Unit) :=
 D.lp (C k) k 3 [1, 1, 1, 0, 0] [] n [(10, vI v10_3), (9, vI v9_3), (8, vI ((p0.length : Int))), (2, vS h61 p2), (1, vS h9 p1), (0, vS h43 p0)]
theorem s3 (k : Nat) (p0 : (List (List Int))) (p1 : (List Int)) (p2 : y11) (n : Nat) (v9_3 v10_3 : Int) : l3 k p0 p1 p2 (n + 1) v9_3 v10_3 =
 (if (decide (v9_3 < v10_3)) = true then
  gd ((0 : Int) ≤ 1) <| gd ((0 : Int) ≤ (w64 ((IntKind.u64.wrap (w64 (v9_3 + v10_3))).fdiv (2 ^ (min (Int.toNat 1) IntKind.u64.bits))))) <| gd ((w64 ((IntKind.u64.wrap (w64 (v9_3 + v10_3))).fdiv (2 ^ (min (Int.toNat 1) IntKind.u64.bits)))) < (p0.length : Int)) <| (p2 (p0.getD ((w64 ((IntKind.u64.wrap (w64 (v9_3 + v10_3))).fdiv (2 ^ (min (Int.toNat 1) IntKind.u64.bits)))).toNat) [], (p1, ()))).bind fun r1 =>
  if (decide (r1 < 0)) = true then
   l3 k p0 p1 p2 n (w64 ((w64 ((IntKind.u64.wrap (w64 (v9_3 + v10_3))).fdiv (2 ^ (min (Int.toNat 1) IntKind.u64.bits)))) + 1)) v10_3
  else
   l3 k p0 p1 p2 n v9_3 (w64 ((IntKind.u64.wrap (w64 (v9_3 + v10_3))).fdiv (2 ^ (min (Int.toNat 1) IntKind.u64.bits))))
 else
  if (decide (v9_3 < ((p0.length : Int)))) = true then
   gd ((0 : Int) ≤ v9_3) <| gd (v9_3 < (p0.length : Int)) <| (p2 (p0.getD (v9_3.toNat) [], (p1, ()))).bind fun r2 =>
   some ((v9_3, r2 == 0), ())
  else
   some ((v9_3, false), ())) := by kernel_rfl
theorem z3 (k : Nat) (p0 : (List (List Int))) (p1 : (List Int)) (p2 : y11) (v9_3 v10_3 : Int) : l3 k p0 p1 p2 0 v9_3 v10_3 = none := by kernel_rfl
theorem s (k : Nat) (p0 : (List (List Int))) (p1 : (List Int)) (p2 : y11) : f k p0 p1 p2 =
 (l3 k p0 p1 p2 k 0 ((p0.length : Int))) := by kernel_rfl
theorem ok (k : Nat) : Ok Tryz.prog 76 (sem k) := Fd.ok (cx_ok trivial) ⟨Tryz.func76, rfl, by kernel_rfl⟩ rfl
attribute [irreducible] f l3
end slices_BinarySearchFunc_int_int_int
/-! slices.Insert[[][]int,[]int] -/
namespace slices_Insert_int_int
noncomputable def sem (k : Nat) : Sem := mkSem [.move (.ow .sh), .sh, .move (.ow .sh)] 1 SII (.ow .sh) .unit (.pair SII (.pair I (.pair SII .unit))) insF
noncomputable def f (k : Nat) (p0 : List (List Int)) (p1 : Int) (p2 : List (List Int)) : Option (List (List Int) × Unit) := insF (p0, p1, p2, ())
theorem s (k : Nat) (p0 : List (List Int)) (p1 : Int) (p2 : List (List Int)) : f k p0 p1 p2 = (gd (0 ≤ p1) <| gd (p1 ≤ (p0.length : Int)) <| gd (0 < p2.length) <| gd ((p0.length : Int) + (p2.length : Int) ≤ LIM) <| some (p0.take (Int.toNat p1) ++ p2 ++ p0.drop (Int.toNat p1), ())) := rfl
theorem ok (k : Nat) : Ok Tryz.prog 78 (sem k) := Giv.insert
attribute [irreducible] f
end slices_Insert_int_int
/-! loop.example/wholecheck/impl.clone[[]int] -/
namespace impl_clone_Lint
noncomputable def D : Fd := ⟨Tryz.f79, 1, h43, (.ow .sh), [.sh], .unit, h65⟩
noncomputable def C (k : Nat) : Ctx := cx [] [] [] [] [] [] []
noncomputable def sem (k : Nat) : Sem := D.sem (D.ev (C k) k)
noncomputable def f (k : Nat) (p0 : (List (List Int))) : Option ((List (List Int)) × Unit) := D.ev (C k) k (p0, ())
theorem s (k : Nat) (p0 : (List (List Int))) : f k p0 =
 (if (((p0.length : Int)) == 0) = true then
  some ([], ())
 else
  gd ((0 : Int) ≤ ((p0.length : Int))) <| gd ((((p0.length : Int)) : Int) ≤ 1099511627776) <| some (p0.take ((List.replicate ((p0.length : Int)).toNat [] : (List (List Int)))).length ++ ((List.replicate ((p0.length : Int)).toNat [] : (List (List Int)))).drop p0.length, ())) := by kernel_rfl
theorem ok (k : Nat) : Ok Tryz.prog 79 (sem k) := Fd.ok (cx_ok trivial) ⟨Tryz.func79, rfl, by kernel_rfl⟩ rfl
attribute [irreducible] f
end impl_clone_Lint
/-! loop.example/wholecheck/impl.nextStates -/
namespace impl_nextStates
noncomputable def D : Fd := ⟨Tryz.f54, 1, h43, (.ow .sh), [.sh, .sh], .unit, h40⟩
noncomputable def C (k : Nat) : Ctx := cx [(75, impl_use.sem k), (77, slices_Compare_int_int.sem k), (76, slices_BinarySearchFunc_int_int_int.sem k), (78, slices_Insert_int_int.sem k), (79, impl_clone_Lint.sem k)] [] [(3, [(1, none), (2, none), (5, some (h43, (.ow .sh))), (13, none), (14, none)])] [] [] [] []
noncomputable def sem (k : Nat) : Sem := D.sem (D.ev (C k) k)
noncomputable def f (k : Nat) (p0 : y7) (p1 : (List Int)) : Option ((List (List Int)) × Unit) := D.ev (C k) k (p0, p1, ())
noncomputable def l3 (k : Nat) (p0 : y7) (p1 : (List Int)) (n : Nat) (v5_3 : (List (List Int))) (v14_3 : Int) : Option ((List (List Int)) × Unit) :=
 D.lp (C k) k 3 [1, 1, 0, 1, 0] [] n [(14, vI v14_3), (13, vI ((p0.2.length : Int))), (5, .val h43 (.ow .sh) v5_3), (2, .val h37 (.ow .sh) p0), (1, vS h9 p1)]
theorem s3 (k : Nat) (p0 : y7) (p1 : (List Int)) (n : Nat) (v5_3 : (List (List Int))) (v14_3 : Int) : l3 k p0 p1 (n + 1) v5_3 v14_3 =
 (if (decide (v14_3 < ((p0.2.length : Int)))) = true then
  (impl_use.f k p0 p1 v14_3).bind fun r1 =>
  if r1.1.2 = true then
   (slices_BinarySearchFunc_int_int_int.f k v5_3 r1.1.1 (fun p => (slices_Compare_int_int.f k p.1 p.2.1).bind fun r => some r.1)).bind fun r2 =>
   if (!r2.1.2) = true then
    (slices_Insert_int_int.f k v5_3 r2.1.1 [r1.1.1]).bind fun r3 =>
    l3 k p0 p1 n r3.1 (w64 (v14_3 + 1))
   else
    l3 k p0 p1 n v5_3 (w64 (v14_3 + 1))
  else
   l3 k p0 p1 n v5_3 (w64 (v14_3 + 1))
 else
  (impl_clone_Lint.f k v5_3).bind fun r4 =>
  some (r4.1, ())) := by kernel_rfl
theorem z3 (k : Nat) (p0 : y7) (p1 : (List Int)) (v5_3 : (List (List Int))) (v14_3 : Int) : l3 k p0 p1 0 v5_3 v14_3 = none := by kernel_rfl
theorem s (k : Nat) (p0 : y7) (p1 : (List Int)) : f k p0 p1 =
 (l3 k p0 p1 k [] 0) := by kernel_rfl
theorem ok (k : Nat) : Ok Tryz.prog 54 (sem k) := Fd.ok (cx_ok ⟨impl_use.ok k, slices_Compare_int_int.ok k, slices_BinarySearchFunc_int_int_int.ok k, slices_Insert_int_int.ok k, impl_clone_Lint.ok k, trivial⟩) ⟨Tryz.func54, rfl, by kernel_rfl⟩ rfl
attribute [irreducible] f l3
end impl_nextStates
/-! loop.example/wholecheck/impl.number -/
namespace impl_number
noncomputable def D : Fd := ⟨Tryz.f49, 1, I, .sh, [.sh, .sh], .unit, h40⟩
noncomputable def C (k : Nat) : Ctx := cx [] [((5, 16), 3)] [(3, [(1, none), (5, none), (9, none), (10, none), (11, none)])] [] [(5, [0, 1, 2, 3, 4, 5, 6, 7, 8, 9, 10, 11, 12, 13, 14, 15, 16])] [] []
noncomputable def sem (k : Nat) : Sem := D.sem (D.ev (C k) k)
noncomputable def f (k : Nat) (p0 : y7) (p1 : (List Int)) : Option (Int × Unit) := D.ev (C k) k (p0, p1, ())
noncomputable def l3 (k : Nat) (p0 : y7) (p1 : (List Int)) (n : Nat) (v5_3 v11_3 : Int) : Option (Int × Unit) :=
 D.lp (C k) k 3 [1, 1, 0, 1, 0] [] n [(11, vI v11_3), (10, vI ((p0.1.length : Int))), (9, vS h2 p0.1), (5, vI v5_3), (1, vS h9 p1)]
theorem s3 (k : Nat) (p0 : y7) (p1 : (List Int)) (n : Nat) (v5_3 v11_3 : Int) : l3 k p0 p1 (n + 1) v5_3 v11_3 =
 (if (decide (v11_3 < ((p0.1.length : Int)))) = true then
  gd ((0 : Int) ≤ v11_3) <| gd (v11_3 < (p0.1.length : Int)) <| gd ((0 : Int) ≤ v11_3) <| gd (v11_3 < (p1.length : Int)) <| l3 k p0 p1 n (w64 ((w64 ((w64 (v5_3 * (w64 ((w64 ((p0.1.getD (v11_3.toNat) (0, (0, 0))).2.1 - (p0.1.getD (v11_3.toNat) (0, (0, 0))).1)) + 1)))) + (p1.getD (v11_3.toNat) 0))) - (p0.1.getD (v11_3.toNat) (0, (0, 0))).1)) (w64 (v11_3 + 1))
 else
  some (v5_3, ())) := by kernel_rfl
theorem z3 (k : Nat) (p0 : y7) (p1 : (List Int)) (v5_3 v11_3 : Int) : l3 k p0 p1 0 v5_3 v11_3 = none := by kernel_rfl
theorem s (k : Nat) (p0 : y7) (p1 : (List Int)) : f k p0 p1 =
 (l3 k p0 p1 k 0 0) := by kernel_rfl
theorem ok (k : Nat) : Ok Tryz.prog 49 (sem k) := Fd.ok (cx_ok trivial) ⟨Tryz.func49, rfl, by kernel_rfl⟩ rfl
attribute [irreducible] f l3
end impl_number
/-! loop.example/wholecheck/impl.nexts -/
namespace impl_nexts
noncomputable def D : Fd := ⟨Tryz.f22, 1, h43, (.ow (.ow .sh)), [.sh], .unit, h30⟩
noncomputable def C (k : Nat) : Ctx := cx [(44, impl_size.sem k), (51, impl_stateAt.sem k), (54, impl_nextStates.sem k), (49, impl_number.sem k)] [((8, 10), 4)] [(3, [(1, none), (3, none), (12, none), (13, none)]), (6, [(1, none), (3, none), (4, none), (12, none), (13, none), (20, none), (21, none), (22, none)])] [] [(5, [0, 1, 2, 6, 3, 4, 5]), (8, [0, 1, 2, 3, 4, 5, 6, 7, 8, 9, 10, 11, 12])] [((5, 3), [1]), ((8, 8), [3]), ((8, 9), [3])] []
noncomputable def sem (k : Nat) : Sem := D.sem (D.ev (C k) k)
noncomputable def f (k : Nat) (p0 : y7) : Option ((List (List Int)) × Unit) := D.ev (C k) k (p0, ())
noncomputable def l3 (k : Nat) (p0 : y7) (n : Nat) (v3_3 : (List (List Int))) (v12_3 v13_3 : Int) : Option ((List (List Int)) × Unit) :=
 D.lp (C k) k 3 [1, 1, 0, 1, 0] [] n [(13, vI v13_3), (12, vI v12_3), (3, vO h43 v3_3), (1, .val h37 (.ow .sh) p0)]
noncomputable def l6 (k n3 : Nat) (p0 : y7) (v12_3 v13_3 : Int) (n : Nat) (v3_6 v20_6 : (List (List Int))) (v21_6 v22_6 : Int) : Option ((List (List Int)) × Unit) :=
 D.lp (C k) k 6 [1, 1, 0, 1, 0, 0, 1, 1, 0, 0, 1, 1, 0] [n3] n [(22, vI v22_6), (21, vI v21_6), (20, .val h43 (.ow .sh) v20_6), (13, vI v13_3), (12, vI v12_3), (4, vI v13_3), (3, vO h43 v3_6), (1, .val h37 (.ow .sh) p0)]
theorem s6 (k n3 : Nat) (p0 : y7) (v12_3 v13_3 : Int) (n : Nat) (v3_6 v20_6 : (List (List Int))) (v21_6 v22_6 : Int) : l6 k n3 p0 v12_3 v13_3 (n + 1) v3_6 v20_6 v21_6 v22_6 =
 (if (decide (v22_6 < v21_6)) = true then
  gd ((0 : Int) ≤ v22_6) <| gd (v22_6 < (v20_6.length : Int)) <| gd ((0 : Int) ≤ v13_3) <| gd (v13_3 < (v3_6.length : Int)) <| (impl_number.f k p0 (v20_6.getD (v22_6.toNat) [])).bind fun r4 =>
  gd (((v3_6.getD (v13_3.toNat) []).length : Int) + ([r4.1].length : Int) ≤ 1099511627776) <| gd ((0 : Int) ≤ v13_3) <| gd (v13_3 < (v3_6.length : Int)) <| gd (((v13_3.toNat) : Nat) = (v13_3.toNat)) <| l6 k n3 p0 v12_3 v13_3 n (v3_6.set (v13_3.toNat) ((v3_6.getD (v13_3.toNat) []) ++ [r4.1])) v20_6 v21_6 (w64 (v22_6 + 1))
 else
  l3 k p0 n3 v3_6 v12_3 (w64 (v13_3 + 1))) := by kernel_rfl
theorem z6 (k n3 : Nat) (p0 : y7) (v12_3 v13_3 : Int) (v3_6 v20_6 : (List (List Int))) (v21_6 v22_6 : Int) : l6 k n3 p0 v12_3 v13_3 0 v3_6 v20_6 v21_6 v22_6 = none := by kernel_rfl
theorem s3 (k : Nat) (p0 : y7) (n : Nat) (v3_3 : (List (List Int))) (v12_3 v13_3 : Int) : l3 k p0 (n + 1) v3_3 v12_3 v13_3 =
 (if (decide (v13_3 < v12_3)) = true then
  (impl_stateAt.f k p0 v13_3).bind fun r2 =>
  (impl_nextStates.f k p0 r2.1).bind fun r3 =>
  l6 k n p0 v12_3 v13_3 k v3_3 r3.1 ((r3.1.length : Int)) 0
 else
  some (v3_3, ())) := by kernel_rfl
theorem z3 (k : Nat) (p0 : y7) (v3_3 : (List (List Int))) (v12_3 v13_3 : Int) : l3 k p0 0 v3_3 v12_3 v13_3 = none := by kernel_rfl
theorem s (k : Nat) (p0 : y7) : f k p0 =
 ((impl_size.f k p0.1).bind fun r1 =>
 gd ((0 : Int) ≤ r1.1) <| gd ((r1.1 : Int) ≤ 1099511627776) <| l3 k p0 k ((List.replicate r1.1.toNat [] : (List (List Int)))) ((((List.replicate r1.1.toNat [] : (List (List Int)))).length : Int)) 0) := by kernel_rfl
theorem ok (k : Nat) : Ok Tryz.prog 22 (sem k) := Fd.ok (cx_ok ⟨impl_size.ok k, impl_stateAt.ok k, impl_nextStates.ok k, impl_number.ok k, trivial⟩) ⟨Tryz.func22, rfl, by kernel_rfl⟩ rfl
attribute [irreducible] f l3 l6
end impl_nexts
/-! loop.example/wholecheck/impl.exchanged -/
namespace impl_exchanged
noncomputable def D : Fd := ⟨Tryz.f50, 1, h9, (.ow .sh), [.sh, .sh], .unit, h42⟩
noncomputable def C (k : Nat) : Ctx := cx [] [] [(3, [(0, none), (5, none), (11, none), (12, none), (13, none)])] [] [] [] []
noncomputable def sem (k : Nat) : Sem := D.sem (D.ev (C k) k)
noncomputable def f (k : Nat) (p0 p1 : (List Int)) : Option ((List Int) × Unit) := D.ev (C k) k (p0, p1, ())
noncomputable def l3 (k : Nat) (p0 p1 : (List Int)) (n : Nat) (v5_3 : (List Int)) (v13_3 : Int) : Option ((List Int) × Unit) :=
 D.lp (C k) k 3 [1, 1, 0, 1, 0] [] n [(13, vI v13_3), (12, vI ((p1.length : Int))), (11, vS h9 p1), (5, vO h9 v5_3), (0, vS h9 p0)]
theorem s3 (k : Nat) (p0 p1 : (List Int)) (n : Nat) (v5_3 : (List Int)) (v13_3 : Int) : l3 k p0 p1 (n + 1) v5_3 v13_3 =
 (if (decide (v13_3 < ((p1.length : Int)))) = true then
  gd ((0 : Int) ≤ v13_3) <| gd (v13_3 < (p1.length : Int)) <| gd ((0 : Int) ≤ (p1.getD (v13_3.toNat) 0)) <| gd ((p1.getD (v13_3.toNat) 0) < (p0.length : Int)) <| gd ((0 : Int) ≤ v13_3) <| gd (v13_3 < (v5_3.length : Int)) <| l3 k p0 p1 n (v5_3.set (v13_3.toNat) (p0.getD ((p1.getD (v13_3.toNat) 0).toNat) 0)) (w64 (v13_3 + 1))
 else
  some (v5_3, ())) := by kernel_rfl
theorem z3 (k : Nat) (p0 p1 : (List Int)) (v5_3 : (List Int)) (v13_3 : Int) : l3 k p0 p1 0 v5_3 v13_3 = none := by kernel_rfl
theorem s (k : Nat) (p0 p1 : (List Int)) : f k p0 p1 =
 (gd ((0 : Int) ≤ ((p0.length : Int))) <| gd ((((p0.length : Int)) : Int) ≤ 1099511627776) <| l3 k p0 p1 k ((List.replicate ((p0.length : Int)).toNat 0 : (List Int))) 0) := by kernel_rfl
theorem ok (k : Nat) : Ok Tryz.prog 50 (sem k) := Fd.ok (cx_ok trivial) ⟨Tryz.func50, rfl, by kernel_rfl⟩ rfl
attribute [irreducible] f l3
end impl_exchanged
/-! slices.Sort[[]int,int] -/
namespace slices_Sort_int_int
noncomputable def sem (k : Nat) : Sem := mkSem [.loan (.ow .sh)] 0 .unit .sh SI (.pair SI .unit) sortF
noncomputable def f (k : Nat) (p0 : List Int) : Option (Unit × List Int) := sortF (p0, ())
theorem s (k : Nat) (p0 : List Int) : f k p0 = (gd ((p0.length : Int) ≤ LIM) <| some ((), p0.mergeSort fun x y => decide (x ≤ y))) := rfl
theorem ok (k : Nat) : Ok Tryz.prog 52 (sem k) := Giv.sort
attribute [irreducible] f
end slices_Sort_int_int
/-! slices.Equal[[]int,int] -/
namespace slices_Equal_int_int
noncomputable def D : Fd := ⟨Tryz.f53, 1, .bool, .sh, [.sh, .sh], .unit, h42⟩
noncomputable def C (k : Nat) : Ctx := cx [] [] [(4, [(0, none), (1, none), (12, none), (13, none)])] [] [(6, [0, 1, 2, 3, 4, 5, 6, 7, 8])] [] []
noncomputable def sem (k : Nat) : Sem := D.sem (D.ev (C k) k)
noncomputable def f (k : Nat) (p0 p1 : (List Int)) : Option (Bool × Unit) := D.ev (C k) k (p0, p1, ())
noncomputable def l4 (k : Nat) (p0 p1 : (List Int)) (n : Nat) (v13_4 : Int) : Option (Bool × Unit) :=
 D.lp (C k) k 4 [1, 1, 0, 1, 0] [] n [(13, vI v13_4), (12, vI ((p0.length : Int))), (1, vS h9 p1), (0, vS h9 p0)]
theorem s4 (k : Nat) (p0 p1 : (List Int)) (n : Nat) (v13_4 : Int) : l4 k p0 p1 (n + 1) v13_4 =
 (if (decide (v13_4 < ((p0.length : Int)))) = true then
  gd ((0 : Int) ≤ v13_4) <| gd (v13_4 < (p0.length : Int)) <| gd ((0 : Int) ≤ v13_4) <| gd (v13_4 < (p1.length : Int)) <| if ((p0.getD (v13_4.toNat) 0) != (p1.getD (v13_4.toNat) 0)) = true then
   some (false, ())
  else
   l4 k p0 p1 n (w64 (v13_4 + 1))
 else
  some (true, ())) := by kernel_rfl
theorem z4 (k : Nat) (p0 p1 : (List Int)) (v13_4 : Int) : l4 k p0 p1 0 v13_4 = none := by kernel_rfl
theorem s (k : Nat) (p0 p1 : (List Int)) : f k p0 p1 =
 (if (((p0.length : Int)) != ((p1.length : Int))) = true then
  some (false, ())
 else
  l4 k p0 p1 k 0) := by kernel_rfl
theorem ok (k : Nat) : Ok Tryz.prog 53 (sem k) := Fd.ok (cx_ok trivial) ⟨Tryz.func53, rfl, by kernel_rfl⟩ rfl
attribute [irreducible] f l4
end slices_Equal_int_int
/-! loop.example/wholecheck/impl.isSymmetry -/
namespace impl_isSymmetry
noncomputable def D : Fd := ⟨Tryz.f21, 1, .bool, .sh, [.sh, .sh, .sh], .unit, h49⟩
noncomputable def C (k : Nat) : Ctx := cx [(51, impl_stateAt.sem k), (50, impl_exchanged.sem k), (49, impl_number.sem k), (52, slices_Sort_int_int.sem k), (53, slices_Equal_int_int.sem k)] [] [(2, [(1, none), (2, none), (3, none), (16, none), (17, none), (18, none)]), (9, [(1, none), (2, none), (3, none), (9, none), (39, none), (40, none)]), (14, [(1, none), (9, none), (54, none), (55, none), (56, none)]), (18, [(1, none), (9, none), (11, none), (13, none), (54, none), (55, none), (56, none), (61, none), (62, none), (63, none)])] [] [(4, [0, 1, 2, 3, 4, 5, 6, 7, 8, 9, 10]), (11, [0, 1, 2, 3, 4, 6, 5, 7, 8, 9, 10])] [((11, 5), [3]), ((11, 7), [3])] []
noncomputable def sem (k : Nat) : Sem := D.sem (D.ev (C k) k)
noncomputable def f (k : Nat) (p0 : y7) (p1 : (List (List Int))) (p2 : (List Int)) : Option (Bool × Unit) := D.ev (C k) k (p0, p1, p2, ())
noncomputable def l2 (k : Nat) (p0 : y7) (p1 : (List (List Int))) (p2 : (List Int)) (n : Nat) (v18_2 : Int) : Option (Bool × Unit) :=
 D.lp (C k) k 2 [1, 0, 1, 0] [] n [(18, vI v18_2), (17, vI ((p2.length : Int))), (16, vS h9 p2), (3, .val h37 (.ow .sh) p0), (2, vS h9 p2), (1, vS h43 p1)]
noncomputable def l9 (k : Nat) (p0 : y7) (p1 : (List (List Int))) (p2 : (List Int)) (n : Nat) (v9_9 : (List Int)) (v40_9 : Int) : Option (Bool × Unit) :=
 D.lp (C k) k 9 [1, 1, 1, 0, 1, 0] [] n [(40, vI v40_9), (39, vI ((((List.replicate ((p1.length : Int)).toNat 0 : (List Int))).length : Int))), (9, vO h9 v9_9), (3, .val h37 (.ow .sh) p0), (2, vS h9 p2), (1, vS h43 p1)]
noncomputable def l14 (k : Nat) (p1 : (List (List Int))) (v9_9 : (List Int)) (n : Nat) (v56_14 : Int) : Option (Bool × Unit) :=
 D.lp (C k) k 14 [1, 1, 1, 1, 0, 1, 0] [] n [(56, vI v56_14), (55, vI ((p1.length : Int))), (54, vS h43 p1), (9, vO h9 v9_9), (1, vS h43 p1)]
noncomputable def l18 (k n14 : Nat) (p1 : (List (List Int))) (v56_14 : Int) (v9_9 : (List Int)) (n : Nat) (v13_18 : (List Int)) (v63_18 : Int) : Option (Bool × Unit) :=
 D.lp (C k) k 18 [1, 1, 1, 1, 0, 1, 0, 0, 1, 1, 0, 0, 1, 1, 0, 1, 0] [n14] n [(63, vI v63_18), (62, vI (((p1.getD (v56_14.toNat) []).length : Int))), (61, vS h9 (p1.getD (v56_14.toNat) [])), (56, vI v56_14), (55, vI ((p1.length : Int))), (54, vS h43 p1), (13, vO h53 v13_18), (11, vI v56_14), (9, vO h9 v9_9), (1, vS h43 p1)]
theorem s18 (k n14 : Nat) (p1 : (List (List Int))) (v56_14 : Int) (v9_9 : (List Int)) (n : Nat) (v13_18 : (List Int)) (v63_18 : Int) : l18 k n14 p1 v56_14 v9_9 (n + 1) v13_18 v63_18 =
 (if (decide (v63_18 < (((p1.getD (v56_14.toNat) []).length : Int)))) = true then
  gd ((0 : Int) ≤ v63_18) <| gd (v63_18 < ((p1.getD (v56_14.toNat) []).length : Int)) <| gd ((0 : Int) ≤ ((p1.getD (v56_14.toNat) []).getD (v63_18.toNat) 0)) <| gd (((p1.getD (v56_14.toNat) []).getD (v63_18.toNat) 0) < (v9_9.length : Int)) <| gd ((v13_18.length : Int) + ([(v9_9.getD (((p1.getD (v56_14.toNat) []).getD (v63_18.toNat) 0).toNat) 0)].length : Int) ≤ 1099511627776) <| l18 k n14 p1 v56_14 v9_9 n (v13_18 ++ [(v9_9.getD (((p1.getD (v56_14.toNat) []).getD (v63_18.toNat) 0).toNat) 0)]) (w64 (v63_18 + 1))
 else
  (slices_Sort_int_int.f k v13_18).bind fun r4 =>
  gd ((0 : Int) ≤ v56_14) <| gd (v56_14 < (v9_9.length : Int)) <| gd ((0 : Int) ≤ (v9_9.getD (v56_14.toNat) 0)) <| gd ((v9_9.getD (v56_14.toNat) 0) < (p1.length : Int)) <| (slices_Equal_int_int.f k r4.2 (p1.getD ((v9_9.getD (v56_14.toNat) 0).toNat) [])).bind fun r5 =>
  if (!r5.1) = true then
   some (false, ())
  else
   l14 k p1 v9_9 n14 (w64 (v56_14 + 1))) := by kernel_rfl
theorem z18 (k n14 : Nat) (p1 : (List (List Int))) (v56_14 : Int) (v9_9 : (List Int)) (v13_18 : (List Int)) (v63_18 : Int) : l18 k n14 p1 v56_14 v9_9 0 v13_18 v63_18 = none := by kernel_rfl
theorem s14 (k : Nat) (p1 : (List (List Int))) (v9_9 : (List Int)) (n : Nat) (v56_14 : Int) : l14 k p1 v9_9 (n + 1) v56_14 =
 (if (decide (v56_14 < ((p1.length : Int)))) = true then
  gd ((0 : Int) ≤ v56_14) <| gd (v56_14 < (p1.length : Int)) <| l18 k n p1 v56_14 v9_9 k [] 0
 else
  some (true, ())) := by kernel_rfl
theorem z14 (k : Nat) (p1 : (List (List Int))) (v9_9 : (List Int)) (v56_14 : Int) : l14 k p1 v9_9 0 v56_14 = none := by kernel_rfl
theorem s9 (k : Nat) (p0 : y7) (p1 : (List (List Int))) (p2 : (List Int)) (n : Nat) (v9_9 : (List Int)) (v40_9 : Int) : l9 k p0 p1 p2 (n + 1) v9_9 v40_9 =
 (if (decide (v40_9 < ((((List.replicate ((p1.length : Int)).toNat 0 : (List Int))).length : Int)))) = true then
  (impl_stateAt.f k p0 v40_9).bind fun r1 =>
  (impl_exchanged.f k r1.1 p2).bind fun r2 =>
  (impl_number.f k p0 r2.1).bind fun r3 =>
  gd ((0 : Int) ≤ v40_9) <| gd (v40_9 < (v9_9.length : Int)) <| l9 k p0 p1 p2 n (v9_9.set (v40_9.toNat) r3.1) (w64 (v40_9 + 1))
 else
  l14 k p1 v9_9 k 0) := by kernel_rfl
theorem z9 (k : Nat) (p0 : y7) (p1 : (List (List Int))) (p2 : (List Int)) (v9_9 : (List Int)) (v40_9 : Int) : l9 k p0 p1 p2 0 v9_9 v40_9 = none := by kernel_rfl
theorem s2 (k : Nat) (p0 : y7) (p1 : (List (List Int))) (p2 : (List Int)) (n : Nat) (v18_2 : Int) : l2 k p0 p1 p2 (n + 1) v18_2 =
 (if (decide (v18_2 < ((p2.length : Int)))) = true then
  gd ((0 : Int) ≤ v18_2) <| gd (v18_2 < (p2.length : Int)) <| gd ((0 : Int) ≤ v18_2) <| gd (v18_2 < (p0.1.length : Int)) <| gd ((0 : Int) ≤ (p2.getD (v18_2.toNat) 0)) <| gd ((p2.getD (v18_2.toNat) 0) < (p0.1.length : Int)) <| if (!(((p0.1.getD (v18_2.toNat) (0, (0, 0))).1 == (p0.1.getD ((p2.getD (v18_2.toNat) 0).toNat) (0, (0, 0))).1) && (((p0.1.getD (v18_2.toNat) (0, (0, 0))).2.1 == (p0.1.getD ((p2.getD (v18_2.toNat) 0).toNat) (0, (0, 0))).2.1) && ((p0.1.getD (v18_2.toNat) (0, (0, 0))).2.2 == (p0.1.getD ((p2.getD (v18_2.toNat) 0).toNat) (0, (0, 0))).2.2)))) = true then
   some (false, ())
  else
   l2 k p0 p1 p2 n (w64 (v18_2 + 1))
 else
  gd ((0 : Int) ≤ ((p1.length : Int))) <| gd ((((p1.length : Int)) : Int) ≤ 1099511627776) <| l9 k p0 p1 p2 k ((List.replicate ((p1.length : Int)).toNat 0 : (List Int))) 0) := by kernel_rfl
theorem z2 (k : Nat) (p0 : y7) (p1 : (List (List Int))) (p2 : (List Int)) (v18_2 : Int) : l2 k p0 p1 p2 0 v18_2 = none := by kernel_rfl
theorem s (k : Nat) (p0 : y7) (p1 : (List (List Int))) (p2 : (List Int)) : f k p0 p1 p2 =
 (l2 k p0 p1 p2 k 0) := by kernel_rfl
theorem ok (k : Nat) : Ok Tryz.prog 21 (sem k) := Fd.ok (cx_ok ⟨impl_stateAt.ok k, impl_exchanged.ok k, impl_number.ok k, slices_Sort_int_int.ok k, slices_Equal_int_int.ok k, trivial⟩) ⟨Tryz.func21, rfl, by kernel_rfl⟩ rfl
attribute [irreducible] f l2 l9 l14 l18
end impl_isSymmetry
/-! loop.example/wholecheck/impl.IsSymmetry -/
namespace impl_IsSymmetry
noncomputable def D : Fd := ⟨Tryz.f8, 1, .bool, .sh, [.sh, .sh], .unit, h40⟩
noncomputable def C (k : Nat) : Ctx := cx [(19, impl_SystemValid.sem k), (20, impl_OrderValid.sem k), (22, impl_nexts.sem k), (21, impl_isSymmetry.sem k)] [] [] [] [(1, [0, 1, 2, 3, 4, 5, 6, 7, 8, 9, 10, 11, 13, 12, 14, 15, 16])] [((1, 12), [2])] []
noncomputable def sem (k : Nat) : Sem := D.sem (D.ev (C k) k)
noncomputable def f (k : Nat) (p0 : y7) (p1 : (List Int)) : Option (Bool × Unit) := D.ev (C k) k (p0, p1, ())
theorem s (k : Nat) (p0 : y7) (p1 : (List Int)) : f k p0 p1 =
 ((impl_SystemValid.f k p0).bind fun r1 =>
 if r1.1 = true then
  (impl_OrderValid.f k p1 ((p0.1.length : Int))).bind fun r2 =>
  if r2.1 = true then
   (impl_nexts.f k p0).bind fun r3 =>
   (impl_isSymmetry.f k p0 r3.1 p1).bind fun r4 =>
   some (r4.1, ())
  else
   some (false, ())
 else
  some (false, ())) := by kernel_rfl
theorem ok (k : Nat) : Ok Tryz.prog 8 (sem k) := Fd.ok (cx_ok ⟨impl_SystemValid.ok k, impl_OrderValid.ok k, impl_nexts.ok k, impl_isSymmetry.ok k, trivial⟩) ⟨Tryz.func8, rfl, by kernel_rfl⟩ rfl
attribute [irreducible] f
end impl_IsSymmetry
/-! loop.example/wholecheck/laws.eqVar -/
namespace laws_eqVar
noncomputable def D : Fd := ⟨Tryz.f55, 1, .bool, .sh, [.sh, .sh], .unit, h66⟩
noncomputable def C (k : Nat) : Ctx := cx [] [] [] [] [] [] []
noncomputable def sem (k : Nat) : Sem := D.sem (D.ev (C k) k)
noncomputable def f (k : Nat) (p0 p1 : (Int × (Int × Int))) : Option (Bool × Unit) := D.ev (C k) k (p0, p1, ())
theorem s (k : Nat) (p0 p1 : (Int × (Int × Int))) : f k p0 p1 =
 (if (p0.1 != p1.1) = true then
  some (false, ())
 else
  if (p0.2.1 != p1.2.1) = true then
   some (false, ())
  else
   if (p0.2.2 != p1.2.2) = true then
    some (false, ())
   else
    some (true, ())) := by kernel_rfl
theorem ok (k : Nat) : Ok Tryz.prog 55 (sem k) := Fd.ok (cx_ok trivial) ⟨Tryz.func55, rfl, by kernel_rfl⟩ rfl
attribute [irreducible] f
end laws_eqVar
/-! loop.example/wholecheck/laws.eqVarS -/
namespace laws_eqVarS
noncomputable def D : Fd := ⟨Tryz.f23, 1, .bool, .sh, [.sh, .sh], .unit, h67⟩
noncomputable def C (k : Nat) : Ctx := cx [(55, laws_eqVar.sem k)] [] [(4, [(0, none), (1, none), (5, none)])] [] [(6, [0, 1, 2, 3, 4, 5, 6, 7, 8, 9])] [] []
noncomputable def sem (k : Nat) : Sem := D.sem (D.ev (C k) k)
noncomputable def f (k : Nat) (p0 p1 : y0) : Option (Bool × Unit) := D.ev (C k) k (p0, p1, ())
noncomputable def l4 (k : Nat) (p0 p1 : y0) (n : Nat) (v5_4 : Int) : Option (Bool × Unit) :=
 D.lp (C k) k 4 [1, 1, 0, 1, 0] [] n [(5, vI v5_4), (1, vS h2 p1), (0, vS h2 p0)]
theorem s4 (k : Nat) (p0 p1 : y0) (n : Nat) (v5_4 : Int) : l4 k p0 p1 (n + 1) v5_4 =
 (if (decide (v5_4 < ((p0.length : Int)))) = true then
  gd ((0 : Int) ≤ v5_4) <| gd (v5_4 < (p0.length : Int)) <| gd ((0 : Int) ≤ v5_4) <| gd (v5_4 < (p1.length : Int)) <| (laws_eqVar.f k (p0.getD (v5_4.toNat) (0, (0, 0))) (p1.getD (v5_4.toNat) (0, (0, 0)))).bind fun r1 =>
  if (!r1.1) = true then
   some (false, ())
  else
   l4 k p0 p1 n (w64 (v5_4 + 1))
 else
  some (true, ())) := by kernel_rfl
theorem z4 (k : Nat) (p0 p1 : y0) (v5_4 : Int) : l4 k p0 p1 0 v5_4 = none := by kernel_rfl
theorem s (k : Nat) (p0 p1 : y0) : f k p0 p1 =
 (if (((p0.length : Int)) != ((p1.length : Int))) = true then
  some (false, ())
 else
  l4 k p0 p1 k 0) := by kernel_rfl
theorem ok (k : Nat) : Ok Tryz.prog 23 (sem k) := Fd.ok (cx_ok ⟨laws_eqVar.ok k, trivial⟩) ⟨Tryz.func23, rfl, by kernel_rfl⟩ rfl
attribute [irreducible] f l4
end laws_eqVarS
/-! loop.example/wholecheck/laws.eqTerm -/
namespace laws_eqTerm
noncomputable def D : Fd := ⟨Tryz.f105, 1, .bool, .sh, [.sh, .sh], .unit, h68⟩
noncomputable def C (k : Nat) : Ctx := cx [] [] [] [] [] [] []
noncomputable def sem (k : Nat) : Sem := D.sem (D.ev (C k) k)
noncomputable def f (k : Nat) (p0 p1 : y1) : Option (Bool × Unit) := D.ev (C k) k (p0, p1, ())
theorem s (k : Nat) (p0 p1 : y1) : f k p0 p1 =
 (if (p0.1 != p1.1) = true then
  some (false, ())
 else
  if (p0.2.1 != p1.2.1) = true then
   some (false, ())
  else
   if (p0.2.2.1 != p1.2.2.1) = true then
    some (false, ())
   else
    if (p0.2.2.2 != p1.2.2.2) = true then
     some (false, ())
    else
     some (true, ())) := by kernel_rfl
theorem ok (k : Nat) : Ok Tryz.prog 105 (sem k) := Fd.ok (cx_ok trivial) ⟨Tryz.func105, rfl, by kernel_rfl⟩ rfl
attribute [irreducible] f
end laws_eqTerm
/-! loop.example/wholecheck/laws.eqTermS -/
namespace laws_eqTermS
noncomputable def D : Fd := ⟨Tryz.f80, 1, .bool, .sh, [.sh, .sh], .unit, h69⟩
noncomputable def C (k : Nat) : Ctx := cx [(105, laws_eqTerm.sem k)] [] [(4, [(0, none), (1, none), (5, none)])] [] [(6, [0, 1, 2, 3, 4, 5, 6, 7, 8, 9])] [] []
noncomputable def sem (k : Nat) : Sem := D.sem (D.ev (C k) k)
noncomputable def f (k : Nat) (p0 p1 : y2) : Option (Bool × Unit) := D.ev (C k) k (p0, p1, ())
noncomputable def l4 (k : Nat) (p0 p1 : y2) (n : Nat) (v5_4 : Int) : Option (Bool × Unit) :=
 D.lp (C k) k 4 [1, 1, 0, 1, 0] [] n [(5, vI v5_4), (1, vS h7 p1), (0, vS h7 p0)]
theorem s4 (k : Nat) (p0 p1 : y2) (n : Nat) (v5_4 : Int) : l4 k p0 p1 (n + 1) v5_4 =
 (if (decide (v5_4 < ((p0.length : Int)))) = true then
  gd ((0 : Int) ≤ v5_4) <| gd (v5_4 < (p0.length : Int)) <| gd ((0 : Int) ≤ v5_4) <| gd (v5_4 < (p1.length : Int)) <| (laws_eqTerm.f k (p0.getD (v5_4.toNat) (0, (0, (0, 0)))) (p1.getD (v5_4.toNat) (0, (0, (0, 0))))).bind fun r1 =>
  if (!r1.1) = true then
   some (false, ())
  else
   l4 k p0 p1 n (w64 (v5_4 + 1))
 else
  some (true, ())) := by kernel_rfl
theorem z4 (k : Nat) (p0 p1 : y2) (v5_4 : Int) : l4 k p0 p1 0 v5_4 = none := by kernel_rfl
theorem s (k : Nat) (p0 p1 : y2) : f k p0 p1 =
 (if (((p0.length : Int)) != ((p1.length : Int))) = true then
  some (false, ())
 else
  l4 k p0 p1 k 0) := by kernel_rfl
theorem ok (k : Nat) : Ok Tryz.prog 80 (sem k) := Fd.ok (cx_ok ⟨laws_eqTerm.ok k, trivial⟩) ⟨Tryz.func80, rfl, by kernel_rfl⟩ rfl
attribute [irreducible] f l4
end laws_eqTermS
/-! loop.example/wholecheck/laws.eqIntS -/
namespace laws_eqIntS
noncomputable def D : Fd := ⟨Tryz.f10, 1, .bool, .sh, [.sh, .sh], .unit, h42⟩
noncomputable def C (k : Nat) : Ctx := cx [] [] [(4, [(0, none), (1, none), (5, none)])] [] [(6, [0, 1, 2, 3, 4, 5, 6, 7, 8])] [] []
noncomputable def sem (k : Nat) : Sem := D.sem (D.ev (C k) k)
noncomputable def f (k : Nat) (p0 p1 : (List Int)) : Option (Bool × Unit) := D.ev (C k) k (p0, p1, ())
noncomputable def l4 (k : Nat) (p0 p1 : (List Int)) (n : Nat) (v5_4 : Int) : Option (Bool × Unit) :=
 D.lp (C k) k 4 [1, 1, 0, 1, 0] [] n [(5, vI v5_4), (1, vS h9 p1), (0, vS h9 p0)]
theorem s4 (k : Nat) (p0 p1 : (List Int)) (n : Nat) (v5_4 : Int) : l4 k p0 p1 (n + 1) v5_4 =
 (if (decide (v5_4 < ((p0.length : Int)))) = true then
  gd ((0 : Int) ≤ v5_4) <| gd (v5_4 < (p0.length : Int)) <| gd ((0 : Int) ≤ v5_4) <| gd (v5_4 < (p1.length : Int)) <| if ((p0.getD (v5_4.toNat) 0) != (p1.getD (v5_4.toNat) 0)) = true then
   some (false, ())
  else
   l4 k p0 p1 n (w64 (v5_4 + 1))
 else
  some (true, ())) := by kernel_rfl
theorem z4 (k : Nat) (p0 p1 : (List Int)) (v5_4 : Int) : l4 k p0 p1 0 v5_4 = none := by kernel_rfl
theorem s (k : Nat) (p0 p1 : (List Int)) : f k p0 p1 =
 (if (((p0.length : Int)) != ((p1.length : Int))) = true then
  some (false, ())
 else
  l4 k p0 p1 k 0) := by kernel_rfl
theorem ok (k : Nat) : Ok Tryz.prog 10 (sem k) := Fd.ok (cx_ok trivial) ⟨Tryz.func10, rfl, by kernel_rfl⟩ rfl
attribute [irreducible] f l4
end laws_eqIntS
/-! loop.example/wholecheck/laws.eqTermSS -/
namespace laws_eqTermSS
noncomputable def D : Fd := ⟨Tryz.f81, 1, .bool, .sh, [.sh, .sh], .unit, h70⟩
noncomputable def C (k : Nat) : Ctx := cx [(80, laws_eqTermS.sem k)] [] [(4, [(0, none), (1, none), (5, none)])] [] [(6, [0, 1, 2, 3, 4, 5, 6, 7, 8, 9])] [] []
noncomputable def sem (k : Nat) : Sem := D.sem (D.ev (C k) k)
noncomputable def f (k : Nat) (p0 p1 : y3) : Option (Bool × Unit) := D.ev (C k) k (p0, p1, ())
noncomputable def l4 (k : Nat) (p0 p1 : y3) (n : Nat) (v5_4 : Int) : Option (Bool × Unit) :=
 D.lp (C k) k 4 [1, 1, 0, 1, 0] [] n [(5, vI v5_4), (1, vS h11 p1), (0, vS h11 p0)]
theorem s4 (k : Nat) (p0 p1 : y3) (n : Nat) (v5_4 : Int) : l4 k p0 p1 (n + 1) v5_4 =
 (if (decide (v5_4 < ((p0.length : Int)))) = true then
  gd ((0 : Int) ≤ v5_4) <| gd (v5_4 < (p0.length : Int)) <| gd ((0 : Int) ≤ v5_4) <| gd (v5_4 < (p1.length : Int)) <| (laws_eqTermS.f k (p0.getD (v5_4.toNat) []) (p1.getD (v5_4.toNat) [])).bind fun r1 =>
  if (!r1.1) = true then
   some (false, ())
  else
   l4 k p0 p1 n (w64 (v5_4 + 1))
 else
  some (true, ())) := by kernel_rfl
theorem z4 (k : Nat) (p0 p1 : y3) (v5_4 : Int) : l4 k p0 p1 0 v5_4 = none := by kernel_rfl
theorem s (k : Nat) (p0 p1 : y3) : f k p0 p1 =
 (if (((p0.length : Int)) != ((p1.length : Int))) = true then
  some (false, ())
 else
  l4 k p0 p1 k 0) := by kernel_rfl
theorem ok (k : Nat) : Ok Tryz.prog 81 (sem k) := Fd.ok (cx_ok ⟨laws_eqTermS.ok k, trivial⟩) ⟨Tryz.func81, rfl, by kernel_rfl⟩ rfl
attribute [irreducible] f l4
end laws_eqTermSS
/-! loop.example/wholecheck/laws.eqRule -/
namespace laws_eqRule
noncomputable def D : Fd := ⟨Tryz.f56, 1, .bool, .sh, [.sh, .sh], .unit, h71⟩
noncomputable def C (k : Nat) : Ctx := cx [(80, laws_eqTermS.sem k), (10, laws_eqIntS.sem k), (81, laws_eqTermSS.sem k)] [] [] [] [] [] []
noncomputable def sem (k : Nat) : Sem := D.sem (D.ev (C k) k)
noncomputable def f (k : Nat) (p0 p1 : y5) : Option (Bool × Unit) := D.ev (C k) k (p0, p1, ())
theorem s (k : Nat) (p0 p1 : y5) : f k p0 p1 =
 ((laws_eqTermS.f k p0.1 p1.1).bind fun r1 =>
 if (!r1.1) = true then
  some (false, ())
 else
  (laws_eqIntS.f k p0.2.1 p1.2.1).bind fun r2 =>
  if (!r2.1) = true then
   some (false, ())
  else
   (laws_eqTermSS.f k p0.2.2 p1.2.2).bind fun r3 =>
   if (!r3.1) = true then
    some (false, ())
   else
    some (true, ())) := by kernel_rfl
theorem ok (k : Nat) : Ok Tryz.prog 56 (sem k) := Fd.ok (cx_ok ⟨laws_eqTermS.ok k, laws_eqIntS.ok k, laws_eqTermSS.ok k, trivial⟩) ⟨Tryz.func56, rfl, by kernel_rfl⟩ rfl
attribute [irreducible] f
end laws_eqRule
/-! loop.example/wholecheck/laws.eqRuleS -/
namespace laws_eqRuleS
noncomputable def D : Fd := ⟨Tryz.f24, 1, .bool, .sh, [.sh, .sh], .unit, h72⟩
noncomputable def C (k : Nat) : Ctx := cx [(56, laws_eqRule.sem k)] [] [(4, [(0, none), (1, none), (5, none)])] [] [(6, [0, 1, 2, 3, 4, 5, 6, 7, 8, 9])] [] []
noncomputable def sem (k : Nat) : Sem := D.sem (D.ev (C k) k)
noncomputable def f (k : Nat) (p0 p1 : y6) : Option (Bool × Unit) := D.ev (C k) k (p0, p1, ())
noncomputable def l4 (k : Nat) (p0 p1 : y6) (n : Nat) (v5_4 : Int) : Option (Bool × Unit) :=
 D.lp (C k) k 4 [1, 1, 0, 1, 0] [] n [(5, vI v5_4), (1, vS h17 p1), (0, vS h17 p0)]
theorem s4 (k : Nat) (p0 p1 : y6) (n : Nat) (v5_4 : Int) : l4 k p0 p1 (n + 1) v5_4 =
 (if (decide (v5_4 < ((p0.length : Int)))) = true then
  gd ((0 : Int) ≤ v5_4) <| gd (v5_4 < (p0.length : Int)) <| gd ((0 : Int) ≤ v5_4) <| gd (v5_4 < (p1.length : Int)) <| (laws_eqRule.f k (p0.getD (v5_4.toNat) ([], ([], []))) (p1.getD (v5_4.toNat) ([], ([], [])))).bind fun r1 =>
  if (!r1.1) = true then
   some (false, ())
  else
   l4 k p0 p1 n (w64 (v5_4 + 1))
 else
  some (true, ())) := by kernel_rfl
theorem z4 (k : Nat) (p0 p1 : y6) (v5_4 : Int) : l4 k p0 p1 0 v5_4 = none := by kernel_rfl
theorem s (k : Nat) (p0 p1 : y6) : f k p0 p1 =
 (if (((p0.length : Int)) != ((p1.length : Int))) = true then
  some (false, ())
 else
  l4 k p0 p1 k 0) := by kernel_rfl
theorem ok (k : Nat) : Ok Tryz.prog 24 (sem k) := Fd.ok (cx_ok ⟨laws_eqRule.ok k, trivial⟩) ⟨Tryz.func24, rfl, by kernel_rfl⟩ rfl
attribute [irreducible] f l4
end laws_eqRuleS
/-! loop.example/wholecheck/laws.eqSystem -/
namespace laws_eqSystem
noncomputable def D : Fd := ⟨Tryz.f9, 1, .bool, .sh, [.sh, .sh], .unit, h73⟩
noncomputable def C (k : Nat) : Ctx := cx [(23, laws_eqVarS.sem k), (24, laws_eqRuleS.sem k)] [] [] [] [] [] []
noncomputable def sem (k : Nat) : Sem := D.sem (D.ev (C k) k)
noncomputable def f (k : Nat) (p0 p1 : y7) : Option (Bool × Unit) := D.ev (C k) k (p0, p1, ())
theorem s (k : Nat) (p0 p1 : y7) : f k p0 p1 =
 ((laws_eqVarS.f k p0.1 p1.1).bind fun r1 =>
 if (!r1.1) = true then
  some (false, ())
 else
  (laws_eqRuleS.f k p0.2 p1.2).bind fun r2 =>
  if (!r2.1) = true then
   some (false, ())
  else
   some (true, ())) := by kernel_rfl
theorem ok (k : Nat) : Ok Tryz.prog 9 (sem k) := Fd.ok (cx_ok ⟨laws_eqVarS.ok k, laws_eqRuleS.ok k, trivial⟩) ⟨Tryz.func9, rfl, by kernel_rfl⟩ rfl
attribute [irreducible] f
end laws_eqSystem
/-! loop.example/wholecheck/laws.FnExactIsSymmetry -/
namespace laws_FnExactIsSymmetry
noncomputable def D : Fd := ⟨Tryz.f3, 1, .bool, .sh, [.sh, .sh], .unit, h40⟩
noncomputable def C (k : Nat) : Ctx := cx [(4, laws_szSystem.sem k), (6, laws_toSystem.sem k), (7, laws_toIntS.sem k), (5, spec_IsSymmetry.sem k), (8, impl_IsSymmetry.sem k), (9, laws_eqSystem.sem k), (10, laws_eqIntS.sem k)] [] [] [] [(13, [0, 1, 2, 3, 4])] [((13, 2), [7])] []
noncomputable def sem (k : Nat) : Sem := D.sem (D.ev (C k) k)
noncomputable def f (k : Nat) (p0 : y7) (p1 : (List Int)) : Option (Bool × Unit) := D.ev (C k) k (p0, p1, ())
theorem s (k : Nat) (p0 : y7) (p1 : (List Int)) : f k p0 p1 =
 (if (decide (((p1.length : Int)) > 1048576)) = true then
  some (true, ())
 else
  (laws_szSystem.f k p0 1048576).bind fun r1 =>
  if (decide (r1.1 < 0)) = true then
   some (true, ())
  else
   (laws_toSystem.f k p0).bind fun r2 =>
   (laws_toIntS.f k p1).bind fun r3 =>
   (spec_IsSymmetry.f k r2.1 r3.1).bind fun r4 =>
   (laws_toSystem.f k p0).bind fun r5 =>
   (laws_toIntS.f k p1).bind fun r6 =>
   (impl_IsSymmetry.f k r5.1 r6.1).bind fun r7 =>
   if (r7.1 != r4.1) = true then
    some (false, ())
   else
    (laws_toSystem.f k p0).bind fun r8 =>
    (laws_eqSystem.f k r5.1 r8.1).bind fun r9 =>
    if (!r9.1) = true then
     some (false, ())
    else
     (laws_toIntS.f k p1).bind fun r10 =>
     (laws_eqIntS.f k r6.1 r10.1).bind fun r11 =>
     if (!r11.1) = true then
      some (false, ())
     else
      some (true, ())) := by kernel_rfl
theorem ok (k : Nat) : Ok Tryz.prog 3 (sem k) := Fd.ok (cx_ok ⟨laws_szSystem.ok k, laws_toSystem.ok k, laws_toIntS.ok k, spec_IsSymmetry.ok k, impl_IsSymmetry.ok k, laws_eqSystem.ok k, laws_eqIntS.ok k, trivial⟩) ⟨Tryz.func3, rfl, by kernel_rfl⟩ rfl
attribute [irreducible] f
end laws_FnExactIsSymmetry
end Go.Ev
