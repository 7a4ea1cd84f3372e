/- What the functions of the program compute, as plain functions, with the proof that they do. -/
import Derived.Test.YtphlehimeekgoaaGreatEv4
import Derived.Test.YtphlehimeekgoaaGreatGiv
import Derived.Test.YtphlehimeekgoaaGreatProg
import Derived.KernelRfl
set_option maxRecDepth 100000
set_option linter.unusedVariables false
set_option autoImplicit false
noncomputable section
namespace Go.Ev
open Go.Proofs
abbrev y0 : Type := List (Int × (Int × Int))
abbrev h0 : S := .pair I (.pair I I)
abbrev h1 : S := .agg h0
abbrev h2 : S := .slice false h1
abbrev h3 : S := .pair I .unit
abbrev h4 : S := .pair h2 h3
abbrev y1 : Type := Int × (Int × (Int × Int))
abbrev y2 : Type := List y1
abbrev h5 : S := .pair I h0
abbrev h6 : S := .agg h5
abbrev h7 : S := .slice false h6
abbrev h8 : S := .pair h7 h3
abbrev h9 : S := .slice false I
abbrev h10 : S := .pair h9 h3
abbrev y3 : Type := List y2
abbrev h11 : S := .slice false h7
abbrev h12 : S := .pair h11 h3
abbrev y4 : Type := (List Int) × y3
abbrev y5 : Type := y2 × y4
abbrev h13 : S := .pair h9 h11
abbrev h14 : S := .pair h7 h13
abbrev h15 : S := .agg h14
abbrev h16 : S := .pair h15 h3
abbrev y6 : Type := List y5
abbrev h17 : S := .slice false h15
abbrev h18 : S := .pair h17 h3
abbrev y7 : Type := y0 × y6
abbrev h19 : S := .pair h2 h17
abbrev h20 : S := .agg h19
abbrev h21 : S := .pair h20 h3
abbrev h22 : S := .agg h9
abbrev h23 : S := .pair h22 h3
abbrev h24 : S := .pair h1 .unit
abbrev h25 : S := .pair h2 .unit
abbrev h26 : S := .pair h6 .unit
abbrev h27 : S := .pair h7 .unit
abbrev h28 : S := .pair h9 .unit
abbrev h29 : S := .pair h11 .unit
abbrev h30 : S := .pair h15 .unit
abbrev h31 : S := .pair h17 .unit
abbrev h32 : S := .pair h20 .unit
abbrev h33 : S := .pair h22 .unit
abbrev h34 : S := .pair I h3
abbrev h35 : S := .pair I h34
abbrev h36 : S := .pair h6 h10
abbrev h37 : S := .ptr h6
abbrev h38 : S := .pair h7 h34
abbrev h39 : S := .ptr h15
abbrev h40 : S := .ptr h20
abbrev h41 : S := .pair h20 h33
abbrev h42 : S := .ptr h22
abbrev h43 : S := .pair h22 h28
abbrev h44 : S := .pair h20 h43
abbrev h45 : S := .pair h9 h27
abbrev h46 : S := .pair h22 h45
abbrev h47 : S := .pair h20 h46
abbrev h48 : S := .pair .bool .unit
abbrev h49 : S := .pair h7 h28
abbrev h50 : S := .pair h20 h28
abbrev h51 : S := .pair h20 h10
abbrev h52 : S := .pair h9 h28
abbrev h53 : S := .slice false h9
abbrev h54 : S := .pair h53 h28
abbrev h55 : S := .slice false .bool
abbrev h56 : S := .pair h9 h10
abbrev h57 : S := .pair h55 .unit
abbrev h58 : S := .pair h53 h57
abbrev h59 : S := .pair h53 .unit
abbrev h60 : S := .pair h22 .bool
abbrev h61 : S := .pair h20 h27
abbrev h62 : S := .pair h20 h49
abbrev y8 : Type := (Int × (Int × Int)) → Option Bool
abbrev h63 : S := .func h1 .bool
abbrev h64 : S := .pair h63 .unit
abbrev h65 : S := .pair h2 h64
abbrev h66 : S := .slice true I
abbrev h67 : S := .pair h40 .unit
abbrev h68 : S := .pair h15 h67
abbrev y9 : Type := y5 → Option Bool
abbrev h69 : S := .func h15 .bool
abbrev h70 : S := .pair h69 .unit
abbrev h71 : S := .pair h17 h70
abbrev h72 : S := .pair h55 .bool
abbrev h73 : S := .pair h42 .unit
abbrev h74 : S := .pair I h73
abbrev h75 : S := .func I .bool
abbrev h76 : S := .pair h75 .unit
abbrev h77 : S := .pair h9 h76
abbrev h78 : S := .pair h9 .bool
abbrev y10 : Type := (List Int) × ((List Int) × Unit)
abbrev y11 : Type := y10 → Option Int
abbrev h79 : S := .pair I .bool
abbrev h80 : S := .func h52 I
abbrev h81 : S := .pair h80 .unit
abbrev h82 : S := .pair h9 h81
abbrev h83 : S := .pair h53 h82
abbrev h84 : S := .pair (.ptr I) .unit
abbrev h85 : S := .pair h42 h84
abbrev h86 : S := .pair I h85
abbrev h87 : S := .slice true h9
abbrev h88 : S := .pair .unit (.pair I I)
abbrev h89 : S := .agg h88
abbrev h90 : S := .ptr h55
abbrev h91 : S := .pair h90 .unit
abbrev h92 : S := .pair h42 h91
abbrev h93 : S := .pair I h92
abbrev y12 : Type := Int → Option (Unit × (Int × Int))
abbrev y13 : Type := (List ((Unit × (Int × Int)) × Int))
abbrev h94 : S := .func I h89
abbrev h95 : S := .pair h94 .unit
abbrev h96 : S := .pair I h95
abbrev h97 : S := .map h89 I
abbrev h98 : S := .pair h22 h57
abbrev h99 : S := .pair I h91
abbrev h100 : S := .pair h9 h57
abbrev h101 : S := .pair h22 h100
abbrev h102 : S := .pair h20 h101
abbrev h103 : S := .pair h22 h33
abbrev h104 : S := .pair h1 h24
abbrev h105 : S := .pair h2 h25
abbrev h106 : S := .pair h6 h26
abbrev h107 : S := .pair h7 h27
abbrev h108 : S := .pair h11 h29
abbrev h109 : S := .pair h15 h30
abbrev h110 : S := .pair h17 h31
abbrev h111 : S := .pair h20 h32
noncomputable def tys : List (Nat × S) := [(3, I), (4, .bool), (22, h2), (23, h17), (25, h20), (26, h9), (28, h22), (31, h53), (33, h2), (34, h17), (36, h20), (38, h22), (50, h7), (54, h7), (88, h6), (90, h6), (91, h55), (115, h11), (117, h15), (124, h1), (126, h1), (127, h11), (129, h15), (133, h75), (158, h63), (161, h69), (164, h89), (165, h94), (171, (.int .u64)), (181, h80), (184, h97)]
theorem tys_ok : tysB Tryz.prog tys = true := by kernel_rfl
theorem mix : Tryz.prog.follows .mixedOrders = true := by kernel_rfl
abbrev HD : Type := List (Nat × List (Nat × Option (S × M)))
noncomputable def cx (e : List (Nat × Sem)) (h : List ((Nat × Nat) × Nat)) (d : HD) (x : List Nat) (o : List (Nat × List Nat)) (i : List ((Nat × Nat) × List Nat)) (j : HD) : Ctx := mkC tys e (hintOf h) (headOf d) x (ordOf o) (hidOf i) (jnOf j)
theorem cx_ok {e : List (Nat × Sem)} {h : List ((Nat × Nat) × Nat)} {d : HD} {x : List Nat} {o : List (Nat × List Nat)} {i : List ((Nat × Nat) × List Nat)} {j : HD} (w : EnvOk Tryz.prog e) : CtxOk Tryz.prog (cx e h d x o i j) := mkC_ok tys_ok w mix
/-! loop.example/wholecheck/laws.szVarS -/
namespace laws_szVarS
noncomputable def D : Fd := ⟨Tryz.f47, 1, I, .sh, [.sh, .sh], .unit, h4⟩
noncomputable def C (k : Nat) : Ctx := cx [] [] [] [] [] [] []
noncomputable def sem (k : Nat) : Sem := D.sem (D.ev (C k) k)
noncomputable def f (k : Nat) (p0 : y0) (p1 : Int) : Option (Int × Unit) := D.ev (C k) k (p0, p1, ())
theorem s (k : Nat) (p0 : y0) (p1 : Int) : f k p0 p1 =
 (if (decide ((w64 (p1 - ((p0.length : Int)))) < 0)) = true then
  some ((-1), ())
 else
  some (w64 (p1 - ((p0.length : Int))), ())) := by kernel_rfl
theorem ok (k : Nat) : Ok Tryz.prog 47 (sem k) := Fd.ok (cx_ok trivial) ⟨Tryz.func47, rfl, by kernel_rfl⟩ rfl
attribute [irreducible] f
end laws_szVarS
/-! loop.example/wholecheck/laws.szTermS -/
namespace laws_szTermS
noncomputable def D : Fd := ⟨Tryz.f26, 1, I, .sh, [.sh, .sh], .unit, h8⟩
noncomputable def C (k : Nat) : Ctx := cx [] [] [] [] [] [] []
noncomputable def sem (k : Nat) : Sem := D.sem (D.ev (C k) k)
noncomputable def f (k : Nat) (p0 : y2) (p1 : Int) : Option (Int × Unit) := D.ev (C k) k (p0, p1, ())
theorem s (k : Nat) (p0 : y2) (p1 : Int) : f k p0 p1 =
 (if (decide ((w64 (p1 - ((p0.length : Int)))) < 0)) = true then
  some ((-1), ())
 else
  some (w64 (p1 - ((p0.length : Int))), ())) := by kernel_rfl
theorem ok (k : Nat) : Ok Tryz.prog 26 (sem k) := Fd.ok (cx_ok trivial) ⟨Tryz.func26, rfl, by kernel_rfl⟩ rfl
attribute [irreducible] f
end laws_szTermS
/-! loop.example/wholecheck/laws.szIntS -/
namespace laws_szIntS
noncomputable def D : Fd := ⟨Tryz.f49, 1, I, .sh, [.sh, .sh], .unit, h10⟩
noncomputable def C (k : Nat) : Ctx := cx [] [] [] [] [] [] []
noncomputable def sem (k : Nat) : Sem := D.sem (D.ev (C k) k)
noncomputable def f (k : Nat) (p0 : (List Int)) (p1 : Int) : Option (Int × Unit) := D.ev (C k) k (p0, p1, ())
theorem s (k : Nat) (p0 : (List Int)) (p1 : Int) : f k p0 p1 =
 (if (decide ((w64 (p1 - ((p0.length : Int)))) < 0)) = true then
  some ((-1), ())
 else
  some (w64 (p1 - ((p0.length : Int))), ())) := by kernel_rfl
theorem ok (k : Nat) : Ok Tryz.prog 49 (sem k) := Fd.ok (cx_ok trivial) ⟨Tryz.func49, rfl, by kernel_rfl⟩ rfl
attribute [irreducible] f
end laws_szIntS
/-! loop.example/wholecheck/laws.szTermSS -/
namespace laws_szTermSS
noncomputable def D : Fd := ⟨Tryz.f149, 1, I, .sh, [.sh, .sh], .unit, h12⟩
noncomputable def C (k : Nat) : Ctx := cx [(26, laws_szTermS.sem k)] [] [(5, [(0, none), (1, none), (5, none)])] [] [] [] []
noncomputable def sem (k : Nat) : Sem := D.sem (D.ev (C k) k)
noncomputable def f (k : Nat) (p0 : y3) (p1 : Int) : Option (Int × Unit) := D.ev (C k) k (p0, p1, ())
noncomputable def l5 (k : Nat) (p0 : y3) (n : Nat) (v1_5 v5_5 : Int) : Option (Int × Unit) :=
 D.lp (C k) k 5 [1, 1, 1, 0, 1, 0] [] n [(5, vI v5_5), (1, vI v1_5), (0, vS h11 p0)]
theorem s5 (k : Nat) (p0 : y3) (n : Nat) (v1_5 v5_5 : Int) : l5 k p0 (n + 1) v1_5 v5_5 =
 (if (decide (v5_5 < ((p0.length : Int)))) = true then
  gd ((0 : Int) ≤ v5_5) <| gd (v5_5 < (p0.length : Int)) <| (laws_szTermS.f k (p0.getD (v5_5.toNat) []) v1_5).bind fun r1 =>
  if (decide (r1.1 < 0)) = true then
   some ((-1), ())
  else
   l5 k p0 n r1.1 (w64 (v5_5 + 1))
 else
  some (v1_5, ())) := by kernel_rfl
theorem z5 (k : Nat) (p0 : y3) (v1_5 v5_5 : Int) : l5 k p0 0 v1_5 v5_5 = none := by kernel_rfl
theorem s (k : Nat) (p0 : y3) (p1 : Int) : f k p0 p1 =
 (if (decide ((w64 (p1 - ((p0.length : Int)))) < 0)) = true then
  some ((-1), ())
 else
  l5 k p0 k (w64 (p1 - ((p0.length : Int)))) 0) := by kernel_rfl
theorem ok (k : Nat) : Ok Tryz.prog 149 (sem k) := Fd.ok (cx_ok ⟨laws_szTermS.ok k, trivial⟩) ⟨Tryz.func149, rfl, by kernel_rfl⟩ rfl
attribute [irreducible] f l5
end laws_szTermSS
/-! loop.example/wholecheck/laws.szRule -/
namespace laws_szRule
noncomputable def D : Fd := ⟨Tryz.f95, 1, I, .sh, [.sh, .sh], .unit, h16⟩
noncomputable def C (k : Nat) : Ctx := cx [(26, laws_szTermS.sem k), (49, laws_szIntS.sem k), (149, laws_szTermSS.sem k)] [] [] [] [] [] []
noncomputable def sem (k : Nat) : Sem := D.sem (D.ev (C k) k)
noncomputable def f (k : Nat) (p0 : y5) (p1 : Int) : Option (Int × Unit) := D.ev (C k) k (p0, p1, ())
theorem s (k : Nat) (p0 : y5) (p1 : Int) : f k p0 p1 =
 ((laws_szTermS.f k p0.1 p1).bind fun r1 =>
 if (decide (r1.1 < 0)) = true then
  some ((-1), ())
 else
  (laws_szIntS.f k p0.2.1 r1.1).bind fun r2 =>
  if (decide (r2.1 < 0)) = true then
   some ((-1), ())
  else
   (laws_szTermSS.f k p0.2.2 r2.1).bind fun r3 =>
   if (decide (r3.1 < 0)) = true then
    some ((-1), ())
   else
    some (r3.1, ())) := by kernel_rfl
theorem ok (k : Nat) : Ok Tryz.prog 95 (sem k) := Fd.ok (cx_ok ⟨laws_szTermS.ok k, laws_szIntS.ok k, laws_szTermSS.ok k, trivial⟩) ⟨Tryz.func95, rfl, by kernel_rfl⟩ rfl
attribute [irreducible] f
end laws_szRule
/-! loop.example/wholecheck/laws.szRuleS -/
namespace laws_szRuleS
noncomputable def D : Fd := ⟨Tryz.f48, 1, I, .sh, [.sh, .sh], .unit, h18⟩
noncomputable def C (k : Nat) : Ctx := cx [(95, laws_szRule.sem k)] [] [(5, [(0, none), (1, none), (5, none)])] [] [] [] []
noncomputable def sem (k : Nat) : Sem := D.sem (D.ev (C k) k)
noncomputable def f (k : Nat) (p0 : y6) (p1 : Int) : Option (Int × Unit) := D.ev (C k) k (p0, p1, ())
noncomputable def l5 (k : Nat) (p0 : y6) (n : Nat) (v1_5 v5_5 : Int) : Option (Int × Unit) :=
 D.lp (C k) k 5 [1, 1, 1, 0, 1, 0] [] n [(5, vI v5_5), (1, vI v1_5), (0, vS h17 p0)]
theorem s5 (k : Nat) (p0 : y6) (n : Nat) (v1_5 v5_5 : Int) : l5 k p0 (n + 1) v1_5 v5_5 =
 (if (decide (v5_5 < ((p0.length : Int)))) = true then
  gd ((0 : Int) ≤ v5_5) <| gd (v5_5 < (p0.length : Int)) <| (laws_szRule.f k (p0.getD (v5_5.toNat) ([], ([], []))) v1_5).bind fun r1 =>
  if (decide (r1.1 < 0)) = true then
   some ((-1), ())
  else
   l5 k p0 n r1.1 (w64 (v5_5 + 1))
 else
  some (v1_5, ())) := by kernel_rfl
theorem z5 (k : Nat) (p0 : y6) (v1_5 v5_5 : Int) : l5 k p0 0 v1_5 v5_5 = none := by kernel_rfl
theorem s (k : Nat) (p0 : y6) (p1 : Int) : f k p0 p1 =
 (if (decide ((w64 (p1 - ((p0.length : Int)))) < 0)) = true then
  some ((-1), ())
 else
  l5 k p0 k (w64 (p1 - ((p0.length : Int)))) 0) := by kernel_rfl
theorem ok (k : Nat) : Ok Tryz.prog 48 (sem k) := Fd.ok (cx_ok ⟨laws_szRule.ok k, trivial⟩) ⟨Tryz.func48, rfl, by kernel_rfl⟩ rfl
attribute [irreducible] f l5
end laws_szRuleS
/-! loop.example/wholecheck/laws.szSystem -/
namespace laws_szSystem
noncomputable def D : Fd := ⟨Tryz.f10, 1, I, .sh, [.sh, .sh], .unit, h21⟩
noncomputable def C (k : Nat) : Ctx := cx [(47, laws_szVarS.sem k), (48, laws_szRuleS.sem k)] [] [] [] [] [] []
noncomputable def sem (k : Nat) : Sem := D.sem (D.ev (C k) k)
noncomputable def f (k : Nat) (p0 : y7) (p1 : Int) : Option (Int × Unit) := D.ev (C k) k (p0, p1, ())
theorem s (k : Nat) (p0 : y7) (p1 : Int) : f k p0 p1 =
 ((laws_szVarS.f k p0.1 p1).bind fun r1 =>
 if (decide (r1.1 < 0)) = true then
  some ((-1), ())
 else
  (laws_szRuleS.f k p0.2 r1.1).bind fun r2 =>
  if (decide (r2.1 < 0)) = true then
   some ((-1), ())
  else
   some (r2.1, ())) := by kernel_rfl
theorem ok (k : Nat) : Ok Tryz.prog 10 (sem k) := Fd.ok (cx_ok ⟨laws_szVarS.ok k, laws_szRuleS.ok k, trivial⟩) ⟨Tryz.func10, rfl, by kernel_rfl⟩ rfl
attribute [irreducible] f
end laws_szSystem
/-! loop.example/wholecheck/laws.szBlocks -/
namespace laws_szBlocks
noncomputable def D : Fd := ⟨Tryz.f11, 1, I, .sh, [.sh, .sh], .unit, h23⟩
noncomputable def C (k : Nat) : Ctx := cx [(49, laws_szIntS.sem k)] [] [] [] [] [] []
noncomputable def sem (k : Nat) : Sem := D.sem (D.ev (C k) k)
noncomputable def f (k : Nat) (p0 : (List Int)) (p1 : Int) : Option (Int × Unit) := D.ev (C k) k (p0, p1, ())
theorem s (k : Nat) (p0 : (List Int)) (p1 : Int) : f k p0 p1 =
 ((laws_szIntS.f k p0 p1).bind fun r1 =>
 if (decide (r1.1 < 0)) = true then
  some ((-1), ())
 else
  some (r1.1, ())) := by kernel_rfl
theorem ok (k : Nat) : Ok Tryz.prog 11 (sem k) := Fd.ok (cx_ok ⟨laws_szIntS.ok k, trivial⟩) ⟨Tryz.func11, rfl, by kernel_rfl⟩ rfl
attribute [irreducible] f
end laws_szBlocks
/-! loop.example/wholecheck/laws.toVar -/
namespace laws_toVar
noncomputable def D : Fd := ⟨Tryz.f103, 1, h1, .sh, [.sh], .unit, h24⟩
noncomputable def C (k : Nat) : Ctx := cx [] [] [] [] [] [] []
noncomputable def sem (k : Nat) : Sem := D.sem (D.ev (C k) k)
noncomputable def f (k : Nat) (p0 : (Int × (Int × Int))) : Option ((Int × (Int × Int)) × Unit) := D.ev (C k) k (p0, ())
theorem s (k : Nat) (p0 : (Int × (Int × Int))) : f k p0 =
 (some (p0, ())) := by kernel_rfl
theorem ok (k : Nat) : Ok Tryz.prog 103 (sem k) := Fd.ok (cx_ok trivial) ⟨Tryz.func103, rfl, by kernel_rfl⟩ rfl
attribute [irreducible] f
end laws_toVar
/-! loop.example/wholecheck/laws.toVarS -/
namespace laws_toVarS
noncomputable def D : Fd := ⟨Tryz.f53, 1, h2, (.ow (.ag (.pr .sh (.pr .sh .sh)))), [.sh], .unit, h25⟩
noncomputable def C (k : Nat) : Ctx := cx [(103, laws_toVar.sem k)] [] [(3, [(0, none), (3, some (h2, (.ow (.ag (.pr .sh (.pr .sh .sh)))))), (4, none)])] [] [] [] []
noncomputable def sem (k : Nat) : Sem := D.sem (D.ev (C k) k)
noncomputable def f (k : Nat) (p0 : y0) : Option (y0 × Unit) := D.ev (C k) k (p0, ())
noncomputable def l3 (k : Nat) (p0 : y0) (n : Nat) (v3_3 : y0) (v4_3 : Int) : Option (y0 × Unit) :=
 D.lp (C k) k 3 [1, 1, 0, 1, 0] [] n [(4, vI v4_3), (3, vO h2 v3_3), (0, vS h2 p0)]
theorem s3 (k : Nat) (p0 : y0) (n : Nat) (v3_3 : y0) (v4_3 : Int) : l3 k p0 (n + 1) v3_3 v4_3 =
 (if (decide (v4_3 < ((p0.length : Int)))) = true then
  gd ((0 : Int) ≤ v4_3) <| gd (v4_3 < (p0.length : Int)) <| (laws_toVar.f k (p0.getD (v4_3.toNat) (0, (0, 0)))).bind fun r1 =>
  gd ((0 : Int) ≤ v4_3) <| gd (v4_3 < (v3_3.length : Int)) <| l3 k p0 n (v3_3.set (v4_3.toNat) r1.1) (w64 (v4_3 + 1))
 else
  some (v3_3, ())) := by kernel_rfl
theorem z3 (k : Nat) (p0 : y0) (v3_3 : y0) (v4_3 : Int) : l3 k p0 0 v3_3 v4_3 = none := by kernel_rfl
theorem s (k : Nat) (p0 : y0) : f k p0 =
 (gd ((0 : Int) ≤ ((p0.length : Int))) <| gd ((((p0.length : Int)) : Int) ≤ 1099511627776) <| l3 k p0 k ((List.replicate ((p0.length : Int)).toNat (0, (0, 0)) : (List (Int × (Int × Int))))) 0) := by kernel_rfl
theorem ok (k : Nat) : Ok Tryz.prog 53 (sem k) := Fd.ok (cx_ok ⟨laws_toVar.ok k, trivial⟩) ⟨Tryz.func53, rfl, by kernel_rfl⟩ rfl
attribute [irreducible] f l3
end laws_toVarS
/-! loop.example/wholecheck/laws.toTerm -/
namespace laws_toTerm
noncomputable def D : Fd := ⟨Tryz.f66, 1, h6, .sh, [.sh], .unit, h26⟩
noncomputable def C (k : Nat) : Ctx := cx [] [] [] [] [] [] []
noncomputable def sem (k : Nat) : Sem := D.sem (D.ev (C k) k)
noncomputable def f (k : Nat) (p0 : y1) : Option (y1 × Unit) := D.ev (C k) k (p0, ())
theorem s (k : Nat) (p0 : y1) : f k p0 =
 (some (p0, ())) := by kernel_rfl
theorem ok (k : Nat) : Ok Tryz.prog 66 (sem k) := Fd.ok (cx_ok trivial) ⟨Tryz.func66, rfl, by kernel_rfl⟩ rfl
attribute [irreducible] f
end laws_toTerm
/-! loop.example/wholecheck/laws.toTermS -/
namespace laws_toTermS
noncomputable def D : Fd := ⟨Tryz.f28, 1, h7, (.ow (.ag (.pr .sh (.pr .sh (.pr .sh .sh))))), [.sh], .unit, h27⟩
noncomputable def C (k : Nat) : Ctx := cx [(66, laws_toTerm.sem k)] [] [(3, [(0, none), (3, some (h7, (.ow (.ag (.pr .sh (.pr .sh (.pr .sh .sh))))))), (4, none)])] [] [] [] []
noncomputable def sem (k : Nat) : Sem := D.sem (D.ev (C k) k)
noncomputable def f (k : Nat) (p0 : y2) : Option (y2 × Unit) := D.ev (C k) k (p0, ())
noncomputable def l3 (k : Nat) (p0 : y2) (n : Nat) (v3_3 : y2) (v4_3 : Int) : Option (y2 × Unit) :=
 D.lp (C k) k 3 [1, 1, 0, 1, 0] [] n [(4, vI v4_3), (3, vO h7 v3_3), (0, vS h7 p0)]
theorem s3 (k : Nat) (p0 : y2) (n : Nat) (v3_3 : y2) (v4_3 : Int) : l3 k p0 (n + 1) v3_3 v4_3 =
 (if (decide (v4_3 < ((p0.length : Int)))) = true then
  gd ((0 : Int) ≤ v4_3) <| gd (v4_3 < (p0.length : Int)) <| (laws_toTerm.f k (p0.getD (v4_3.toNat) (0, (0, (0, 0))))).bind fun r1 =>
  gd ((0 : Int) ≤ v4_3) <| gd (v4_3 < (v3_3.length : Int)) <| l3 k p0 n (v3_3.set (v4_3.toNat) r1.1) (w64 (v4_3 + 1))
 else
  some (v3_3, ())) := by kernel_rfl
theorem z3 (k : Nat) (p0 : y2) (v3_3 : y2) (v4_3 : Int) : l3 k p0 0 v3_3 v4_3 = none := by kernel_rfl
theorem s (k : Nat) (p0 : y2) : f k p0 =
 (gd ((0 : Int) ≤ ((p0.length : Int))) <| gd ((((p0.length : Int)) : Int) ≤ 1099511627776) <| l3 k p0 k ((List.replicate ((p0.length : Int)).toNat (0, (0, (0, 0))) : (List (Int × (Int × (Int × Int)))))) 0) := by kernel_rfl
theorem ok (k : Nat) : Ok Tryz.prog 28 (sem k) := Fd.ok (cx_ok ⟨laws_toTerm.ok k, trivial⟩) ⟨Tryz.func28, rfl, by kernel_rfl⟩ rfl
attribute [irreducible] f l3
end laws_toTermS
/-! loop.example/wholecheck/laws.toIntS -/
namespace laws_toIntS
noncomputable def D : Fd := ⟨Tryz.f15, 1, h9, (.ow .sh), [.sh], .unit, h28⟩
noncomputable def C (k : Nat) : Ctx := cx [] [] [(3, [(0, none), (3, none), (4, none)])] [] [] [] []
noncomputable def sem (k : Nat) : Sem := D.sem (D.ev (C k) k)
noncomputable def f (k : Nat) (p0 : (List Int)) : Option ((List Int) × Unit) := D.ev (C k) k (p0, ())
noncomputable def l3 (k : Nat) (p0 : (List Int)) (n : Nat) (v3_3 : (List Int)) (v4_3 : Int) : Option ((List Int) × Unit) :=
 D.lp (C k) k 3 [1, 1, 0, 1, 0] [] n [(4, vI v4_3), (3, vO h9 v3_3), (0, vS h9 p0)]
theorem s3 (k : Nat) (p0 : (List Int)) (n : Nat) (v3_3 : (List Int)) (v4_3 : Int) : l3 k p0 (n + 1) v3_3 v4_3 =
 (if (decide (v4_3 < ((p0.length : Int)))) = true then
  gd ((0 : Int) ≤ v4_3) <| gd (v4_3 < (p0.length : Int)) <| gd ((0 : Int) ≤ v4_3) <| gd (v4_3 < (v3_3.length : Int)) <| l3 k p0 n (v3_3.set (v4_3.toNat) (p0.getD (v4_3.toNat) 0)) (w64 (v4_3 + 1))
 else
  some (v3_3, ())) := by kernel_rfl
theorem z3 (k : Nat) (p0 : (List Int)) (v3_3 : (List Int)) (v4_3 : Int) : l3 k p0 0 v3_3 v4_3 = none := by kernel_rfl
theorem s (k : Nat) (p0 : (List Int)) : f k p0 =
 (gd ((0 : Int) ≤ ((p0.length : Int))) <| gd ((((p0.length : Int)) : Int) ≤ 1099511627776) <| l3 k p0 k ((List.replicate ((p0.length : Int)).toNat 0 : (List Int))) 0) := by kernel_rfl
theorem ok (k : Nat) : Ok Tryz.prog 15 (sem k) := Fd.ok (cx_ok trivial) ⟨Tryz.func15, rfl, by kernel_rfl⟩ rfl
attribute [irreducible] f l3
end laws_toIntS
/-! loop.example/wholecheck/laws.toTermSS -/
namespace laws_toTermSS
noncomputable def D : Fd := ⟨Tryz.f150, 1, h11, (.ow (.ow (.ag (.pr .sh (.pr .sh (.pr .sh .sh)))))), [.sh], .unit, h29⟩
noncomputable def C (k : Nat) : Ctx := cx [(28, laws_toTermS.sem k)] [] [(3, [(0, none), (3, none), (4, none)])] [] [] [] []
noncomputable def sem (k : Nat) : Sem := D.sem (D.ev (C k) k)
noncomputable def f (k : Nat) (p0 : y3) : Option (y3 × Unit) := D.ev (C k) k (p0, ())
noncomputable def l3 (k : Nat) (p0 : y3) (n : Nat) (v3_3 : y3) (v4_3 : Int) : Option (y3 × Unit) :=
 D.lp (C k) k 3 [1, 1, 0, 1, 0] [] n [(4, vI v4_3), (3, vO h11 v3_3), (0, vS h11 p0)]
theorem s3 (k : Nat) (p0 : y3) (n : Nat) (v3_3 : y3) (v4_3 : Int) : l3 k p0 (n + 1) v3_3 v4_3 =
 (if (decide (v4_3 < ((p0.length : Int)))) = true then
  gd ((0 : Int) ≤ v4_3) <| gd (v4_3 < (p0.length : Int)) <| (laws_toTermS.f k (p0.getD (v4_3.toNat) [])).bind fun r1 =>
  gd ((0 : Int) ≤ v4_3) <| gd (v4_3 < (v3_3.length : Int)) <| l3 k p0 n (v3_3.set (v4_3.toNat) r1.1) (w64 (v4_3 + 1))
 else
  some (v3_3, ())) := by kernel_rfl
theorem z3 (k : Nat) (p0 : y3) (v3_3 : y3) (v4_3 : Int) : l3 k p0 0 v3_3 v4_3 = none := by kernel_rfl
theorem s (k : Nat) (p0 : y3) : f k p0 =
 (gd ((0 : Int) ≤ ((p0.length : Int))) <| gd ((((p0.length : Int)) : Int) ≤ 1099511627776) <| l3 k p0 k ((List.replicate ((p0.length : Int)).toNat [] : (List (List (Int × (Int × (Int × Int))))))) 0) := by kernel_rfl
theorem ok (k : Nat) : Ok Tryz.prog 150 (sem k) := Fd.ok (cx_ok ⟨laws_toTermS.ok k, trivial⟩) ⟨Tryz.func150, rfl, by kernel_rfl⟩ rfl
attribute [irreducible] f l3
end laws_toTermSS
/-! loop.example/wholecheck/laws.toRule -/
namespace laws_toRule
noncomputable def D : Fd := ⟨Tryz.f104, 1, h15, (.ag (.pr (.ow (.ag (.pr .sh (.pr .sh (.pr .sh .sh))))) (.pr (.ow .sh) (.ow (.ow (.ag (.pr .sh (.pr .sh (.pr .sh .sh))))))))), [.sh], .unit, h30⟩
noncomputable def C (k : Nat) : Ctx := cx [(28, laws_toTermS.sem k), (15, laws_toIntS.sem k), (150, laws_toTermSS.sem k)] [] [] [] [] [] []
noncomputable def sem (k : Nat) : Sem := D.sem (D.ev (C k) k)
noncomputable def f (k : Nat) (p0 : y5) : Option (y5 × Unit) := D.ev (C k) k (p0, ())
theorem s (k : Nat) (p0 : y5) : f k p0 =
 ((laws_toTermS.f k p0.1).bind fun r1 =>
 (laws_toIntS.f k p0.2.1).bind fun r2 =>
 (laws_toTermSS.f k p0.2.2).bind fun r3 =>
 some ((r1.1, (r2.1, r3.1)), ())) := by kernel_rfl
theorem ok (k : Nat) : Ok Tryz.prog 104 (sem k) := Fd.ok (cx_ok ⟨laws_toTermS.ok k, laws_toIntS.ok k, laws_toTermSS.ok k, trivial⟩) ⟨Tryz.func104, rfl, by kernel_rfl⟩ rfl
attribute [irreducible] f
end laws_toRule
/-! loop.example/wholecheck/laws.toRuleS -/
namespace laws_toRuleS
noncomputable def D : Fd := ⟨Tryz.f54, 1, h17, (.ow (.ag (.pr (.ow (.ag (.pr .sh (.pr .sh (.pr .sh .sh))))) (.pr (.ow .sh) (.ow (.ow (.ag (.pr .sh (.pr .sh (.pr .sh .sh)))))))))), [.sh], .unit, h31⟩
noncomputable def C (k : Nat) : Ctx := cx [(104, laws_toRule.sem k)] [] [(3, [(0, none), (3, none), (4, none)])] [] [] [] []
noncomputable def sem (k : Nat) : Sem := D.sem (D.ev (C k) k)
noncomputable def f (k : Nat) (p0 : y6) : Option (y6 × Unit) := D.ev (C k) k (p0, ())
noncomputable def l3 (k : Nat) (p0 : y6) (n : Nat) (v3_3 : y6) (v4_3 : Int) : Option (y6 × Unit) :=
 D.lp (C k) k 3 [1, 1, 0, 1, 0] [] n [(4, vI v4_3), (3, vO h17 v3_3), (0, vS h17 p0)]
theorem s3 (k : Nat) (p0 : y6) (n : Nat) (v3_3 : y6) (v4_3 : Int) : l3 k p0 (n + 1) v3_3 v4_3 =
 (if (decide (v4_3 < ((p0.length : Int)))) = true then
  gd ((0 : Int) ≤ v4_3) <| gd (v4_3 < (p0.length : Int)) <| (laws_toRule.f k (p0.getD (v4_3.toNat) ([], ([], [])))).bind fun r1 =>
  gd ((0 : Int) ≤ v4_3) <| gd (v4_3 < (v3_3.length : Int)) <| l3 k p0 n (v3_3.set (v4_3.toNat) r1.1) (w64 (v4_3 + 1))
 else
  some (v3_3, ())) := by kernel_rfl
theorem z3 (k : Nat) (p0 : y6) (v3_3 : y6) (v4_3 : Int) : l3 k p0 0 v3_3 v4_3 = none := by kernel_rfl
theorem s (k : Nat) (p0 : y6) : f k p0 =
 (gd ((0 : Int) ≤ ((p0.length : Int))) <| gd ((((p0.length : Int)) : Int) ≤ 1099511627776) <| l3 k p0 k ((List.replicate ((p0.length : Int)).toNat ([], ([], [])) : (List ((List (Int × (Int × (Int × Int)))) × ((List Int) × (List (List (Int × (Int × (Int × Int)))))))))) 0) := by kernel_rfl
theorem ok (k : Nat) : Ok Tryz.prog 54 (sem k) := Fd.ok (cx_ok ⟨laws_toRule.ok k, trivial⟩) ⟨Tryz.func54, rfl, by kernel_rfl⟩ rfl
attribute [irreducible] f l3
end laws_toRuleS
/-! loop.example/wholecheck/laws.toSystem -/
namespace laws_toSystem
noncomputable def D : Fd := ⟨Tryz.f13, 1, h20, (.ag (.pr (.ow (.ag (.pr .sh (.pr .sh .sh)))) (.ow (.ag (.pr (.ow (.ag (.pr .sh (.pr .sh (.pr .sh .sh))))) (.pr (.ow .sh) (.ow (.ow (.ag (.pr .sh (.pr .sh (.pr .sh .sh)))))))))))), [.sh], .unit, h32⟩
noncomputable def C (k : Nat) : Ctx := cx [(53, laws_toVarS.sem k), (54, laws_toRuleS.sem k)] [] [] [] [] [] []
noncomputable def sem (k : Nat) : Sem := D.sem (D.ev (C k) k)
noncomputable def f (k : Nat) (p0 : y7) : Option (y7 × Unit) := D.ev (C k) k (p0, ())
theorem s (k : Nat) (p0 : y7) : f k p0 =
 ((laws_toVarS.f k p0.1).bind fun r1 =>
 (laws_toRuleS.f k p0.2).bind fun r2 =>
 some ((r1.1, r2.1), ())) := by kernel_rfl
theorem ok (k : Nat) : Ok Tryz.prog 13 (sem k) := Fd.ok (cx_ok ⟨laws_toVarS.ok k, laws_toRuleS.ok k, trivial⟩) ⟨Tryz.func13, rfl, by kernel_rfl⟩ rfl
attribute [irreducible] f
end laws_toSystem
/-! loop.example/wholecheck/laws.toBlocks -/
namespace laws_toBlocks
noncomputable def D : Fd := ⟨Tryz.f14, 1, h22, (.ag (.ow .sh)), [.sh], .unit, h33⟩
noncomputable def C (k : Nat) : Ctx := cx [(15, laws_toIntS.sem k)] [] [] [] [] [] []
noncomputable def sem (k : Nat) : Sem := D.sem (D.ev (C k) k)
noncomputable def f (k : Nat) (p0 : (List Int)) : Option ((List Int) × Unit) := D.ev (C k) k (p0, ())
theorem s (k : Nat) (p0 : (List Int)) : f k p0 =
 ((laws_toIntS.f k p0).bind fun r1 =>
 some (r1.1, ())) := by kernel_rfl
theorem ok (k : Nat) : Ok Tryz.prog 14 (sem k) := Fd.ok (cx_ok ⟨laws_toIntS.ok k, trivial⟩) ⟨Tryz.func14, rfl, by kernel_rfl⟩ rfl
attribute [irreducible] f
end laws_toBlocks
/-! loop.example/wholecheck/spec.l1In -/
namespace spec_l1In
noncomputable def D : Fd := ⟨Tryz.f96, 1, .bool, .sh, [.sh, .sh, .sh], .unit, h35⟩
noncomputable def C (k : Nat) : Ctx := cx [] [] [] [] [] [] []
noncomputable def sem (k : Nat) : Sem := D.sem (D.ev (C k) k)
noncomputable def f (k : Nat) (p0 p1 p2 : Int) : Option (Bool × Unit) := D.ev (C k) k (p0, p1, p2, ())
theorem s (k : Nat) (p0 p1 p2 : Int) : f k p0 p1 p2 =
 (if (decide (p0 ≥ p1)) = true then
  some (decide (p0 ≤ p2), ())
 else
  some (false, ())) := by kernel_rfl
theorem ok (k : Nat) : Ok Tryz.prog 96 (sem k) := Fd.ok (cx_ok trivial) ⟨Tryz.func96, rfl, by kernel_rfl⟩ rfl
attribute [irreducible] f
end spec_l1In
/-! loop.example/wholecheck/spec.l2Var -/
namespace spec_l2Var
noncomputable def D : Fd := ⟨Tryz.f176, 1, .bool, .sh, [.sh], .unit, h24⟩
noncomputable def C (k : Nat) : Ctx := cx [(96, spec_l1In.sem k)] [] [] [] [] [] []
noncomputable def sem (k : Nat) : Sem := D.sem (D.ev (C k) k)
noncomputable def f (k : Nat) (p0 : (Int × (Int × Int))) : Option (Bool × Unit) := D.ev (C k) k (p0, ())
theorem s (k : Nat) (p0 : (Int × (Int × Int))) : f k p0 =
 ((spec_l1In.f k p0.1 (-9999) 9999).bind fun r1 =>
 if r1.1 = true then
  (spec_l1In.f k p0.2.1 p0.1 9999).bind fun r2 =>
  if r2.1 = true then
   if (decide ((w64 (p0.2.1 - p0.1)) < 20)) = true then
    (spec_l1In.f k p0.2.2 p0.1 p0.2.1).bind fun r3 =>
    some (r3.1, ())
   else
    some (false, ())
  else
   some (false, ())
 else
  some (false, ())) := by kernel_rfl
theorem ok (k : Nat) : Ok Tryz.prog 176 (sem k) := Fd.ok (cx_ok ⟨spec_l1In.ok k, trivial⟩) ⟨Tryz.func176, rfl, by kernel_rfl⟩ rfl
attribute [irreducible] f
end spec_l2Var
/-! loop.example/wholecheck/spec.l1One -/
namespace spec_l1One
noncomputable def D : Fd := ⟨Tryz.f203, 1, .bool, .sh, [.sh], .unit, h3⟩
noncomputable def C (k : Nat) : Ctx := cx [] [] [] [] [] [] []
noncomputable def sem (k : Nat) : Sem := D.sem (D.ev (C k) k)
noncomputable def f (k : Nat) (p0 : Int) : Option (Bool × Unit) := D.ev (C k) k (p0, ())
theorem s (k : Nat) (p0 : Int) : f k p0 =
 (some (p0 == 7, ())) := by kernel_rfl
theorem ok (k : Nat) : Ok Tryz.prog 203 (sem k) := Fd.ok (cx_ok trivial) ⟨Tryz.func203, rfl, by kernel_rfl⟩ rfl
attribute [irreducible] f
end spec_l1One
/-! loop.example/wholecheck/spec.l1Kind -/
namespace spec_l1Kind
noncomputable def D : Fd := ⟨Tryz.f174, 1, I, .sh, [.sh, .sh, .sh], .unit, h36⟩
noncomputable def C (k : Nat) : Ctx := cx [(96, spec_l1In.sem k), (203, spec_l1One.sem k)] [] [] [] [] [] [(3, [(1, none), (2, none), (3, none)]), (5, [(1, none), (3, none)]), (10, [(1, none), (3, none), (7, none)])]
noncomputable def sem (k : Nat) : Sem := D.sem (D.ev (C k) k)
noncomputable def f (k : Nat) (p0 : y1) (p1 : (List Int)) (p2 : Int) : Option (Int × Unit) := D.ev (C k) k (p0, p1, p2, ())
noncomputable def lj3 (k : Nat) (p0 : y1) (p1 : (List Int)) (p2 : Int) (n : Nat) : Option (Int × Unit) :=
 D.jn (C k) k 3 [1] [] n [(3, .val h37 (.ow .sh) p0), (2, vI p2), (1, vS h9 p1)]
noncomputable def lj5 (k : Nat) (p0 : y1) (p1 : (List Int)) (n : Nat) : Option (Int × Unit) :=
 D.jn (C k) k 5 [1, 1] [] n [(3, .val h37 (.ow .sh) p0), (1, vS h9 p1)]
noncomputable def lj10 (k : Nat) (p0 : y1) (p1 : (List Int)) (n : Nat) (v7_j10 : Int) : Option (Int × Unit) :=
 D.jn (C k) k 10 [1, 1, 1, 1, 1] [] n [(7, vI v7_j10), (3, .val h37 (.ow .sh) p0), (1, vS h9 p1)]
theorem sj10 (k : Nat) (p0 : y1) (p1 : (List Int)) (n : Nat) (v7_j10 : Int) : lj10 k p0 p1 (n + 1) v7_j10 =
 (gd ((0 : Int) ≤ p0.2.2.1) <| gd (p0.2.2.1 < (p1.length : Int)) <| if ((p1.getD (p0.2.2.1.toNat) 0) != v7_j10) = true then
  some (0, ())
 else
  gd ((0 : Int) ≤ p0.2.2.2) <| gd (p0.2.2.2 < (p1.length : Int)) <| if ((p1.getD (p0.2.2.2.toNat) 0) != v7_j10) = true then
   some (0, ())
  else
   (spec_l1One.f k p0.1).bind fun r6 =>
   if r6.1 = true then
    if (p0.2.2.2 != p0.2.2.1) = true then
     some (0, ())
    else
     if (decide (p0.1 ≥ 5)) = true then
      some (2, ())
     else
      some (1, ())
   else
    if (decide (p0.1 ≥ 5)) = true then
     some (2, ())
    else
     some (1, ())) := by kernel_rfl
theorem zj10 (k : Nat) (p0 : y1) (p1 : (List Int)) (v7_j10 : Int) : lj10 k p0 p1 0 v7_j10 = none := by kernel_rfl
theorem sj5 (k : Nat) (p0 : y1) (p1 : (List Int)) (n : Nat) : lj5 k p0 p1 (n + 1) =
 ((spec_l1In.f k p0.1 2 9).bind fun r3 =>
 if (!r3.1) = true then
  some (0, ())
 else
  if (p0.2.1 != 0) = true then
   some (0, ())
  else
   (spec_l1In.f k p0.2.2.1 0 (w64 (((p1.length : Int)) - 1))).bind fun r4 =>
   if (!r4.1) = true then
    some (0, ())
   else
    (spec_l1In.f k p0.2.2.2 0 (w64 (((p1.length : Int)) - 1))).bind fun r5 =>
    if (!r5.1) = true then
     some (0, ())
    else
     if (decide (p0.1 ≥ 7)) = true then
      lj10 k p0 p1 k 2
     else
      lj10 k p0 p1 k 1) := by kernel_rfl
theorem zj5 (k : Nat) (p0 : y1) (p1 : (List Int)) : lj5 k p0 p1 0 = none := by kernel_rfl
theorem sj3 (k : Nat) (p0 : y1) (p1 : (List Int)) (p2 : Int) (n : Nat) : lj3 k p0 p1 p2 (n + 1) =
 (if (p0.1 == 1) = true then
  (spec_l1In.f k p0.2.1 0 (w64 (p2 - 1))).bind fun r2 =>
  if r2.1 = true then
   if (p0.2.2.1 == 0) = true then
    if (p0.2.2.2 == 0) = true then
     some (1, ())
    else
     lj5 k p0 p1 k
   else
    lj5 k p0 p1 k
  else
   lj5 k p0 p1 k
 else
  lj5 k p0 p1 k) := by kernel_rfl
theorem zj3 (k : Nat) (p0 : y1) (p1 : (List Int)) (p2 : Int) : lj3 k p0 p1 p2 0 = none := by kernel_rfl
theorem s (k : Nat) (p0 : y1) (p1 : (List Int)) (p2 : Int) : f k p0 p1 p2 =
 (if (p0.1 == 0) = true then
  (spec_l1In.f k p0.2.1 (-9999) 9999).bind fun r1 =>
  if r1.1 = true then
   if (p0.2.2.1 == 0) = true then
    if (p0.2.2.2 == 0) = true then
     some (1, ())
    else
     lj3 k p0 p1 p2 k
   else
    lj3 k p0 p1 p2 k
  else
   lj3 k p0 p1 p2 k
 else
  lj3 k p0 p1 p2 k) := by kernel_rfl
theorem ok (k : Nat) : Ok Tryz.prog 174 (sem k) := Fd.ok (cx_ok ⟨spec_l1In.ok k, spec_l1One.ok k, trivial⟩) ⟨Tryz.func174, rfl, by kernel_rfl⟩ rfl
attribute [irreducible] f lj3 lj5 lj10
end spec_l1Kind
/-! loop.example/wholecheck/spec.KindsOf -/
namespace spec_KindsOf
noncomputable def D : Fd := ⟨Tryz.f140, 1, h9, (.ow .sh), [.sh, .sh], .unit, h8⟩
noncomputable def C (k : Nat) : Ctx := cx [(96, spec_l1In.sem k), (174, spec_l1Kind.sem k)] [] [(5, [(0, none), (1, none), (5, none), (6, none)])] [] [] [] []
noncomputable def sem (k : Nat) : Sem := D.sem (D.ev (C k) k)
noncomputable def f (k : Nat) (p0 : y2) (p1 : Int) : Option ((List Int) × Unit) := D.ev (C k) k (p0, p1, ())
noncomputable def l5 (k : Nat) (p0 : y2) (p1 : Int) (n : Nat) (v5_5 : (List Int)) (v6_5 : Int) : Option ((List Int) × Unit) :=
 D.lp (C k) k 5 [1, 1, 1, 0, 1, 0] [] n [(6, vI v6_5), (5, vO h9 v5_5), (1, vI p1), (0, vS h7 p0)]
theorem s5 (k : Nat) (p0 : y2) (p1 : Int) (n : Nat) (v5_5 : (List Int)) (v6_5 : Int) : l5 k p0 p1 (n + 1) v5_5 v6_5 =
 (if (decide (v6_5 < ((p0.length : Int)))) = true then
  gd ((0 : Int) ≤ v6_5) <| gd (v6_5 < (p0.length : Int)) <| (spec_l1Kind.f k (p0.getD (v6_5.toNat) (0, (0, (0, 0)))) v5_5 p1).bind fun r3 =>
  if (r3.1 == 0) = true then
   some ([], ())
  else
   gd ((v5_5.length : Int) + ([r3.1].length : Int) ≤ 1099511627776) <| l5 k p0 p1 n (v5_5 ++ [r3.1]) (w64 (v6_5 + 1))
 else
  some (v5_5, ())) := by kernel_rfl
theorem z5 (k : Nat) (p0 : y2) (p1 : Int) (v5_5 : (List Int)) (v6_5 : Int) : l5 k p0 p1 0 v5_5 v6_5 = none := by kernel_rfl
theorem s (k : Nat) (p0 : y2) (p1 : Int) : f k p0 p1 =
 ((spec_l1In.f k p1 0 5).bind fun r1 =>
 if (!r1.1) = true then
  some ([], ())
 else
  (spec_l1In.f k ((p0.length : Int)) 1 40).bind fun r2 =>
  if (!r2.1) = true then
   some ([], ())
  else
   l5 k p0 p1 k [] 0) := by kernel_rfl
theorem ok (k : Nat) : Ok Tryz.prog 140 (sem k) := Fd.ok (cx_ok ⟨spec_l1In.ok k, spec_l1Kind.ok k, trivial⟩) ⟨Tryz.func140, rfl, by kernel_rfl⟩ rfl
attribute [irreducible] f l5
end spec_KindsOf
/-! loop.example/wholecheck/spec.l2Is -/
namespace spec_l2Is
noncomputable def D : Fd := ⟨Tryz.f80, 1, .bool, .sh, [.sh, .sh, .sh], .unit, h38⟩
noncomputable def C (k : Nat) : Ctx := cx [(140, spec_KindsOf.sem k)] [] [] [] [] [] []
noncomputable def sem (k : Nat) : Sem := D.sem (D.ev (C k) k)
noncomputable def f (k : Nat) (p0 : y2) (p1 p2 : Int) : Option (Bool × Unit) := D.ev (C k) k (p0, p1, p2, ())
theorem s (k : Nat) (p0 : y2) (p1 p2 : Int) : f k p0 p1 p2 =
 ((spec_KindsOf.f k p0 p1).bind fun r1 =>
 if (decide (((r1.1.length : Int)) > 0)) = true then
  gd ((0 : Int) ≤ (w64 (((r1.1.length : Int)) - 1))) <| gd ((w64 (((r1.1.length : Int)) - 1)) < (r1.1.length : Int)) <| some ((r1.1.getD ((w64 (((r1.1.length : Int)) - 1)).toNat) 0) == p2, ())
 else
  some (false, ())) := by kernel_rfl
theorem ok (k : Nat) : Ok Tryz.prog 80 (sem k) := Fd.ok (cx_ok ⟨spec_KindsOf.ok k, trivial⟩) ⟨Tryz.func80, rfl, by kernel_rfl⟩ rfl
attribute [irreducible] f
end spec_l2Is
/-! loop.example/wholecheck/spec.l2Rule -/
namespace spec_l2Rule
noncomputable def D : Fd := ⟨Tryz.f177, 1, .bool, .sh, [.sh, .sh], .unit, h16⟩
noncomputable def C (k : Nat) : Ctx := cx [(80, spec_l2Is.sem k), (96, spec_l1In.sem k)] [] [(4, [(1, none), (2, none), (5, none)])] [] [(6, [0, 1, 2, 3, 4, 5, 6, 7, 8, 9, 10, 11, 12, 13, 14, 15, 16, 17, 18, 19, 20, 21, 22, 23, 24, 25, 26, 27, 28, 29, 30, 31, 32, 33, 34, 35, 36])] [] []
noncomputable def sem (k : Nat) : Sem := D.sem (D.ev (C k) k)
noncomputable def f (k : Nat) (p0 : y5) (p1 : Int) : Option (Bool × Unit) := D.ev (C k) k (p0, p1, ())
noncomputable def l4 (k : Nat) (p0 : y5) (p1 : Int) (n : Nat) (v5_4 : Int) : Option (Bool × Unit) :=
 D.lp (C k) k 4 [1, 1, 0, 1, 0] [] n [(5, vI v5_4), (2, .val h39 (.ow .sh) p0), (1, vI p1)]
theorem s4 (k : Nat) (p0 : y5) (p1 : Int) (n : Nat) (v5_4 : Int) : l4 k p0 p1 (n + 1) v5_4 =
 (if (decide (v5_4 < ((p0.2.1.length : Int)))) = true then
  gd ((0 : Int) ≤ v5_4) <| gd (v5_4 < (p0.2.1.length : Int)) <| (spec_l1In.f k (p0.2.1.getD (v5_4.toNat) 0) 0 (w64 (p1 - 1))).bind fun r2 =>
  if (!r2.1) = true then
   some (false, ())
  else
   if (decide (v5_4 > 0)) = true then
    gd ((0 : Int) ≤ v5_4) <| gd (v5_4 < (p0.2.1.length : Int)) <| gd ((0 : Int) ≤ (w64 (v5_4 - 1))) <| gd ((w64 (v5_4 - 1)) < (p0.2.1.length : Int)) <| if (decide ((p0.2.1.getD (v5_4.toNat) 0) ≤ (p0.2.1.getD ((w64 (v5_4 - 1)).toNat) 0))) = true then
     some (false, ())
    else
     gd ((0 : Int) ≤ v5_4) <| gd (v5_4 < (p0.2.2.length : Int)) <| (spec_l2Is.f k (p0.2.2.getD (v5_4.toNat) []) p1 1).bind fun r3 =>
     if (!r3.1) = true then
      some (false, ())
     else
      l4 k p0 p1 n (w64 (v5_4 + 1))
   else
    gd ((0 : Int) ≤ v5_4) <| gd (v5_4 < (p0.2.2.length : Int)) <| (spec_l2Is.f k (p0.2.2.getD (v5_4.toNat) []) p1 1).bind fun r4 =>
    if (!r4.1) = true then
     some (false, ())
    else
     l4 k p0 p1 n (w64 (v5_4 + 1))
 else
  some (true, ())) := by kernel_rfl
theorem z4 (k : Nat) (p0 : y5) (p1 : Int) (v5_4 : Int) : l4 k p0 p1 0 v5_4 = none := by kernel_rfl
theorem s (k : Nat) (p0 : y5) (p1 : Int) : f k p0 p1 =
 ((spec_l2Is.f k p0.1 p1 2).bind fun r1 =>
 if (!r1.1) = true then
  some (false, ())
 else
  if (((p0.2.1.length : Int)) != ((p0.2.2.length : Int))) = true then
   some (false, ())
  else
   if (decide (((p0.2.1.length : Int)) > p1)) = true then
    some (false, ())
   else
    l4 k p0 p1 k 0) := by kernel_rfl
theorem ok (k : Nat) : Ok Tryz.prog 177 (sem k) := Fd.ok (cx_ok ⟨spec_l2Is.ok k, spec_l1In.ok k, trivial⟩) ⟨Tryz.func177, rfl, by kernel_rfl⟩ rfl
attribute [irreducible] f l4
end spec_l2Rule
/-! loop.example/wholecheck/spec.SystemValid -/
namespace spec_SystemValid
noncomputable def D : Fd := ⟨Tryz.f142, 1, .bool, .sh, [.sh], .unit, h32⟩
noncomputable def C (k : Nat) : Ctx := cx [(96, spec_l1In.sem k), (176, spec_l2Var.sem k), (177, spec_l2Rule.sem k)] [((9, 16), 3)] [(5, [(1, none), (3, none), (4, none)]), (11, [(1, none), (3, none), (5, none)])] [] [(9, [0, 1, 2, 3, 4, 5, 6, 7, 8, 9, 10, 11, 12, 13, 14, 15, 16]), (13, [0, 1, 2, 3, 4, 5, 6, 7, 8, 9])] [] []
noncomputable def sem (k : Nat) : Sem := D.sem (D.ev (C k) k)
noncomputable def f (k : Nat) (p0 : y7) : Option (Bool × Unit) := D.ev (C k) k (p0, ())
noncomputable def l5 (k : Nat) (p0 : y7) (n : Nat) (v3_5 v4_5 : Int) : Option (Bool × Unit) :=
 D.lp (C k) k 5 [1, 1, 1, 0, 1, 0] [] n [(4, vI v4_5), (3, vI v3_5), (1, .val h40 (.ow .sh) p0)]
noncomputable def l11 (k : Nat) (p0 : y7) (v3_5 : Int) (n : Nat) (v5_11 : Int) : Option (Bool × Unit) :=
 D.lp (C k) k 11 [1, 1, 1, 1, 0, 1, 0] [] n [(5, vI v5_11), (3, vI v3_5), (1, .val h40 (.ow .sh) p0)]
theorem s11 (k : Nat) (p0 : y7) (v3_5 : Int) (n : Nat) (v5_11 : Int) : l11 k p0 v3_5 (n + 1) v5_11 =
 (if (decide (v5_11 < ((p0.2.length : Int)))) = true then
  gd ((0 : Int) ≤ v5_11) <| gd (v5_11 < (p0.2.length : Int)) <| (spec_l2Rule.f k (p0.2.getD (v5_11.toNat) ([], ([], []))) ((p0.1.length : Int))).bind fun r3 =>
  if (!r3.1) = true then
   some (false, ())
  else
   l11 k p0 v3_5 n (w64 (v5_11 + 1))
 else
  some (decide (v3_5 ≤ 400), ())) := by kernel_rfl
theorem z11 (k : Nat) (p0 : y7) (v3_5 : Int) (v5_11 : Int) : l11 k p0 v3_5 0 v5_11 = none := by kernel_rfl
theorem s5 (k : Nat) (p0 : y7) (n : Nat) (v3_5 v4_5 : Int) : l5 k p0 (n + 1) v3_5 v4_5 =
 (if (decide (v4_5 < ((p0.1.length : Int)))) = true then
  gd ((0 : Int) ≤ v4_5) <| gd (v4_5 < (p0.1.length : Int)) <| (spec_l2Var.f k (p0.1.getD (v4_5.toNat) (0, (0, 0)))).bind fun r2 =>
  if (!r2.1) = true then
   some (false, ())
  else
   gd ((0 : Int) ≤ v4_5) <| gd (v4_5 < (p0.1.length : Int)) <| gd ((0 : Int) ≤ v4_5) <| gd (v4_5 < (p0.1.length : Int)) <| l5 k p0 n (w64 (v3_5 * (w64 ((w64 ((p0.1.getD (v4_5.toNat) (0, (0, 0))).2.1 - (p0.1.getD (v4_5.toNat) (0, (0, 0))).1)) + 1)))) (w64 (v4_5 + 1))
 else
  l11 k p0 v3_5 k 0) := by kernel_rfl
theorem z5 (k : Nat) (p0 : y7) (v3_5 v4_5 : Int) : l5 k p0 0 v3_5 v4_5 = none := by kernel_rfl
theorem s (k : Nat) (p0 : y7) : f k p0 =
 ((spec_l1In.f k ((p0.1.length : Int)) 1 5).bind fun r1 =>
 if (!r1.1) = true then
  some (false, ())
 else
  if (decide (((p0.2.length : Int)) > 8)) = true then
   some (false, ())
  else
   l5 k p0 k 1 0) := by kernel_rfl
theorem ok (k : Nat) : Ok Tryz.prog 142 (sem k) := Fd.ok (cx_ok ⟨spec_l1In.ok k, spec_l2Var.ok k, spec_l2Rule.ok k, trivial⟩) ⟨Tryz.func142, rfl, by kernel_rfl⟩ rfl
attribute [irreducible] f l5 l11
end spec_SystemValid
/-! loop.example/wholecheck/spec.SizeOf -/
namespace spec_SizeOf
noncomputable def D : Fd := ⟨Tryz.f127, 1, I, .sh, [.sh], .unit, h32⟩
noncomputable def C (k : Nat) : Ctx := cx [(142, spec_SystemValid.sem k)] [((7, 16), 3)] [(5, [(1, none), (3, none), (4, none)])] [] [(7, [0, 1, 2, 3, 4, 5, 6, 7, 8, 9, 10, 11, 12, 13, 14, 15, 16])] [] []
noncomputable def sem (k : Nat) : Sem := D.sem (D.ev (C k) k)
noncomputable def f (k : Nat) (p0 : y7) : Option (Int × Unit) := D.ev (C k) k (p0, ())
noncomputable def l5 (k : Nat) (p0 : y7) (n : Nat) (v3_5 v4_5 : Int) : Option (Int × Unit) :=
 D.lp (C k) k 5 [1, 1, 1, 0, 1, 0] [] n [(4, vI v4_5), (3, vI v3_5), (1, .val h40 (.ow .sh) p0)]
theorem s5 (k : Nat) (p0 : y7) (n : Nat) (v3_5 v4_5 : Int) : l5 k p0 (n + 1) v3_5 v4_5 =
 (if (decide (v4_5 < ((p0.1.length : Int)))) = true then
  gd ((0 : Int) ≤ v4_5) <| gd (v4_5 < (p0.1.length : Int)) <| gd ((0 : Int) ≤ v4_5) <| gd (v4_5 < (p0.1.length : Int)) <| l5 k p0 n (w64 (v3_5 * (w64 ((w64 ((p0.1.getD (v4_5.toNat) (0, (0, 0))).2.1 - (p0.1.getD (v4_5.toNat) (0, (0, 0))).1)) + 1)))) (w64 (v4_5 + 1))
 else
  some (v3_5, ())) := by kernel_rfl
theorem z5 (k : Nat) (p0 : y7) (v3_5 v4_5 : Int) : l5 k p0 0 v3_5 v4_5 = none := by kernel_rfl
theorem s (k : Nat) (p0 : y7) : f k p0 =
 ((spec_SystemValid.f k p0).bind fun r1 =>
 if (!r1.1) = true then
  some (0, ())
 else
  l5 k p0 k 1 0) := by kernel_rfl
theorem ok (k : Nat) : Ok Tryz.prog 127 (sem k) := Fd.ok (cx_ok ⟨spec_SystemValid.ok k, trivial⟩) ⟨Tryz.func127, rfl, by kernel_rfl⟩ rfl
attribute [irreducible] f l5
end spec_SizeOf
/-! loop.example/wholecheck/spec.BlocksValid -/
namespace spec_BlocksValid
noncomputable def D : Fd := ⟨Tryz.f76, 1, .bool, .sh, [.sh, .sh], .unit, h41⟩
noncomputable def C (k : Nat) : Ctx := cx [(127, spec_SizeOf.sem k), (96, spec_l1In.sem k)] [] [(4, [(3, none), (5, none)])] [] [(1, [0, 1, 2, 3, 4, 5, 6, 7, 8, 9, 10, 11]), (6, [0, 1, 2, 3, 4, 5, 6, 7, 8, 9, 10, 11, 12, 13, 14, 15, 16, 17, 18, 19, 20, 21, 22, 23, 24])] [((1, 4), [3])] []
noncomputable def sem (k : Nat) : Sem := D.sem (D.ev (C k) k)
noncomputable def f (k : Nat) (p0 : y7) (p1 : (List Int)) : Option (Bool × Unit) := D.ev (C k) k (p0, p1, ())
noncomputable def l4 (k : Nat) (p1 : (List Int)) (n : Nat) (v5_4 : Int) : Option (Bool × Unit) :=
 D.lp (C k) k 4 [1, 1, 0, 1, 0] [] n [(5, vI v5_4), (3, .val h42 (.ow .sh) p1)]
theorem s4 (k : Nat) (p1 : (List Int)) (n : Nat) (v5_4 : Int) : l4 k p1 (n + 1) v5_4 =
 (if (decide (v5_4 < ((p1.length : Int)))) = true then
  gd ((0 : Int) ≤ v5_4) <| gd (v5_4 < (p1.length : Int)) <| (spec_l1In.f k (p1.getD (v5_4.toNat) 0) 0 v5_4).bind fun r2 =>
  if (!r2.1) = true then
   some (false, ())
  else
   gd ((0 : Int) ≤ v5_4) <| gd (v5_4 < (p1.length : Int)) <| gd ((0 : Int) ≤ (p1.getD (v5_4.toNat) 0)) <| gd ((p1.getD (v5_4.toNat) 0) < (p1.length : Int)) <| gd ((0 : Int) ≤ v5_4) <| gd (v5_4 < (p1.length : Int)) <| if ((p1.getD ((p1.getD (v5_4.toNat) 0).toNat) 0) != (p1.getD (v5_4.toNat) 0)) = true then
    some (false, ())
   else
    l4 k p1 n (w64 (v5_4 + 1))
 else
  some (true, ())) := by kernel_rfl
theorem z4 (k : Nat) (p1 : (List Int)) (v5_4 : Int) : l4 k p1 0 v5_4 = none := by kernel_rfl
theorem s (k : Nat) (p0 : y7) (p1 : (List Int)) : f k p0 p1 =
 ((spec_SizeOf.f k p0).bind fun r1 =>
 if (((p1.length : Int)) != r1.1) = true then
  some (false, ())
 else
  if (((p1.length : Int)) == 0) = true then
   some (false, ())
  else
   l4 k p1 k 0) := by kernel_rfl
theorem ok (k : Nat) : Ok Tryz.prog 76 (sem k) := Fd.ok (cx_ok ⟨spec_SizeOf.ok k, spec_l1In.ok k, trivial⟩) ⟨Tryz.func76, rfl, by kernel_rfl⟩ rfl
attribute [irreducible] f l4
end spec_BlocksValid
/-! loop.example/wholecheck/spec.l29Way -/
namespace spec_l29Way
noncomputable def D : Fd := ⟨Tryz.f50, 1, .bool, .sh, [.sh, .sh, .sh], .unit, h44⟩
noncomputable def C (k : Nat) : Ctx := cx [(76, spec_BlocksValid.sem k), (96, spec_l1In.sem k)] [] [(4, [(2, none), (4, none), (7, none)])] [] [(6, [0, 1, 2, 3, 4, 5, 6, 7, 8, 9, 10, 11, 12, 13, 14, 15, 16, 17, 18, 19, 20, 21, 22, 23, 24])] [] []
noncomputable def sem (k : Nat) : Sem := D.sem (D.ev (C k) k)
noncomputable def f (k : Nat) (p0 : y7) (p1 p2 : (List Int)) : Option (Bool × Unit) := D.ev (C k) k (p0, p1, p2, ())
noncomputable def l4 (k : Nat) (p1 p2 : (List Int)) (n : Nat) (v7_4 : Int) : Option (Bool × Unit) :=
 D.lp (C k) k 4 [1, 1, 0, 1, 0] [] n [(7, vI v7_4), (4, .val h42 (.ow .sh) p1), (2, vS h9 p2)]
theorem s4 (k : Nat) (p1 p2 : (List Int)) (n : Nat) (v7_4 : Int) : l4 k p1 p2 (n + 1) v7_4 =
 (if (decide (v7_4 < ((p2.length : Int)))) = true then
  gd ((0 : Int) ≤ v7_4) <| gd (v7_4 < (p2.length : Int)) <| (spec_l1In.f k (p2.getD (v7_4.toNat) 0) 0 (w64 (((p1.length : Int)) - 1))).bind fun r3 =>
  if (!r3.1) = true then
   some (false, ())
  else
   gd ((0 : Int) ≤ v7_4) <| gd (v7_4 < (p2.length : Int)) <| gd ((0 : Int) ≤ (p2.getD (v7_4.toNat) 0)) <| gd ((p2.getD (v7_4.toNat) 0) < (p1.length : Int)) <| gd ((0 : Int) ≤ v7_4) <| gd (v7_4 < (p2.length : Int)) <| if ((p1.getD ((p2.getD (v7_4.toNat) 0).toNat) 0) != (p2.getD (v7_4.toNat) 0)) = true then
    some (false, ())
   else
    l4 k p1 p2 n (w64 (v7_4 + 1))
 else
  some (true, ())) := by kernel_rfl
theorem z4 (k : Nat) (p1 p2 : (List Int)) (v7_4 : Int) : l4 k p1 p2 0 v7_4 = none := by kernel_rfl
theorem s (k : Nat) (p0 : y7) (p1 p2 : (List Int)) : f k p0 p1 p2 =
 ((spec_BlocksValid.f k p0 p1).bind fun r1 =>
 if (!r1.1) = true then
  some (false, ())
 else
  (spec_l1In.f k ((p2.length : Int)) 1 500).bind fun r2 =>
  if (!r2.1) = true then
   some (false, ())
  else
   l4 k p1 p2 k 0) := by kernel_rfl
theorem ok (k : Nat) : Ok Tryz.prog 50 (sem k) := Fd.ok (cx_ok ⟨spec_BlocksValid.ok k, spec_l1In.ok k, trivial⟩) ⟨Tryz.func50, rfl, by kernel_rfl⟩ rfl
attribute [irreducible] f l4
end spec_l29Way
/-! loop.example/wholecheck/spec.l29Asked -/
namespace spec_l29Asked
noncomputable def D : Fd := ⟨Tryz.f62, 1, .bool, .sh, [.sh, .sh, .sh, .sh], .unit, h47⟩
noncomputable def C (k : Nat) : Ctx := cx [(50, spec_l29Way.sem k), (80, spec_l2Is.sem k)] [] [] [] [] [] []
noncomputable def sem (k : Nat) : Sem := D.sem (D.ev (C k) k)
noncomputable def f (k : Nat) (p0 : y7) (p1 p2 : (List Int)) (p3 : y2) : Option (Bool × Unit) := D.ev (C k) k (p0, p1, p2, p3, ())
theorem s (k : Nat) (p0 : y7) (p1 p2 : (List Int)) (p3 : y2) : f k p0 p1 p2 p3 =
 ((spec_l29Way.f k p0 p1 p2).bind fun r1 =>
 if r1.1 = true then
  (spec_l2Is.f k p3 ((p0.1.length : Int)) 2).bind fun r2 =>
  some (r2.1, ())
 else
  some (false, ())) := by kernel_rfl
theorem ok (k : Nat) : Ok Tryz.prog 62 (sem k) := Fd.ok (cx_ok ⟨spec_l29Way.ok k, spec_l2Is.ok k, trivial⟩) ⟨Tryz.func62, rfl, by kernel_rfl⟩ rfl
attribute [irreducible] f
end spec_l29Asked
/-! loop.example/wholecheck/spec.FirstState -/
namespace spec_FirstState
noncomputable def D : Fd := ⟨Tryz.f98, 1, h9, (.ow .sh), [.sh], .unit, h32⟩
noncomputable def C (k : Nat) : Ctx := cx [(142, spec_SystemValid.sem k)] [] [(3, [(1, none), (3, none), (4, none)])] [] [] [] []
noncomputable def sem (k : Nat) : Sem := D.sem (D.ev (C k) k)
noncomputable def f (k : Nat) (p0 : y7) : Option ((List Int) × Unit) := D.ev (C k) k (p0, ())
noncomputable def l3 (k : Nat) (p0 : y7) (n : Nat) (v3_3 : (List Int)) (v4_3 : Int) : Option ((List Int) × Unit) :=
 D.lp (C k) k 3 [1, 1, 0, 1, 0] [] n [(4, vI v4_3), (3, vO h9 v3_3), (1, .val h40 (.ow .sh) p0)]
theorem s3 (k : Nat) (p0 : y7) (n : Nat) (v3_3 : (List Int)) (v4_3 : Int) : l3 k p0 (n + 1) v3_3 v4_3 =
 (if (decide (v4_3 < ((p0.1.length : Int)))) = true then
  (spec_SystemValid.f k p0).bind fun r1 =>
  if r1.1 = true then
   gd ((0 : Int) ≤ v4_3) <| gd (v4_3 < (p0.1.length : Int)) <| gd ((v3_3.length : Int) + ([(p0.1.getD (v4_3.toNat) (0, (0, 0))).2.2].length : Int) ≤ 1099511627776) <| l3 k p0 n (v3_3 ++ [(p0.1.getD (v4_3.toNat) (0, (0, 0))).2.2]) (w64 (v4_3 + 1))
  else
   some (v3_3, ())
 else
  some (v3_3, ())) := by kernel_rfl
theorem z3 (k : Nat) (p0 : y7) (v3_3 : (List Int)) (v4_3 : Int) : l3 k p0 0 v3_3 v4_3 = none := by kernel_rfl
theorem s (k : Nat) (p0 : y7) : f k p0 =
 (l3 k p0 k [] 0) := by kernel_rfl
theorem ok (k : Nat) : Ok Tryz.prog 98 (sem k) := Fd.ok (cx_ok ⟨spec_SystemValid.ok k, trivial⟩) ⟨Tryz.func98, rfl, by kernel_rfl⟩ rfl
attribute [irreducible] f l3
end spec_FirstState
/-! loop.example/wholecheck/spec.l3Copy -/
namespace spec_l3Copy
noncomputable def D : Fd := ⟨Tryz.f52, 1, h9, (.ow .sh), [.sh], .unit, h28⟩
noncomputable def C (k : Nat) : Ctx := cx [] [] [(3, [(0, none), (3, none), (4, none)])] [] [] [] []
noncomputable def sem (k : Nat) : Sem := D.sem (D.ev (C k) k)
noncomputable def f (k : Nat) (p0 : (List Int)) : Option ((List Int) × Unit) := D.ev (C k) k (p0, ())
noncomputable def l3 (k : Nat) (p0 : (List Int)) (n : Nat) (v3_3 : (List Int)) (v4_3 : Int) : Option ((List Int) × Unit) :=
 D.lp (C k) k 3 [1, 1, 0, 1, 0] [] n [(4, vI v4_3), (3, vO h9 v3_3), (0, vS h9 p0)]
theorem s3 (k : Nat) (p0 : (List Int)) (n : Nat) (v3_3 : (List Int)) (v4_3 : Int) : l3 k p0 (n + 1) v3_3 v4_3 =
 (if (decide (v4_3 < ((p0.length : Int)))) = true then
  gd ((0 : Int) ≤ v4_3) <| gd (v4_3 < (p0.length : Int)) <| gd ((v3_3.length : Int) + ([(p0.getD (v4_3.toNat) 0)].length : Int) ≤ 1099511627776) <| l3 k p0 n (v3_3 ++ [(p0.getD (v4_3.toNat) 0)]) (w64 (v4_3 + 1))
 else
  some (v3_3, ())) := by kernel_rfl
theorem z3 (k : Nat) (p0 : (List Int)) (v3_3 : (List Int)) (v4_3 : Int) : l3 k p0 0 v3_3 v4_3 = none := by kernel_rfl
theorem s (k : Nat) (p0 : (List Int)) : f k p0 =
 (l3 k p0 k [] 0) := by kernel_rfl
theorem ok (k : Nat) : Ok Tryz.prog 52 (sem k) := Fd.ok (cx_ok trivial) ⟨Tryz.func52, rfl, by kernel_rfl⟩ rfl
attribute [irreducible] f l3
end spec_l3Copy
/-! loop.example/wholecheck/spec.l4State -/
namespace spec_l4State
noncomputable def D : Fd := ⟨Tryz.f129, 1, h9, (.ow .sh), [.sh, .sh], .unit, h21⟩
noncomputable def C (k : Nat) : Ctx := cx [(98, spec_FirstState.sem k), (52, spec_l3Copy.sem k)] [] [(3, [(1, none), (2, none), (5, none), (6, none)])] [] [(5, [0, 1, 2, 3, 4, 5, 6, 7, 8, 9, 10, 11, 12, 13, 14]), (6, [0, 1, 2, 3, 4, 5, 6, 7, 8, 9, 10, 11, 12, 13])] [] []
noncomputable def sem (k : Nat) : Sem := D.sem (D.ev (C k) k)
noncomputable def f (k : Nat) (p0 : y7) (p1 : Int) : Option ((List Int) × Unit) := D.ev (C k) k (p0, p1, ())
noncomputable def l3 (k : Nat) (p0 : y7) (n : Nat) (v1_3 : Int) (v5_3 : (List Int)) (v6_3 : Int) : Option ((List Int) × Unit) :=
 D.lp (C k) k 3 [1, 1, 0, 1, 0] [] n [(6, vI v6_3), (5, vO h9 v5_3), (2, .val h40 (.ow .sh) p0), (1, vI v1_3)]
theorem s3 (k : Nat) (p0 : y7) (n : Nat) (v1_3 : Int) (v5_3 : (List Int)) (v6_3 : Int) : l3 k p0 (n + 1) v1_3 v5_3 v6_3 =
 (if (decide (v6_3 ≥ 0)) = true then
  gd ((0 : Int) ≤ v6_3) <| gd (v6_3 < (p0.1.length : Int)) <| gd ((0 : Int) ≤ v6_3) <| gd (v6_3 < (p0.1.length : Int)) <| gd ((0 : Int) ≤ v6_3) <| gd (v6_3 < (p0.1.length : Int)) <| gd (((w64 ((w64 ((p0.1.getD (v6_3.toNat) (0, (0, 0))).2.1 - (p0.1.getD (v6_3.toNat) (0, (0, 0))).1)) + 1)) : Int) ≠ 0) <| gd ((0 : Int) ≤ v6_3) <| gd (v6_3 < (v5_3.length : Int)) <| gd (((w64 ((w64 ((p0.1.getD (v6_3.toNat) (0, (0, 0))).2.1 - (p0.1.getD (v6_3.toNat) (0, (0, 0))).1)) + 1)) : Int) ≠ 0) <| l3 k p0 n (w64 (v1_3.tdiv (w64 ((w64 ((p0.1.getD (v6_3.toNat) (0, (0, 0))).2.1 - (p0.1.getD (v6_3.toNat) (0, (0, 0))).1)) + 1)))) (v5_3.set (v6_3.toNat) (w64 ((p0.1.getD (v6_3.toNat) (0, (0, 0))).1 + (v1_3.tmod (w64 ((w64 ((p0.1.getD (v6_3.toNat) (0, (0, 0))).2.1 - (p0.1.getD (v6_3.toNat) (0, (0, 0))).1)) + 1)))))) (w64 (v6_3 - 1))
 else
  some (v5_3, ())) := by kernel_rfl
theorem z3 (k : Nat) (p0 : y7) (v1_3 : Int) (v5_3 : (List Int)) (v6_3 : Int) : l3 k p0 0 v1_3 v5_3 v6_3 = none := by kernel_rfl
theorem s (k : Nat) (p0 : y7) (p1 : Int) : f k p0 p1 =
 ((spec_FirstState.f k p0).bind fun r1 =>
 (spec_l3Copy.f k r1.1).bind fun r2 =>
 l3 k p0 k p1 r2.1 (w64 (((p0.1.length : Int)) - 1))) := by kernel_rfl
theorem ok (k : Nat) : Ok Tryz.prog 129 (sem k) := Fd.ok (cx_ok ⟨spec_FirstState.ok k, spec_l3Copy.ok k, trivial⟩) ⟨Tryz.func129, rfl, by kernel_rfl⟩ rfl
attribute [irreducible] f l3
end spec_l4State
/-! loop.example/wholecheck/spec.l1Held -/
namespace spec_l1Held
noncomputable def D : Fd := ⟨Tryz.f217, 1, I, .sh, [.sh], .unit, h3⟩
noncomputable def C (k : Nat) : Ctx := cx [] [] [] [] [] [] []
noncomputable def sem (k : Nat) : Sem := D.sem (D.ev (C k) k)
noncomputable def f (k : Nat) (p0 : Int) : Option (Int × Unit) := D.ev (C k) k (p0, ())
theorem s (k : Nat) (p0 : Int) : f k p0 =
 (if (decide (p0 > 9999)) = true then
  some (9999, ())
 else
  if (decide (p0 < (-9999))) = true then
   some ((-9999), ())
  else
   some (p0, ())) := by kernel_rfl
theorem ok (k : Nat) : Ok Tryz.prog 217 (sem k) := Fd.ok (cx_ok trivial) ⟨Tryz.func217, rfl, by kernel_rfl⟩ rfl
attribute [irreducible] f
end spec_l1Held
/-! loop.example/wholecheck/spec.l1Truth -/
namespace spec_l1Truth
noncomputable def D : Fd := ⟨Tryz.f120, 1, I, .sh, [.sh], .unit, h48⟩
noncomputable def C (k : Nat) : Ctx := cx [] [] [] [] [] [] []
noncomputable def sem (k : Nat) : Sem := D.sem (D.ev (C k) k)
noncomputable def f (k : Nat) (p0 : Bool) : Option (Int × Unit) := D.ev (C k) k (p0, ())
theorem s (k : Nat) (p0 : Bool) : f k p0 =
 (if p0 = true then
  some (1, ())
 else
  some (0, ())) := by kernel_rfl
theorem ok (k : Nat) : Ok Tryz.prog 120 (sem k) := Fd.ok (cx_ok trivial) ⟨Tryz.func120, rfl, by kernel_rfl⟩ rfl
attribute [irreducible] f
end spec_l1Truth
/-! loop.example/wholecheck/spec.l1Do -/
namespace spec_l1Do
noncomputable def D : Fd := ⟨Tryz.f204, 1, I, .sh, [.sh, .sh, .sh], .unit, h35⟩
noncomputable def C (k : Nat) : Ctx := cx [(217, spec_l1Held.sem k), (120, spec_l1Truth.sem k)] [] [] [] [] [] []
noncomputable def sem (k : Nat) : Sem := D.sem (D.ev (C k) k)
noncomputable def f (k : Nat) (p0 p1 p2 : Int) : Option (Int × Unit) := D.ev (C k) k (p0, p1, p2, ())
theorem s (k : Nat) (p0 p1 p2 : Int) : f k p0 p1 p2 =
 (if (p0 == 2) = true then
  (spec_l1Held.f k (w64 (p1 + p2))).bind fun r1 =>
  some (r1.1, ())
 else
  if (p0 == 3) = true then
   (spec_l1Held.f k (w64 (p1 - p2))).bind fun r2 =>
   some (r2.1, ())
  else
   if (p0 == 4) = true then
    (spec_l1Held.f k (w64 (p1 * p2))).bind fun r3 =>
    some (r3.1, ())
   else
    if (p0 == 5) = true then
     (spec_l1Truth.f k (decide (p1 < p2))).bind fun r4 =>
     some (r4.1, ())
    else
     if (p0 == 6) = true then
      (spec_l1Truth.f k (p1 == p2)).bind fun r5 =>
      some (r5.1, ())
     else
      if (p0 == 7) = true then
       some (w64 (1 - p1), ())
      else
       if (p0 == 8) = true then
        some (w64 (p1 * p2), ())
       else
        (spec_l1Truth.f k (decide ((w64 (p1 + p2)) > 0))).bind fun r6 =>
        some (r6.1, ())) := by kernel_rfl
theorem ok (k : Nat) : Ok Tryz.prog 204 (sem k) := Fd.ok (cx_ok ⟨spec_l1Held.ok k, spec_l1Truth.ok k, trivial⟩) ⟨Tryz.func204, rfl, by kernel_rfl⟩ rfl
attribute [irreducible] f
end spec_l1Do
/-! loop.example/wholecheck/spec.l1Values -/
namespace spec_l1Values
noncomputable def D : Fd := ⟨Tryz.f178, 1, h9, (.ow .sh), [.sh, .sh], .unit, h49⟩
noncomputable def C (k : Nat) : Ctx := cx [(204, spec_l1Do.sem k)] [((10, 16), 3)] [(3, [(0, none), (1, none), (5, none), (6, none)])] [] [(10, [0, 1, 2, 3, 4, 5, 6, 7, 8, 9, 10, 11, 12, 13, 14, 15, 16])] [] []
noncomputable def sem (k : Nat) : Sem := D.sem (D.ev (C k) k)
noncomputable def f (k : Nat) (p0 : y2) (p1 : (List Int)) : Option ((List Int) × Unit) := D.ev (C k) k (p0, p1, ())
noncomputable def l3 (k : Nat) (p0 : y2) (p1 : (List Int)) (n : Nat) (v5_3 : (List Int)) (v6_3 : Int) : Option ((List Int) × Unit) :=
 D.lp (C k) k 3 [1, 1, 0, 1, 0] [] n [(6, vI v6_3), (5, vO h9 v5_3), (1, vS h9 p1), (0, vS h7 p0)]
theorem s3 (k : Nat) (p0 : y2) (p1 : (List Int)) (n : Nat) (v5_3 : (List Int)) (v6_3 : Int) : l3 k p0 p1 (n + 1) v5_3 v6_3 =
 (if (decide (v6_3 < ((p0.length : Int)))) = true then
  gd ((0 : Int) ≤ v6_3) <| gd (v6_3 < (p0.length : Int)) <| if ((p0.getD (v6_3.toNat) (0, (0, (0, 0)))).1 == 0) = true then
   gd ((v5_3.length : Int) + ([(p0.getD (v6_3.toNat) (0, (0, (0, 0)))).2.1].length : Int) ≤ 1099511627776) <| l3 k p0 p1 n (v5_3 ++ [(p0.getD (v6_3.toNat) (0, (0, (0, 0)))).2.1]) (w64 (v6_3 + 1))
  else
   if ((p0.getD (v6_3.toNat) (0, (0, (0, 0)))).1 == 1) = true then
    gd ((0 : Int) ≤ (p0.getD (v6_3.toNat) (0, (0, (0, 0)))).2.1) <| gd ((p0.getD (v6_3.toNat) (0, (0, (0, 0)))).2.1 < (p1.length : Int)) <| gd ((v5_3.length : Int) + ([(p1.getD ((p0.getD (v6_3.toNat) (0, (0, (0, 0)))).2.1.toNat) 0)].length : Int) ≤ 1099511627776) <| l3 k p0 p1 n (v5_3 ++ [(p1.getD ((p0.getD (v6_3.toNat) (0, (0, (0, 0)))).2.1.toNat) 0)]) (w64 (v6_3 + 1))
   else
    gd ((0 : Int) ≤ (p0.getD (v6_3.toNat) (0, (0, (0, 0)))).2.2.1) <| gd ((p0.getD (v6_3.toNat) (0, (0, (0, 0)))).2.2.1 < (v5_3.length : Int)) <| gd ((0 : Int) ≤ (p0.getD (v6_3.toNat) (0, (0, (0, 0)))).2.2.2) <| gd ((p0.getD (v6_3.toNat) (0, (0, (0, 0)))).2.2.2 < (v5_3.length : Int)) <| (spec_l1Do.f k (p0.getD (v6_3.toNat) (0, (0, (0, 0)))).1 (v5_3.getD ((p0.getD (v6_3.toNat) (0, (0, (0, 0)))).2.2.1.toNat) 0) (v5_3.getD ((p0.getD (v6_3.toNat) (0, (0, (0, 0)))).2.2.2.toNat) 0)).bind fun r1 =>
    gd ((v5_3.length : Int) + ([r1.1].length : Int) ≤ 1099511627776) <| l3 k p0 p1 n (v5_3 ++ [r1.1]) (w64 (v6_3 + 1))
 else
  some (v5_3, ())) := by kernel_rfl
theorem z3 (k : Nat) (p0 : y2) (p1 : (List Int)) (v5_3 : (List Int)) (v6_3 : Int) : l3 k p0 p1 0 v5_3 v6_3 = none := by kernel_rfl
theorem s (k : Nat) (p0 : y2) (p1 : (List Int)) : f k p0 p1 =
 (l3 k p0 p1 k [] 0) := by kernel_rfl
theorem ok (k : Nat) : Ok Tryz.prog 178 (sem k) := Fd.ok (cx_ok ⟨spec_l1Do.ok k, trivial⟩) ⟨Tryz.func178, rfl, by kernel_rfl⟩ rfl
attribute [irreducible] f l3
end spec_l1Values
/-! loop.example/wholecheck/spec.l2Last -/
namespace spec_l2Last
noncomputable def D : Fd := ⟨Tryz.f143, 1, I, .sh, [.sh, .sh], .unit, h49⟩
noncomputable def C (k : Nat) : Ctx := cx [(178, spec_l1Values.sem k)] [] [] [] [] [] []
noncomputable def sem (k : Nat) : Sem := D.sem (D.ev (C k) k)
noncomputable def f (k : Nat) (p0 : y2) (p1 : (List Int)) : Option (Int × Unit) := D.ev (C k) k (p0, p1, ())
theorem s (k : Nat) (p0 : y2) (p1 : (List Int)) : f k p0 p1 =
 ((spec_l1Values.f k p0 p1).bind fun r1 =>
 gd ((0 : Int) ≤ (w64 (((p0.length : Int)) - 1))) <| gd ((w64 (((p0.length : Int)) - 1)) < (r1.1.length : Int)) <| some (r1.1.getD ((w64 (((p0.length : Int)) - 1)).toNat) 0, ())) := by kernel_rfl
theorem ok (k : Nat) : Ok Tryz.prog 143 (sem k) := Fd.ok (cx_ok ⟨spec_l1Values.ok k, trivial⟩) ⟨Tryz.func143, rfl, by kernel_rfl⟩ rfl
attribute [irreducible] f
end spec_l2Last
/-! loop.example/wholecheck/spec.l2In -/
namespace spec_l2In
noncomputable def D : Fd := ⟨Tryz.f166, 1, .bool, .sh, [.sh, .sh], .unit, h50⟩
noncomputable def C (k : Nat) : Ctx := cx [(96, spec_l1In.sem k)] [] [(4, [(1, none), (2, none), (5, none)])] [] [(6, [0, 1, 2, 3, 4, 5, 6, 7, 8, 9, 10, 11, 12, 13, 14, 15, 16, 17])] [] []
noncomputable def sem (k : Nat) : Sem := D.sem (D.ev (C k) k)
noncomputable def f (k : Nat) (p0 : y7) (p1 : (List Int)) : Option (Bool × Unit) := D.ev (C k) k (p0, p1, ())
noncomputable def l4 (k : Nat) (p0 : y7) (p1 : (List Int)) (n : Nat) (v5_4 : Int) : Option (Bool × Unit) :=
 D.lp (C k) k 4 [1, 1, 0, 1, 0] [] n [(5, vI v5_4), (2, .val h40 (.ow .sh) p0), (1, vS h9 p1)]
theorem s4 (k : Nat) (p0 : y7) (p1 : (List Int)) (n : Nat) (v5_4 : Int) : l4 k p0 p1 (n + 1) v5_4 =
 (if (decide (v5_4 < ((p1.length : Int)))) = true then
  gd ((0 : Int) ≤ v5_4) <| gd (v5_4 < (p1.length : Int)) <| gd ((0 : Int) ≤ v5_4) <| gd (v5_4 < (p0.1.length : Int)) <| gd ((0 : Int) ≤ v5_4) <| gd (v5_4 < (p0.1.length : Int)) <| (spec_l1In.f k (p1.getD (v5_4.toNat) 0) (p0.1.getD (v5_4.toNat) (0, (0, 0))).1 (p0.1.getD (v5_4.toNat) (0, (0, 0))).2.1).bind fun r1 =>
  if (!r1.1) = true then
   some (false, ())
  else
   l4 k p0 p1 n (w64 (v5_4 + 1))
 else
  some (true, ())) := by kernel_rfl
theorem z4 (k : Nat) (p0 : y7) (p1 : (List Int)) (v5_4 : Int) : l4 k p0 p1 0 v5_4 = none := by kernel_rfl
theorem s (k : Nat) (p0 : y7) (p1 : (List Int)) : f k p0 p1 =
 (if (((p1.length : Int)) != ((p0.1.length : Int))) = true then
  some (false, ())
 else
  l4 k p0 p1 k 0) := by kernel_rfl
theorem ok (k : Nat) : Ok Tryz.prog 166 (sem k) := Fd.ok (cx_ok ⟨spec_l1In.ok k, trivial⟩) ⟨Tryz.func166, rfl, by kernel_rfl⟩ rfl
attribute [irreducible] f l4
end spec_l2In
/-! loop.example/wholecheck/spec.l2Use -/
namespace spec_l2Use
noncomputable def D : Fd := ⟨Tryz.f164, 1, h9, (.ow .sh), [.sh, .sh, .sh], .unit, h51⟩
noncomputable def C (k : Nat) : Ctx := cx [(143, spec_l2Last.sem k), (166, spec_l2In.sem k)] [] [(6, [(1, none), (3, none), (7, none), (8, none), (9, none)]), (10, [(1, none), (3, none), (7, none), (8, none), (10, none)])] [] [(12, [0, 1, 2, 3, 4, 5, 6, 7, 8, 9, 10, 11, 12, 13, 14])] [((12, 12), [7])] []
noncomputable def sem (k : Nat) : Sem := D.sem (D.ev (C k) k)
noncomputable def f (k : Nat) (p0 : y7) (p1 : (List Int)) (p2 : Int) : Option ((List Int) × Unit) := D.ev (C k) k (p0, p1, p2, ())
noncomputable def l6 (k : Nat) (p0 : y7) (p1 : (List Int)) (p2 : Int) (n : Nat) (v8_6 : (List Int)) (v9_6 : Int) : Option ((List Int) × Unit) :=
 D.lp (C k) k 6 [1, 1, 1, 1, 0, 1, 0] [] n [(9, vI v9_6), (8, vO h9 v8_6), (7, .val h39 (.ow .sh) (p0.2.getD (p2.toNat) ([], ([], [])))), (3, .val h40 (.ow .sh) p0), (1, vS h9 p1)]
noncomputable def l10 (k : Nat) (p0 : y7) (p1 : (List Int)) (p2 : Int) (n : Nat) (v8_10 : (List Int)) (v10_10 : Int) : Option ((List Int) × Unit) :=
 D.lp (C k) k 10 [1, 1, 1, 1, 1, 0, 1, 0] [] n [(10, vI v10_10), (8, vO h9 v8_10), (7, .val h39 (.ow .sh) (p0.2.getD (p2.toNat) ([], ([], [])))), (3, .val h40 (.ow .sh) p0), (1, vS h9 p1)]
theorem s10 (k : Nat) (p0 : y7) (p1 : (List Int)) (p2 : Int) (n : Nat) (v8_10 : (List Int)) (v10_10 : Int) : l10 k p0 p1 p2 (n + 1) v8_10 v10_10 =
 (if (decide (v10_10 < (((p0.2.getD (p2.toNat) ([], ([], []))).2.1.length : Int)))) = true then
  gd ((0 : Int) ≤ v10_10) <| gd (v10_10 < ((p0.2.getD (p2.toNat) ([], ([], []))).2.1.length : Int)) <| gd ((0 : Int) ≤ v10_10) <| gd (v10_10 < ((p0.2.getD (p2.toNat) ([], ([], []))).2.2.length : Int)) <| (spec_l2Last.f k ((p0.2.getD (p2.toNat) ([], ([], []))).2.2.getD (v10_10.toNat) []) p1).bind fun r2 =>
  gd ((0 : Int) ≤ ((p0.2.getD (p2.toNat) ([], ([], []))).2.1.getD (v10_10.toNat) 0)) <| gd (((p0.2.getD (p2.toNat) ([], ([], []))).2.1.getD (v10_10.toNat) 0) < (v8_10.length : Int)) <| l10 k p0 p1 p2 n (v8_10.set (((p0.2.getD (p2.toNat) ([], ([], []))).2.1.getD (v10_10.toNat) 0).toNat) r2.1) (w64 (v10_10 + 1))
 else
  (spec_l2In.f k p0 v8_10).bind fun r3 =>
  if (!r3.1) = true then
   some ([], ())
  else
   some (v8_10, ())) := by kernel_rfl
theorem z10 (k : Nat) (p0 : y7) (p1 : (List Int)) (p2 : Int) (v8_10 : (List Int)) (v10_10 : Int) : l10 k p0 p1 p2 0 v8_10 v10_10 = none := by kernel_rfl
theorem s6 (k : Nat) (p0 : y7) (p1 : (List Int)) (p2 : Int) (n : Nat) (v8_6 : (List Int)) (v9_6 : Int) : l6 k p0 p1 p2 (n + 1) v8_6 v9_6 =
 (if (decide (v9_6 < ((p1.length : Int)))) = true then
  gd ((0 : Int) ≤ v9_6) <| gd (v9_6 < (p1.length : Int)) <| gd ((v8_6.length : Int) + ([(p1.getD (v9_6.toNat) 0)].length : Int) ≤ 1099511627776) <| l6 k p0 p1 p2 n (v8_6 ++ [(p1.getD (v9_6.toNat) 0)]) (w64 (v9_6 + 1))
 else
  l10 k p0 p1 p2 k v8_6 0) := by kernel_rfl
theorem z6 (k : Nat) (p0 : y7) (p1 : (List Int)) (p2 : Int) (v8_6 : (List Int)) (v9_6 : Int) : l6 k p0 p1 p2 0 v8_6 v9_6 = none := by kernel_rfl
theorem s (k : Nat) (p0 : y7) (p1 : (List Int)) (p2 : Int) : f k p0 p1 p2 =
 (gd ((0 : Int) ≤ p2) <| gd (p2 < (p0.2.length : Int)) <| (spec_l2Last.f k (p0.2.getD (p2.toNat) ([], ([], []))).1 p1).bind fun r1 =>
 if (r1.1 == 0) = true then
  some ([], ())
 else
  l6 k p0 p1 p2 k [] 0) := by kernel_rfl
theorem ok (k : Nat) : Ok Tryz.prog 164 (sem k) := Fd.ok (cx_ok ⟨spec_l2Last.ok k, spec_l2In.ok k, trivial⟩) ⟨Tryz.func164, rfl, by kernel_rfl⟩ rfl
attribute [irreducible] f l6 l10
end spec_l2Use
/-! loop.example/wholecheck/spec.l2Same -/
namespace spec_l2Same
noncomputable def D : Fd := ⟨Tryz.f159, 1, .bool, .sh, [.sh, .sh], .unit, h52⟩
noncomputable def C (k : Nat) : Ctx := cx [] [] [(4, [(0, none), (1, none), (5, none)])] [] [(6, [0, 1, 2, 3, 4, 5, 6, 7, 8])] [] []
noncomputable def sem (k : Nat) : Sem := D.sem (D.ev (C k) k)
noncomputable def f (k : Nat) (p0 p1 : (List Int)) : Option (Bool × Unit) := D.ev (C k) k (p0, p1, ())
noncomputable def l4 (k : Nat) (p0 p1 : (List Int)) (n : Nat) (v5_4 : Int) : Option (Bool × Unit) :=
 D.lp (C k) k 4 [1, 1, 0, 1, 0] [] n [(5, vI v5_4), (1, vS h9 p1), (0, vS h9 p0)]
theorem s4 (k : Nat) (p0 p1 : (List Int)) (n : Nat) (v5_4 : Int) : l4 k p0 p1 (n + 1) v5_4 =
 (if (decide (v5_4 < ((p0.length : Int)))) = true then
  gd ((0 : Int) ≤ v5_4) <| gd (v5_4 < (p0.length : Int)) <| gd ((0 : Int) ≤ v5_4) <| gd (v5_4 < (p1.length : Int)) <| if ((p0.getD (v5_4.toNat) 0) != (p1.getD (v5_4.toNat) 0)) = true then
   some (false, ())
  else
   l4 k p0 p1 n (w64 (v5_4 + 1))
 else
  some (true, ())) := by kernel_rfl
theorem z4 (k : Nat) (p0 p1 : (List Int)) (v5_4 : Int) : l4 k p0 p1 0 v5_4 = none := by kernel_rfl
theorem s (k : Nat) (p0 p1 : (List Int)) : f k p0 p1 =
 (if (((p0.length : Int)) != ((p1.length : Int))) = true then
  some (false, ())
 else
  l4 k p0 p1 k 0) := by kernel_rfl
theorem ok (k : Nat) : Ok Tryz.prog 159 (sem k) := Fd.ok (cx_ok trivial) ⟨Tryz.func159, rfl, by kernel_rfl⟩ rfl
attribute [irreducible] f l4
end spec_l2Same
/-! loop.example/wholecheck/spec.l2Less -/
namespace spec_l2Less
noncomputable def D : Fd := ⟨Tryz.f188, 1, .bool, .sh, [.sh, .sh], .unit, h52⟩
noncomputable def C (k : Nat) : Ctx := cx [] [] [(2, [(0, none), (1, none), (5, none)])] [] [(4, [0, 1, 2, 3, 4, 5, 6, 7, 8]), (5, [0, 1, 2, 3, 4, 5, 6, 7, 8, 9])] [] []
noncomputable def sem (k : Nat) : Sem := D.sem (D.ev (C k) k)
noncomputable def f (k : Nat) (p0 p1 : (List Int)) : Option (Bool × Unit) := D.ev (C k) k (p0, p1, ())
noncomputable def l2 (k : Nat) (p0 p1 : (List Int)) (n : Nat) (v5_2 : Int) : Option (Bool × Unit) :=
 D.lp (C k) k 2 [1, 0, 1, 0] [] n [(5, vI v5_2), (1, vS h9 p1), (0, vS h9 p0)]
theorem s2 (k : Nat) (p0 p1 : (List Int)) (n : Nat) (v5_2 : Int) : l2 k p0 p1 (n + 1) v5_2 =
 (if (decide (v5_2 < ((p0.length : Int)))) = true then
  if (decide (v5_2 < ((p1.length : Int)))) = true then
   gd ((0 : Int) ≤ v5_2) <| gd (v5_2 < (p0.length : Int)) <| gd ((0 : Int) ≤ v5_2) <| gd (v5_2 < (p1.length : Int)) <| if ((p0.getD (v5_2.toNat) 0) != (p1.getD (v5_2.toNat) 0)) = true then
    gd ((0 : Int) ≤ v5_2) <| gd (v5_2 < (p0.length : Int)) <| gd ((0 : Int) ≤ v5_2) <| gd (v5_2 < (p1.length : Int)) <| some (decide ((p0.getD (v5_2.toNat) 0) < (p1.getD (v5_2.toNat) 0)), ())
   else
    l2 k p0 p1 n (w64 (v5_2 + 1))
  else
   some (decide (((p0.length : Int)) < ((p1.length : Int))), ())
 else
  some (decide (((p0.length : Int)) < ((p1.length : Int))), ())) := by kernel_rfl
theorem z2 (k : Nat) (p0 p1 : (List Int)) (v5_2 : Int) : l2 k p0 p1 0 v5_2 = none := by kernel_rfl
theorem s (k : Nat) (p0 p1 : (List Int)) : f k p0 p1 =
 (l2 k p0 p1 k 0) := by kernel_rfl
theorem ok (k : Nat) : Ok Tryz.prog 188 (sem k) := Fd.ok (cx_ok trivial) ⟨Tryz.func188, rfl, by kernel_rfl⟩ rfl
attribute [irreducible] f l2
end spec_l2Less
/-! loop.example/wholecheck/spec.l2Put -/
namespace spec_l2Put
noncomputable def D : Fd := ⟨Tryz.f165, 1, h53, (.ow .sh), [.sh, .sh], .unit, h54⟩
noncomputable def C (k : Nat) : Ctx := cx [(159, spec_l2Same.sem k), (188, spec_l2Less.sem k)] [] [(4, [(0, none), (1, none), (5, some (h53, (.ow .sh))), (6, none), (7, none)])] [] [] [] [(8, [(0, none), (1, none), (5, none), (6, none), (7, none)])]
noncomputable def sem (k : Nat) : Sem := D.sem (D.ev (C k) k)
noncomputable def f (k : Nat) (p0 : (List (List Int))) (p1 : (List Int)) : Option ((List (List Int)) × Unit) := D.ev (C k) k (p0, p1, ())
noncomputable def l4 (k : Nat) (p0 : (List (List Int))) (p1 : (List Int)) (n : Nat) (v5_4 : (List (List Int))) (v6_4 : Bool) (v7_4 : Int) : Option ((List (List Int)) × Unit) :=
 D.lp (C k) k 4 [1, 1, 1, 0, 1, 0] [] n [(7, vI v7_4), (6, vB v6_4), (5, .val h53 (.ow .sh) v5_4), (1, vS h9 p1), (0, vS h53 p0)]
noncomputable def lj8 (k n4 : Nat) (p0 : (List (List Int))) (p1 : (List Int)) (v5_4 : (List (List Int))) (v7_4 : Int) (n : Nat) (v6_j8 : Bool) : Option ((List (List Int)) × Unit) :=
 D.jn (C k) k 8 [1, 1, 1, 0, 1, 0, 0, 1, 0, 0] [n4] n [(7, vI v7_4), (6, vB v6_j8), (5, .val h53 (.ow .sh) v5_4), (1, vS h9 p1), (0, vS h53 p0)]
theorem sj8 (k n4 : Nat) (p0 : (List (List Int))) (p1 : (List Int)) (v5_4 : (List (List Int))) (v7_4 : Int) (n : Nat) (v6_j8 : Bool) : lj8 k n4 p0 p1 v5_4 v7_4 (n + 1) v6_j8 =
 (if (!v6_j8) = true then
  gd ((0 : Int) ≤ v7_4) <| gd (v7_4 < (p0.length : Int)) <| (spec_l2Less.f k p1 (p0.getD (v7_4.toNat) [])).bind fun r2 =>
  if r2.1 = true then
   gd ((v5_4.length : Int) + ([p1].length : Int) ≤ 1099511627776) <| gd ((0 : Int) ≤ v7_4) <| gd (v7_4 < (p0.length : Int)) <| gd (((v5_4 ++ [p1]).length : Int) + ([(p0.getD (v7_4.toNat) [])].length : Int) ≤ 1099511627776) <| l4 k p0 p1 n4 ((v5_4 ++ [p1]) ++ [(p0.getD (v7_4.toNat) [])]) true (w64 (v7_4 + 1))
  else
   gd ((0 : Int) ≤ v7_4) <| gd (v7_4 < (p0.length : Int)) <| gd ((v5_4.length : Int) + ([(p0.getD (v7_4.toNat) [])].length : Int) ≤ 1099511627776) <| l4 k p0 p1 n4 (v5_4 ++ [(p0.getD (v7_4.toNat) [])]) v6_j8 (w64 (v7_4 + 1))
 else
  gd ((0 : Int) ≤ v7_4) <| gd (v7_4 < (p0.length : Int)) <| gd ((v5_4.length : Int) + ([(p0.getD (v7_4.toNat) [])].length : Int) ≤ 1099511627776) <| l4 k p0 p1 n4 (v5_4 ++ [(p0.getD (v7_4.toNat) [])]) v6_j8 (w64 (v7_4 + 1))) := by kernel_rfl
theorem zj8 (k n4 : Nat) (p0 : (List (List Int))) (p1 : (List Int)) (v5_4 : (List (List Int))) (v7_4 : Int) (v6_j8 : Bool) : lj8 k n4 p0 p1 v5_4 v7_4 0 v6_j8 = none := by kernel_rfl
theorem s4 (k : Nat) (p0 : (List (List Int))) (p1 : (List Int)) (n : Nat) (v5_4 : (List (List Int))) (v6_4 : Bool) (v7_4 : Int) : l4 k p0 p1 (n + 1) v5_4 v6_4 v7_4 =
 (if (decide (v7_4 < ((p0.length : Int)))) = true then
  if (!v6_4) = true then
   gd ((0 : Int) ≤ v7_4) <| gd (v7_4 < (p0.length : Int)) <| (spec_l2Same.f k (p0.getD (v7_4.toNat) []) p1).bind fun r1 =>
   if r1.1 = true then
    lj8 k n p0 p1 v5_4 v7_4 k true
   else
    lj8 k n p0 p1 v5_4 v7_4 k v6_4
  else
   lj8 k n p0 p1 v5_4 v7_4 k v6_4
 else
  if (!v6_4) = true then
   gd ((v5_4.length : Int) + ([p1].length : Int) ≤ 1099511627776) <| some (v5_4 ++ [p1], ())
  else
   some (v5_4, ())) := by kernel_rfl
theorem z4 (k : Nat) (p0 : (List (List Int))) (p1 : (List Int)) (v5_4 : (List (List Int))) (v6_4 : Bool) (v7_4 : Int) : l4 k p0 p1 0 v5_4 v6_4 v7_4 = none := by kernel_rfl
theorem s (k : Nat) (p0 : (List (List Int))) (p1 : (List Int)) : f k p0 p1 =
 (l4 k p0 p1 k [] false 0) := by kernel_rfl
theorem ok (k : Nat) : Ok Tryz.prog 165 (sem k) := Fd.ok (cx_ok ⟨spec_l2Same.ok k, spec_l2Less.ok k, trivial⟩) ⟨Tryz.func165, rfl, by kernel_rfl⟩ rfl
attribute [irreducible] f l4 lj8
end spec_l2Put
/-! loop.example/wholecheck/spec.l2Next -/
namespace spec_l2Next
noncomputable def D : Fd := ⟨Tryz.f128, 1, h53, (.ow .sh), [.sh, .sh], .unit, h50⟩
noncomputable def C (k : Nat) : Ctx := cx [(164, spec_l2Use.sem k), (165, spec_l2Put.sem k)] [] [(3, [(1, none), (2, none), (5, some (h53, (.ow .sh))), (6, none)])] [] [] [] []
noncomputable def sem (k : Nat) : Sem := D.sem (D.ev (C k) k)
noncomputable def f (k : Nat) (p0 : y7) (p1 : (List Int)) : Option ((List (List Int)) × Unit) := D.ev (C k) k (p0, p1, ())
noncomputable def l3 (k : Nat) (p0 : y7) (p1 : (List Int)) (n : Nat) (v5_3 : (List (List Int))) (v6_3 : Int) : Option ((List (List Int)) × Unit) :=
 D.lp (C k) k 3 [1, 1, 0, 1, 0] [] n [(6, vI v6_3), (5, .val h53 (.ow .sh) v5_3), (2, .val h40 (.ow .sh) p0), (1, vS h9 p1)]
theorem s3 (k : Nat) (p0 : y7) (p1 : (List Int)) (n : Nat) (v5_3 : (List (List Int))) (v6_3 : Int) : l3 k p0 p1 (n + 1) v5_3 v6_3 =
 (if (decide (v6_3 < ((p0.2.length : Int)))) = true then
  (spec_l2Use.f k p0 p1 v6_3).bind fun r1 =>
  if (decide (((r1.1.length : Int)) > 0)) = true then
   (spec_l2Put.f k v5_3 r1.1).bind fun r2 =>
   l3 k p0 p1 n r2.1 (w64 (v6_3 + 1))
  else
   l3 k p0 p1 n v5_3 (w64 (v6_3 + 1))
 else
  some (v5_3, ())) := by kernel_rfl
theorem z3 (k : Nat) (p0 : y7) (p1 : (List Int)) (v5_3 : (List (List Int))) (v6_3 : Int) : l3 k p0 p1 0 v5_3 v6_3 = none := by kernel_rfl
theorem s (k : Nat) (p0 : y7) (p1 : (List Int)) : f k p0 p1 =
 (l3 k p0 p1 k [] 0) := by kernel_rfl
theorem ok (k : Nat) : Ok Tryz.prog 128 (sem k) := Fd.ok (cx_ok ⟨spec_l2Use.ok k, spec_l2Put.ok k, trivial⟩) ⟨Tryz.func128, rfl, by kernel_rfl⟩ rfl
attribute [irreducible] f l3
end spec_l2Next
/-! loop.example/wholecheck/spec.l4Number -/
namespace spec_l4Number
noncomputable def D : Fd := ⟨Tryz.f97, 1, I, .sh, [.sh, .sh], .unit, h50⟩
noncomputable def C (k : Nat) : Ctx := cx [] [((5, 28), 3)] [(3, [(1, none), (2, none), (5, none), (6, none)])] [] [(5, [0, 1, 2, 3, 4, 5, 6, 7, 8, 9, 10, 11, 12, 13, 14, 15, 16, 17, 18, 19, 20, 21, 22, 23, 24, 25, 26, 27, 28])] [] []
noncomputable def sem (k : Nat) : Sem := D.sem (D.ev (C k) k)
noncomputable def f (k : Nat) (p0 : y7) (p1 : (List Int)) : Option (Int × Unit) := D.ev (C k) k (p0, p1, ())
noncomputable def l3 (k : Nat) (p0 : y7) (p1 : (List Int)) (n : Nat) (v5_3 v6_3 : Int) : Option (Int × Unit) :=
 D.lp (C k) k 3 [1, 1, 0, 1, 0] [] n [(6, vI v6_3), (5, vI v5_3), (2, .val h40 (.ow .sh) p0), (1, vS h9 p1)]
theorem s3 (k : Nat) (p0 : y7) (p1 : (List Int)) (n : Nat) (v5_3 v6_3 : Int) : l3 k p0 p1 (n + 1) v5_3 v6_3 =
 (if (decide (v6_3 < ((p1.length : Int)))) = true then
  gd ((0 : Int) ≤ v6_3) <| gd (v6_3 < (p0.1.length : Int)) <| gd ((0 : Int) ≤ v6_3) <| gd (v6_3 < (p0.1.length : Int)) <| gd ((0 : Int) ≤ v6_3) <| gd (v6_3 < (p1.length : Int)) <| gd ((0 : Int) ≤ v6_3) <| gd (v6_3 < (p0.1.length : Int)) <| l3 k p0 p1 n (w64 ((w64 ((w64 (v5_3 * (w64 ((w64 ((p0.1.getD (v6_3.toNat) (0, (0, 0))).2.1 - (p0.1.getD (v6_3.toNat) (0, (0, 0))).1)) + 1)))) + (p1.getD (v6_3.toNat) 0))) - (p0.1.getD (v6_3.toNat) (0, (0, 0))).1)) (w64 (v6_3 + 1))
 else
  some (v5_3, ())) := by kernel_rfl
theorem z3 (k : Nat) (p0 : y7) (p1 : (List Int)) (v5_3 v6_3 : Int) : l3 k p0 p1 0 v5_3 v6_3 = none := by kernel_rfl
theorem s (k : Nat) (p0 : y7) (p1 : (List Int)) : f k p0 p1 =
 (l3 k p0 p1 k 0 0) := by kernel_rfl
theorem ok (k : Nat) : Ok Tryz.prog 97 (sem k) := Fd.ok (cx_ok trivial) ⟨Tryz.func97, rfl, by kernel_rfl⟩ rfl
attribute [irreducible] f l3
end spec_l4Number
/-! loop.example/wholecheck/spec.l4Steps -/
namespace spec_l4Steps
noncomputable def D : Fd := ⟨Tryz.f71, 1, h53, (.ow (.ow .sh)), [.sh], .unit, h32⟩
noncomputable def C (k : Nat) : Ctx := cx [(127, spec_SizeOf.sem k), (129, spec_l4State.sem k), (128, spec_l2Next.sem k), (97, spec_l4Number.sem k)] [((10, 9), 3)] [(3, [(1, none), (3, none), (4, none)]), (8, [(1, none), (3, none), (4, none), (5, none), (6, none), (7, none)])] [] [(5, [0, 1, 2, 3, 4, 5]), (10, [0, 1, 2, 3, 4, 5, 6, 7, 8, 9])] [((5, 3), [1])] []
noncomputable def sem (k : Nat) : Sem := D.sem (D.ev (C k) k)
noncomputable def f (k : Nat) (p0 : y7) : Option ((List (List Int)) × Unit) := D.ev (C k) k (p0, ())
noncomputable def l3 (k : Nat) (p0 : y7) (n : Nat) (v3_3 : (List (List Int))) (v4_3 : Int) : Option ((List (List Int)) × Unit) :=
 D.lp (C k) k 3 [1, 1, 0, 1, 0] [] n [(4, vI v4_3), (3, vO h53 v3_3), (1, .val h40 (.ow .sh) p0)]
noncomputable def l8 (k n3 : Nat) (p0 : y7) (v3_3 : (List (List Int))) (v4_3 : Int) (n : Nat) (v5_8 : (List (List Int))) (v6_8 : (List Int)) (v7_8 : Int) : Option ((List (List Int)) × Unit) :=
 D.lp (C k) k 8 [1, 1, 0, 1, 0, 0, 1, 0, 0, 1, 1, 0, 1, 0] [n3] n [(7, vI v7_8), (6, vO h9 v6_8), (5, .val h53 (.ow .sh) v5_8), (4, vI v4_3), (3, vO h53 v3_3), (1, .val h40 (.ow .sh) p0)]
theorem s8 (k n3 : Nat) (p0 : y7) (v3_3 : (List (List Int))) (v4_3 : Int) (n : Nat) (v5_8 : (List (List Int))) (v6_8 : (List Int)) (v7_8 : Int) : l8 k n3 p0 v3_3 v4_3 (n + 1) v5_8 v6_8 v7_8 =
 (if (decide (v7_8 < ((v5_8.length : Int)))) = true then
  gd ((0 : Int) ≤ v7_8) <| gd (v7_8 < (v5_8.length : Int)) <| (spec_l4Number.f k p0 (v5_8.getD (v7_8.toNat) [])).bind fun r4 =>
  gd ((v6_8.length : Int) + ([r4.1].length : Int) ≤ 1099511627776) <| l8 k n3 p0 v3_3 v4_3 n v5_8 (v6_8 ++ [r4.1]) (w64 (v7_8 + 1))
 else
  gd ((v3_3.length : Int) + ([v6_8].length : Int) ≤ 1099511627776) <| l3 k p0 n3 (v3_3 ++ [v6_8]) (w64 (v4_3 + 1))) := by kernel_rfl
theorem z8 (k n3 : Nat) (p0 : y7) (v3_3 : (List (List Int))) (v4_3 : Int) (v5_8 : (List (List Int))) (v6_8 : (List Int)) (v7_8 : Int) : l8 k n3 p0 v3_3 v4_3 0 v5_8 v6_8 v7_8 = none := by kernel_rfl
theorem s3 (k : Nat) (p0 : y7) (n : Nat) (v3_3 : (List (List Int))) (v4_3 : Int) : l3 k p0 (n + 1) v3_3 v4_3 =
 ((spec_SizeOf.f k p0).bind fun r1 =>
 if (decide (v4_3 < r1.1)) = true then
  (spec_l4State.f k p0 v4_3).bind fun r2 =>
  (spec_l2Next.f k p0 r2.1).bind fun r3 =>
  l8 k n p0 v3_3 v4_3 k r3.1 [] 0
 else
  some (v3_3, ())) := by kernel_rfl
theorem z3 (k : Nat) (p0 : y7) (v3_3 : (List (List Int))) (v4_3 : Int) : l3 k p0 0 v3_3 v4_3 = none := by kernel_rfl
theorem s (k : Nat) (p0 : y7) : f k p0 =
 (l3 k p0 k [] 0) := by kernel_rfl
theorem ok (k : Nat) : Ok Tryz.prog 71 (sem k) := Fd.ok (cx_ok ⟨spec_SizeOf.ok k, spec_l4State.ok k, spec_l2Next.ok k, spec_l4Number.ok k, trivial⟩) ⟨Tryz.func71, rfl, by kernel_rfl⟩ rfl
attribute [irreducible] f l3 l8
end spec_l4Steps
/-! loop.example/wholecheck/spec.l29Block -/
namespace spec_l29Block
noncomputable def D : Fd := ⟨Tryz.f65, 1, h9, (.ow .sh), [.sh, .sh], .unit, h23⟩
noncomputable def C (k : Nat) : Ctx := cx [] [] [(3, [(1, none), (2, none), (5, none), (6, none)])] [] [] [] []
noncomputable def sem (k : Nat) : Sem := D.sem (D.ev (C k) k)
noncomputable def f (k : Nat) (p0 : (List Int)) (p1 : Int) : Option ((List Int) × Unit) := D.ev (C k) k (p0, p1, ())
noncomputable def l3 (k : Nat) (p0 : (List Int)) (p1 : Int) (n : Nat) (v5_3 : (List Int)) (v6_3 : Int) : Option ((List Int) × Unit) :=
 D.lp (C k) k 3 [1, 1, 0, 1, 0] [] n [(6, vI v6_3), (5, vO h9 v5_3), (2, .val h42 (.ow .sh) p0), (1, vI p1)]
theorem s3 (k : Nat) (p0 : (List Int)) (p1 : Int) (n : Nat) (v5_3 : (List Int)) (v6_3 : Int) : l3 k p0 p1 (n + 1) v5_3 v6_3 =
 (if (decide (v6_3 < ((p0.length : Int)))) = true then
  gd ((0 : Int) ≤ v6_3) <| gd (v6_3 < (p0.length : Int)) <| if ((p0.getD (v6_3.toNat) 0) == p1) = true then
   gd ((v5_3.length : Int) + ([v6_3].length : Int) ≤ 1099511627776) <| l3 k p0 p1 n (v5_3 ++ [v6_3]) (w64 (v6_3 + 1))
  else
   l3 k p0 p1 n v5_3 (w64 (v6_3 + 1))
 else
  some (v5_3, ())) := by kernel_rfl
theorem z3 (k : Nat) (p0 : (List Int)) (p1 : Int) (v5_3 : (List Int)) (v6_3 : Int) : l3 k p0 p1 0 v5_3 v6_3 = none := by kernel_rfl
theorem s (k : Nat) (p0 : (List Int)) (p1 : Int) : f k p0 p1 =
 (l3 k p0 p1 k [] 0) := by kernel_rfl
theorem ok (k : Nat) : Ok Tryz.prog 65 (sem k) := Fd.ok (cx_ok trivial) ⟨Tryz.func65, rfl, by kernel_rfl⟩ rfl
attribute [irreducible] f l3
end spec_l29Block
/-! loop.example/wholecheck/spec.l4Set -/
namespace spec_l4Set
noncomputable def D : Fd := ⟨Tryz.f175, 1, .bool, .sh, [.sh], .unit, h28⟩
noncomputable def C (k : Nat) : Ctx := cx [(96, spec_l1In.sem k)] [] [(2, [(0, none), (3, none)])] [] [(4, [0, 1, 2, 3, 4, 5, 6, 7, 8, 9, 10, 11, 12, 13, 14, 15, 16, 17, 18, 19, 20, 21])] [] []
noncomputable def sem (k : Nat) : Sem := D.sem (D.ev (C k) k)
noncomputable def f (k : Nat) (p0 : (List Int)) : Option (Bool × Unit) := D.ev (C k) k (p0, ())
noncomputable def l2 (k : Nat) (p0 : (List Int)) (n : Nat) (v3_2 : Int) : Option (Bool × Unit) :=
 D.lp (C k) k 2 [1, 0, 1, 0] [] n [(3, vI v3_2), (0, vS h9 p0)]
theorem s2 (k : Nat) (p0 : (List Int)) (n : Nat) (v3_2 : Int) : l2 k p0 (n + 1) v3_2 =
 (if (decide (v3_2 < ((p0.length : Int)))) = true then
  gd ((0 : Int) ≤ v3_2) <| gd (v3_2 < (p0.length : Int)) <| (spec_l1In.f k (p0.getD (v3_2.toNat) 0) 0 399).bind fun r1 =>
  if (!r1.1) = true then
   some (false, ())
  else
   if (decide (v3_2 > 0)) = true then
    gd ((0 : Int) ≤ v3_2) <| gd (v3_2 < (p0.length : Int)) <| gd ((0 : Int) ≤ (w64 (v3_2 - 1))) <| gd ((w64 (v3_2 - 1)) < (p0.length : Int)) <| if (decide ((p0.getD (v3_2.toNat) 0) ≤ (p0.getD ((w64 (v3_2 - 1)).toNat) 0))) = true then
     some (false, ())
    else
     l2 k p0 n (w64 (v3_2 + 1))
   else
    l2 k p0 n (w64 (v3_2 + 1))
 else
  some (true, ())) := by kernel_rfl
theorem z2 (k : Nat) (p0 : (List Int)) (v3_2 : Int) : l2 k p0 0 v3_2 = none := by kernel_rfl
theorem s (k : Nat) (p0 : (List Int)) : f k p0 =
 (l2 k p0 k 0) := by kernel_rfl
theorem ok (k : Nat) : Ok Tryz.prog 175 (sem k) := Fd.ok (cx_ok ⟨spec_l1In.ok k, trivial⟩) ⟨Tryz.func175, rfl, by kernel_rfl⟩ rfl
attribute [irreducible] f l2
end spec_l4Set
/-! loop.example/wholecheck/spec.l4Marks -/
namespace spec_l4Marks
noncomputable def D : Fd := ⟨Tryz.f102, 1, h55, (.ow .sh), [.sh, .sh], .unit, h10⟩
noncomputable def C (k : Nat) : Ctx := cx [] [] [(3, [(0, none), (5, none), (6, none)])] [] [] [] []
noncomputable def sem (k : Nat) : Sem := D.sem (D.ev (C k) k)
noncomputable def f (k : Nat) (p0 : (List Int)) (p1 : Int) : Option ((List Bool) × Unit) := D.ev (C k) k (p0, p1, ())
noncomputable def l3 (k : Nat) (p0 : (List Int)) (n : Nat) (v5_3 : (List Bool)) (v6_3 : Int) : Option ((List Bool) × Unit) :=
 D.lp (C k) k 3 [1, 1, 0, 1, 0] [] n [(6, vI v6_3), (5, vO h55 v5_3), (0, vS h9 p0)]
theorem s3 (k : Nat) (p0 : (List Int)) (n : Nat) (v5_3 : (List Bool)) (v6_3 : Int) : l3 k p0 (n + 1) v5_3 v6_3 =
 (if (decide (v6_3 < ((p0.length : Int)))) = true then
  gd ((0 : Int) ≤ v6_3) <| gd (v6_3 < (p0.length : Int)) <| gd ((0 : Int) ≤ (p0.getD (v6_3.toNat) 0)) <| gd ((p0.getD (v6_3.toNat) 0) < (v5_3.length : Int)) <| l3 k p0 n (v5_3.set ((p0.getD (v6_3.toNat) 0).toNat) true) (w64 (v6_3 + 1))
 else
  some (v5_3, ())) := by kernel_rfl
theorem z3 (k : Nat) (p0 : (List Int)) (v5_3 : (List Bool)) (v6_3 : Int) : l3 k p0 0 v5_3 v6_3 = none := by kernel_rfl
theorem s (k : Nat) (p0 : (List Int)) (p1 : Int) : f k p0 p1 =
 (gd ((0 : Int) ≤ p1) <| gd ((p1 : Int) ≤ 1099511627776) <| l3 k p0 k ((List.replicate p1.toNat false : (List Bool))) 0) := by kernel_rfl
theorem ok (k : Nat) : Ok Tryz.prog 102 (sem k) := Fd.ok (cx_ok trivial) ⟨Tryz.func102, rfl, by kernel_rfl⟩ rfl
attribute [irreducible] f l3
end spec_l4Marks
/-! loop.example/wholecheck/spec.l4Mix -/
namespace spec_l4Mix
noncomputable def D : Fd := ⟨Tryz.f141, 1, h9, (.ow .sh), [.sh, .sh, .sh], .unit, h56⟩
noncomputable def C (k : Nat) : Ctx := cx [(175, spec_l4Set.sem k), (102, spec_l4Marks.sem k)] [] [(7, [(2, none), (7, none), (8, none), (9, none), (10, none)])] [] [] [] []
noncomputable def sem (k : Nat) : Sem := D.sem (D.ev (C k) k)
noncomputable def f (k : Nat) (p0 p1 : (List Int)) (p2 : Int) : Option ((List Int) × Unit) := D.ev (C k) k (p0, p1, p2, ())
noncomputable def l7 (k : Nat) (p2 : Int) (n : Nat) (v7_7 : (List Int)) (v8_7 v9_7 : (List Bool)) (v10_7 : Int) : Option ((List Int) × Unit) :=
 D.lp (C k) k 7 [1, 1, 1, 1, 1, 0, 1, 0] [] n [(10, vI v10_7), (9, vO h55 v9_7), (8, vO h55 v8_7), (7, vO h9 v7_7), (2, vI p2)]
theorem s7 (k : Nat) (p2 : Int) (n : Nat) (v7_7 : (List Int)) (v8_7 v9_7 : (List Bool)) (v10_7 : Int) : l7 k p2 (n + 1) v7_7 v8_7 v9_7 v10_7 =
 (if (decide (v10_7 < 400)) = true then
  if (p2 == 0) = true then
   gd ((0 : Int) ≤ v10_7) <| gd (v10_7 < (v8_7.length : Int)) <| if (v8_7.getD (v10_7.toNat) false) = true then
    gd ((0 : Int) ≤ v10_7) <| gd (v10_7 < (v9_7.length : Int)) <| if (v9_7.getD (v10_7.toNat) false) = true then
     gd ((v7_7.length : Int) + ([v10_7].length : Int) ≤ 1099511627776) <| l7 k p2 n (v7_7 ++ [v10_7]) v8_7 v9_7 (w64 (v10_7 + 1))
    else
     if (p2 == 1) = true then
      gd ((0 : Int) ≤ v10_7) <| gd (v10_7 < (v8_7.length : Int)) <| if (v8_7.getD (v10_7.toNat) false) = true then
       gd ((v7_7.length : Int) + ([v10_7].length : Int) ≤ 1099511627776) <| l7 k p2 n (v7_7 ++ [v10_7]) v8_7 v9_7 (w64 (v10_7 + 1))
      else
       gd ((0 : Int) ≤ v10_7) <| gd (v10_7 < (v9_7.length : Int)) <| if (v9_7.getD (v10_7.toNat) false) = true then
        gd ((v7_7.length : Int) + ([v10_7].length : Int) ≤ 1099511627776) <| l7 k p2 n (v7_7 ++ [v10_7]) v8_7 v9_7 (w64 (v10_7 + 1))
       else
        if (p2 == 2) = true then
         gd ((0 : Int) ≤ v10_7) <| gd (v10_7 < (v8_7.length : Int)) <| if (v8_7.getD (v10_7.toNat) false) = true then
          gd ((0 : Int) ≤ v10_7) <| gd (v10_7 < (v9_7.length : Int)) <| if (!(v9_7.getD (v10_7.toNat) false)) = true then
           gd ((v7_7.length : Int) + ([v10_7].length : Int) ≤ 1099511627776) <| l7 k p2 n (v7_7 ++ [v10_7]) v8_7 v9_7 (w64 (v10_7 + 1))
          else
           l7 k p2 n v7_7 v8_7 v9_7 (w64 (v10_7 + 1))
         else
          l7 k p2 n v7_7 v8_7 v9_7 (w64 (v10_7 + 1))
        else
         l7 k p2 n v7_7 v8_7 v9_7 (w64 (v10_7 + 1))
     else
      if (p2 == 2) = true then
       gd ((0 : Int) ≤ v10_7) <| gd (v10_7 < (v8_7.length : Int)) <| if (v8_7.getD (v10_7.toNat) false) = true then
        gd ((0 : Int) ≤ v10_7) <| gd (v10_7 < (v9_7.length : Int)) <| if (!(v9_7.getD (v10_7.toNat) false)) = true then
         gd ((v7_7.length : Int) + ([v10_7].length : Int) ≤ 1099511627776) <| l7 k p2 n (v7_7 ++ [v10_7]) v8_7 v9_7 (w64 (v10_7 + 1))
        else
         l7 k p2 n v7_7 v8_7 v9_7 (w64 (v10_7 + 1))
       else
        l7 k p2 n v7_7 v8_7 v9_7 (w64 (v10_7 + 1))
      else
       l7 k p2 n v7_7 v8_7 v9_7 (w64 (v10_7 + 1))
   else
    if (p2 == 1) = true then
     gd ((0 : Int) ≤ v10_7) <| gd (v10_7 < (v8_7.length : Int)) <| if (v8_7.getD (v10_7.toNat) false) = true then
      gd ((v7_7.length : Int) + ([v10_7].length : Int) ≤ 1099511627776) <| l7 k p2 n (v7_7 ++ [v10_7]) v8_7 v9_7 (w64 (v10_7 + 1))
     else
      gd ((0 : Int) ≤ v10_7) <| gd (v10_7 < (v9_7.length : Int)) <| if (v9_7.getD (v10_7.toNat) false) = true then
       gd ((v7_7.length : Int) + ([v10_7].length : Int) ≤ 1099511627776) <| l7 k p2 n (v7_7 ++ [v10_7]) v8_7 v9_7 (w64 (v10_7 + 1))
      else
       if (p2 == 2) = true then
        gd ((0 : Int) ≤ v10_7) <| gd (v10_7 < (v8_7.length : Int)) <| if (v8_7.getD (v10_7.toNat) false) = true then
         gd ((0 : Int) ≤ v10_7) <| gd (v10_7 < (v9_7.length : Int)) <| if (!(v9_7.getD (v10_7.toNat) false)) = true then
          gd ((v7_7.length : Int) + ([v10_7].length : Int) ≤ 1099511627776) <| l7 k p2 n (v7_7 ++ [v10_7]) v8_7 v9_7 (w64 (v10_7 + 1))
         else
          l7 k p2 n v7_7 v8_7 v9_7 (w64 (v10_7 + 1))
        else
         l7 k p2 n v7_7 v8_7 v9_7 (w64 (v10_7 + 1))
       else
        l7 k p2 n v7_7 v8_7 v9_7 (w64 (v10_7 + 1))
    else
     if (p2 == 2) = true then
      gd ((0 : Int) ≤ v10_7) <| gd (v10_7 < (v8_7.length : Int)) <| if (v8_7.getD (v10_7.toNat) false) = true then
       gd ((0 : Int) ≤ v10_7) <| gd (v10_7 < (v9_7.length : Int)) <| if (!(v9_7.getD (v10_7.toNat) false)) = true then
        gd ((v7_7.length : Int) + ([v10_7].length : Int) ≤ 1099511627776) <| l7 k p2 n (v7_7 ++ [v10_7]) v8_7 v9_7 (w64 (v10_7 + 1))
       else
        l7 k p2 n v7_7 v8_7 v9_7 (w64 (v10_7 + 1))
      else
       l7 k p2 n v7_7 v8_7 v9_7 (w64 (v10_7 + 1))
     else
      l7 k p2 n v7_7 v8_7 v9_7 (w64 (v10_7 + 1))
  else
   if (p2 == 1) = true then
    gd ((0 : Int) ≤ v10_7) <| gd (v10_7 < (v8_7.length : Int)) <| if (v8_7.getD (v10_7.toNat) false) = true then
     gd ((v7_7.length : Int) + ([v10_7].length : Int) ≤ 1099511627776) <| l7 k p2 n (v7_7 ++ [v10_7]) v8_7 v9_7 (w64 (v10_7 + 1))
    else
     gd ((0 : Int) ≤ v10_7) <| gd (v10_7 < (v9_7.length : Int)) <| if (v9_7.getD (v10_7.toNat) false) = true then
      gd ((v7_7.length : Int) + ([v10_7].length : Int) ≤ 1099511627776) <| l7 k p2 n (v7_7 ++ [v10_7]) v8_7 v9_7 (w64 (v10_7 + 1))
     else
      if (p2 == 2) = true then
       gd ((0 : Int) ≤ v10_7) <| gd (v10_7 < (v8_7.length : Int)) <| if (v8_7.getD (v10_7.toNat) false) = true then
        gd ((0 : Int) ≤ v10_7) <| gd (v10_7 < (v9_7.length : Int)) <| if (!(v9_7.getD (v10_7.toNat) false)) = true then
         gd ((v7_7.length : Int) + ([v10_7].length : Int) ≤ 1099511627776) <| l7 k p2 n (v7_7 ++ [v10_7]) v8_7 v9_7 (w64 (v10_7 + 1))
        else
         l7 k p2 n v7_7 v8_7 v9_7 (w64 (v10_7 + 1))
       else
        l7 k p2 n v7_7 v8_7 v9_7 (w64 (v10_7 + 1))
      else
       l7 k p2 n v7_7 v8_7 v9_7 (w64 (v10_7 + 1))
   else
    if (p2 == 2) = true then
     gd ((0 : Int) ≤ v10_7) <| gd (v10_7 < (v8_7.length : Int)) <| if (v8_7.getD (v10_7.toNat) false) = true then
      gd ((0 : Int) ≤ v10_7) <| gd (v10_7 < (v9_7.length : Int)) <| if (!(v9_7.getD (v10_7.toNat) false)) = true then
       gd ((v7_7.length : Int) + ([v10_7].length : Int) ≤ 1099511627776) <| l7 k p2 n (v7_7 ++ [v10_7]) v8_7 v9_7 (w64 (v10_7 + 1))
      else
       l7 k p2 n v7_7 v8_7 v9_7 (w64 (v10_7 + 1))
     else
      l7 k p2 n v7_7 v8_7 v9_7 (w64 (v10_7 + 1))
    else
     l7 k p2 n v7_7 v8_7 v9_7 (w64 (v10_7 + 1))
 else
  some (v7_7, ())) := by kernel_rfl
theorem z7 (k : Nat) (p2 : Int) (v7_7 : (List Int)) (v8_7 v9_7 : (List Bool)) (v10_7 : Int) : l7 k p2 0 v7_7 v8_7 v9_7 v10_7 = none := by kernel_rfl
theorem s (k : Nat) (p0 p1 : (List Int)) (p2 : Int) : f k p0 p1 p2 =
 ((spec_l4Set.f k p0).bind fun r1 =>
 if (!r1.1) = true then
  some ([], ())
 else
  (spec_l4Set.f k p1).bind fun r2 =>
  if (!r2.1) = true then
   some ([], ())
  else
   (spec_l4Marks.f k p0 400).bind fun r3 =>
   (spec_l4Marks.f k p1 400).bind fun r4 =>
   l7 k p2 k [] r3.1 r4.1 0) := by kernel_rfl
theorem ok (k : Nat) : Ok Tryz.prog 141 (sem k) := Fd.ok (cx_ok ⟨spec_l4Set.ok k, spec_l4Marks.ok k, trivial⟩) ⟨Tryz.func141, rfl, by kernel_rfl⟩ rfl
attribute [irreducible] f l7
end spec_l4Mix
/-! loop.example/wholecheck/spec.SetBoth -/
namespace spec_SetBoth
noncomputable def D : Fd := ⟨Tryz.f99, 1, h9, (.ow .sh), [.sh, .sh], .unit, h52⟩
noncomputable def C (k : Nat) : Ctx := cx [(141, spec_l4Mix.sem k)] [] [] [] [] [] []
noncomputable def sem (k : Nat) : Sem := D.sem (D.ev (C k) k)
noncomputable def f (k : Nat) (p0 p1 : (List Int)) : Option ((List Int) × Unit) := D.ev (C k) k (p0, p1, ())
theorem s (k : Nat) (p0 p1 : (List Int)) : f k p0 p1 =
 ((spec_l4Mix.f k p0 p1 0).bind fun r1 =>
 some (r1.1, ())) := by kernel_rfl
theorem ok (k : Nat) : Ok Tryz.prog 99 (sem k) := Fd.ok (cx_ok ⟨spec_l4Mix.ok k, trivial⟩) ⟨Tryz.func99, rfl, by kernel_rfl⟩ rfl
attribute [irreducible] f
end spec_SetBoth
/-! loop.example/wholecheck/spec.l4Behind -/
namespace spec_l4Behind
noncomputable def D : Fd := ⟨Tryz.f101, 1, h55, (.ow .sh), [.sh, .sh], .unit, h58⟩
noncomputable def C (k : Nat) : Ctx := cx [] [] [(3, [(0, none), (1, none), (5, none), (6, none)]), (6, [(0, none), (1, none), (5, none), (6, none), (7, none)])] [] [] [] []
noncomputable def sem (k : Nat) : Sem := D.sem (D.ev (C k) k)
noncomputable def f (k : Nat) (p0 : (List (List Int))) (p1 : (List Bool)) : Option ((List Bool) × Unit) := D.ev (C k) k (p0, p1, ())
noncomputable def l3 (k : Nat) (p0 : (List (List Int))) (p1 : (List Bool)) (n : Nat) (v5_3 : (List Bool)) (v6_3 : Int) : Option ((List Bool) × Unit) :=
 D.lp (C k) k 3 [1, 1, 0, 1, 0] [] n [(6, vI v6_3), (5, vO h55 v5_3), (1, vS h55 p1), (0, vS h53 p0)]
noncomputable def l6 (k n3 : Nat) (p0 : (List (List Int))) (p1 : (List Bool)) (v6_3 : Int) (n : Nat) (v5_6 : (List Bool)) (v7_6 : Int) : Option ((List Bool) × Unit) :=
 D.lp (C k) k 6 [1, 1, 0, 1, 0, 0, 1, 0, 0, 1, 0] [n3] n [(7, vI v7_6), (6, vI v6_3), (5, vO h55 v5_6), (1, vS h55 p1), (0, vS h53 p0)]
theorem s6 (k n3 : Nat) (p0 : (List (List Int))) (p1 : (List Bool)) (v6_3 : Int) (n : Nat) (v5_6 : (List Bool)) (v7_6 : Int) : l6 k n3 p0 p1 v6_3 (n + 1) v5_6 v7_6 =
 (gd ((0 : Int) ≤ v6_3) <| gd (v6_3 < (p0.length : Int)) <| if (decide (v7_6 < (((p0.getD (v6_3.toNat) []).length : Int)))) = true then
  gd ((0 : Int) ≤ v6_3) <| gd (v6_3 < (p1.length : Int)) <| if (p1.getD (v6_3.toNat) false) = true then
   gd ((0 : Int) ≤ v6_3) <| gd (v6_3 < (p0.length : Int)) <| gd ((0 : Int) ≤ v7_6) <| gd (v7_6 < ((p0.getD (v6_3.toNat) []).length : Int)) <| gd ((0 : Int) ≤ ((p0.getD (v6_3.toNat) []).getD (v7_6.toNat) 0)) <| gd (((p0.getD (v6_3.toNat) []).getD (v7_6.toNat) 0) < (v5_6.length : Int)) <| l6 k n3 p0 p1 v6_3 n (v5_6.set (((p0.getD (v6_3.toNat) []).getD (v7_6.toNat) 0).toNat) true) (w64 (v7_6 + 1))
  else
   l6 k n3 p0 p1 v6_3 n v5_6 (w64 (v7_6 + 1))
 else
  l3 k p0 p1 n3 v5_6 (w64 (v6_3 + 1))) := by kernel_rfl
theorem z6 (k n3 : Nat) (p0 : (List (List Int))) (p1 : (List Bool)) (v6_3 : Int) (v5_6 : (List Bool)) (v7_6 : Int) : l6 k n3 p0 p1 v6_3 0 v5_6 v7_6 = none := by kernel_rfl
theorem s3 (k : Nat) (p0 : (List (List Int))) (p1 : (List Bool)) (n : Nat) (v5_3 : (List Bool)) (v6_3 : Int) : l3 k p0 p1 (n + 1) v5_3 v6_3 =
 (if (decide (v6_3 < ((p0.length : Int)))) = true then
  l6 k n p0 p1 v6_3 k v5_3 0
 else
  some (v5_3, ())) := by kernel_rfl
theorem z3 (k : Nat) (p0 : (List (List Int))) (p1 : (List Bool)) (v5_3 : (List Bool)) (v6_3 : Int) : l3 k p0 p1 0 v5_3 v6_3 = none := by kernel_rfl
theorem s (k : Nat) (p0 : (List (List Int))) (p1 : (List Bool)) : f k p0 p1 =
 (gd ((0 : Int) ≤ ((p0.length : Int))) <| gd ((((p0.length : Int)) : Int) ≤ 1099511627776) <| l3 k p0 p1 k ((List.replicate ((p0.length : Int)).toNat false : (List Bool))) 0) := by kernel_rfl
theorem ok (k : Nat) : Ok Tryz.prog 101 (sem k) := Fd.ok (cx_ok trivial) ⟨Tryz.func101, rfl, by kernel_rfl⟩ rfl
attribute [irreducible] f l3 l6
end spec_l4Behind
/-! loop.example/wholecheck/spec.l4List -/
namespace spec_l4List
noncomputable def D : Fd := ⟨Tryz.f100, 1, h9, (.ow .sh), [.sh], .unit, h57⟩
noncomputable def C (k : Nat) : Ctx := cx [] [] [(3, [(0, none), (3, none), (4, none)])] [] [] [] []
noncomputable def sem (k : Nat) : Sem := D.sem (D.ev (C k) k)
noncomputable def f (k : Nat) (p0 : (List Bool)) : Option ((List Int) × Unit) := D.ev (C k) k (p0, ())
noncomputable def l3 (k : Nat) (p0 : (List Bool)) (n : Nat) (v3_3 : (List Int)) (v4_3 : Int) : Option ((List Int) × Unit) :=
 D.lp (C k) k 3 [1, 1, 0, 1, 0] [] n [(4, vI v4_3), (3, vO h9 v3_3), (0, vS h55 p0)]
theorem s3 (k : Nat) (p0 : (List Bool)) (n : Nat) (v3_3 : (List Int)) (v4_3 : Int) : l3 k p0 (n + 1) v3_3 v4_3 =
 (if (decide (v4_3 < ((p0.length : Int)))) = true then
  gd ((0 : Int) ≤ v4_3) <| gd (v4_3 < (p0.length : Int)) <| if (p0.getD (v4_3.toNat) false) = true then
   gd ((v3_3.length : Int) + ([v4_3].length : Int) ≤ 1099511627776) <| l3 k p0 n (v3_3 ++ [v4_3]) (w64 (v4_3 + 1))
  else
   l3 k p0 n v3_3 (w64 (v4_3 + 1))
 else
  some (v3_3, ())) := by kernel_rfl
theorem z3 (k : Nat) (p0 : (List Bool)) (v3_3 : (List Int)) (v4_3 : Int) : l3 k p0 0 v3_3 v4_3 = none := by kernel_rfl
theorem s (k : Nat) (p0 : (List Bool)) : f k p0 =
 (l3 k p0 k [] 0) := by kernel_rfl
theorem ok (k : Nat) : Ok Tryz.prog 100 (sem k) := Fd.ok (cx_ok trivial) ⟨Tryz.func100, rfl, by kernel_rfl⟩ rfl
attribute [irreducible] f l3
end spec_l4List
/-! loop.example/wholecheck/spec.l29Follow -/
namespace spec_l29Follow
noncomputable def D : Fd := ⟨Tryz.f51, 1, h53, (.ow .sh), [.sh, .sh, .sh], .unit, h44⟩
noncomputable def C (k : Nat) : Ctx := cx [(71, spec_l4Steps.sem k), (98, spec_FirstState.sem k), (97, spec_l4Number.sem k), (65, spec_l29Block.sem k), (99, spec_SetBoth.sem k), (102, spec_l4Marks.sem k), (101, spec_l4Behind.sem k), (100, spec_l4List.sem k)] [((7, 8), 3), ((10, 2), 1)] [(5, [(2, none), (4, none), (7, none), (8, none), (9, some (h53, (.ow .sh))), (10, none)])] [] [(2, [0, 1, 2, 3, 4, 5]), (7, [0, 1, 2, 3, 4, 5, 6, 7, 8])] [((2, 2), [3])] []
noncomputable def sem (k : Nat) : Sem := D.sem (D.ev (C k) k)
noncomputable def f (k : Nat) (p0 : y7) (p1 p2 : (List Int)) : Option ((List (List Int)) × Unit) := D.ev (C k) k (p0, p1, p2, ())
noncomputable def l5 (k : Nat) (p1 p2 : (List Int)) (n : Nat) (v7_5 : (List (List Int))) (v8_5 : (List Int)) (v9_5 : (List (List Int))) (v10_5 : Int) : Option ((List (List Int)) × Unit) :=
 D.lp (C k) k 5 [1, 1, 1, 1, 0, 1, 0] [] n [(10, vI v10_5), (9, .val h53 (.ow .sh) v9_5), (8, vO h9 v8_5), (7, vO h53 v7_5), (4, .val h42 (.ow .sh) p1), (2, vS h9 p2)]
theorem s5 (k : Nat) (p1 p2 : (List Int)) (n : Nat) (v7_5 : (List (List Int))) (v8_5 : (List Int)) (v9_5 : (List (List Int))) (v10_5 : Int) : l5 k p1 p2 (n + 1) v7_5 v8_5 v9_5 v10_5 =
 (if (decide (v10_5 < ((p2.length : Int)))) = true then
  gd ((0 : Int) ≤ v10_5) <| gd (v10_5 < (p2.length : Int)) <| (spec_l29Block.f k p1 (p2.getD (v10_5.toNat) 0)).bind fun r4 =>
  (spec_SetBoth.f k v8_5 r4.1).bind fun r5 =>
  if (((r5.1.length : Int)) == 0) = true then
   some (v9_5, ())
  else
   gd ((v9_5.length : Int) + ([r5.1].length : Int) ≤ 1099511627776) <| (spec_l4Marks.f k r5.1 ((v7_5.length : Int))).bind fun r6 =>
   (spec_l4Behind.f k v7_5 r6.1).bind fun r7 =>
   (spec_l4List.f k r7.1).bind fun r8 =>
   l5 k p1 p2 n v7_5 r8.1 (v9_5 ++ [r5.1]) (w64 (v10_5 + 1))
 else
  some (v9_5, ())) := by kernel_rfl
theorem z5 (k : Nat) (p1 p2 : (List Int)) (v7_5 : (List (List Int))) (v8_5 : (List Int)) (v9_5 : (List (List Int))) (v10_5 : Int) : l5 k p1 p2 0 v7_5 v8_5 v9_5 v10_5 = none := by kernel_rfl
theorem s (k : Nat) (p0 : y7) (p1 p2 : (List Int)) : f k p0 p1 p2 =
 ((spec_l4Steps.f k p0).bind fun r1 =>
 (spec_FirstState.f k p0).bind fun r2 =>
 (spec_l4Number.f k p0 r2.1).bind fun r3 =>
 l5 k p1 p2 k r1.1 [r3.1] [] 0) := by kernel_rfl
theorem ok (k : Nat) : Ok Tryz.prog 51 (sem k) := Fd.ok (cx_ok ⟨spec_l4Steps.ok k, spec_FirstState.ok k, spec_l4Number.ok k, spec_l29Block.ok k, spec_SetBoth.ok k, spec_l4Marks.ok k, spec_l4Behind.ok k, spec_l4List.ok k, trivial⟩) ⟨Tryz.func51, rfl, by kernel_rfl⟩ rfl
attribute [irreducible] f l5
end spec_l29Follow
/-! loop.example/wholecheck/spec.SetValid -/
namespace spec_SetValid
noncomputable def D : Fd := ⟨Tryz.f119, 1, .bool, .sh, [.sh, .sh], .unit, h50⟩
noncomputable def C (k : Nat) : Ctx := cx [(127, spec_SizeOf.sem k), (96, spec_l1In.sem k)] [] [(3, [(1, none), (5, none), (6, none)])] [] [(5, [0, 1, 2, 3, 4, 5, 6, 7, 8, 9, 10, 11, 12, 13, 14, 15, 16, 17, 18, 19, 20, 21, 22, 23])] [] []
noncomputable def sem (k : Nat) : Sem := D.sem (D.ev (C k) k)
noncomputable def f (k : Nat) (p0 : y7) (p1 : (List Int)) : Option (Bool × Unit) := D.ev (C k) k (p0, p1, ())
noncomputable def l3 (k : Nat) (p1 : (List Int)) (n : Nat) (v5_3 v6_3 : Int) : Option (Bool × Unit) :=
 D.lp (C k) k 3 [1, 1, 0, 1, 0] [] n [(6, vI v6_3), (5, vI v5_3), (1, vS h9 p1)]
theorem s3 (k : Nat) (p1 : (List Int)) (n : Nat) (v5_3 v6_3 : Int) : l3 k p1 (n + 1) v5_3 v6_3 =
 (if (decide (v6_3 < ((p1.length : Int)))) = true then
  gd ((0 : Int) ≤ v6_3) <| gd (v6_3 < (p1.length : Int)) <| (spec_l1In.f k (p1.getD (v6_3.toNat) 0) 0 (w64 (v5_3 - 1))).bind fun r2 =>
  if (!r2.1) = true then
   some (false, ())
  else
   if (decide (v6_3 > 0)) = true then
    gd ((0 : Int) ≤ v6_3) <| gd (v6_3 < (p1.length : Int)) <| gd ((0 : Int) ≤ (w64 (v6_3 - 1))) <| gd ((w64 (v6_3 - 1)) < (p1.length : Int)) <| if (decide ((p1.getD (v6_3.toNat) 0) ≤ (p1.getD ((w64 (v6_3 - 1)).toNat) 0))) = true then
     some (false, ())
    else
     l3 k p1 n v5_3 (w64 (v6_3 + 1))
   else
    l3 k p1 n v5_3 (w64 (v6_3 + 1))
 else
  some (decide (v5_3 > 0), ())) := by kernel_rfl
theorem z3 (k : Nat) (p1 : (List Int)) (v5_3 v6_3 : Int) : l3 k p1 0 v5_3 v6_3 = none := by kernel_rfl
theorem s (k : Nat) (p0 : y7) (p1 : (List Int)) : f k p0 p1 =
 ((spec_SizeOf.f k p0).bind fun r1 =>
 l3 k p1 k r1.1 0) := by kernel_rfl
theorem ok (k : Nat) : Ok Tryz.prog 119 (sem k) := Fd.ok (cx_ok ⟨spec_SizeOf.ok k, spec_l1In.ok k, trivial⟩) ⟨Tryz.func119, rfl, by kernel_rfl⟩ rfl
attribute [irreducible] f l3
end spec_SetValid
/-! loop.example/wholecheck/spec.l2Has -/
namespace spec_l2Has
noncomputable def D : Fd := ⟨Tryz.f72, 1, .bool, .sh, [.sh, .sh], .unit, h10⟩
noncomputable def C (k : Nat) : Ctx := cx [] [] [(2, [(0, none), (1, none), (5, none)])] [] [] [] []
noncomputable def sem (k : Nat) : Sem := D.sem (D.ev (C k) k)
noncomputable def f (k : Nat) (p0 : (List Int)) (p1 : Int) : Option (Bool × Unit) := D.ev (C k) k (p0, p1, ())
noncomputable def l2 (k : Nat) (p0 : (List Int)) (p1 : Int) (n : Nat) (v5_2 : Int) : Option (Bool × Unit) :=
 D.lp (C k) k 2 [1, 0, 1, 0] [] n [(5, vI v5_2), (1, vI p1), (0, vS h9 p0)]
theorem s2 (k : Nat) (p0 : (List Int)) (p1 : Int) (n : Nat) (v5_2 : Int) : l2 k p0 p1 (n + 1) v5_2 =
 (if (decide (v5_2 < ((p0.length : Int)))) = true then
  gd ((0 : Int) ≤ v5_2) <| gd (v5_2 < (p0.length : Int)) <| if ((p0.getD (v5_2.toNat) 0) == p1) = true then
   some (true, ())
  else
   l2 k p0 p1 n (w64 (v5_2 + 1))
 else
  some (false, ())) := by kernel_rfl
theorem z2 (k : Nat) (p0 : (List Int)) (p1 : Int) (v5_2 : Int) : l2 k p0 p1 0 v5_2 = none := by kernel_rfl
theorem s (k : Nat) (p0 : (List Int)) (p1 : Int) : f k p0 p1 =
 (l2 k p0 p1 k 0) := by kernel_rfl
theorem ok (k : Nat) : Ok Tryz.prog 72 (sem k) := Fd.ok (cx_ok trivial) ⟨Tryz.func72, rfl, by kernel_rfl⟩ rfl
attribute [irreducible] f l2
end spec_l2Has
/-! loop.example/wholecheck/spec.l28Rows -/
namespace spec_l28Rows
noncomputable def D : Fd := ⟨Tryz.f121, 1, h22, (.ag (.ow .sh)), [.sh], .unit, h59⟩
noncomputable def C (k : Nat) : Ctx := cx [(159, spec_l2Same.sem k)] [] [(3, [(0, none), (2, none), (3, none), (4, none)]), (7, [(0, none), (2, none), (3, none), (4, none), (5, none), (6, none)])] [] [(9, [0, 1, 2, 3, 4, 5, 6, 7, 8])] [] []
noncomputable def sem (k : Nat) : Sem := D.sem (D.ev (C k) k)
noncomputable def f (k : Nat) (p0 : (List (List Int))) : Option ((List Int) × Unit) := D.ev (C k) k (p0, ())
noncomputable def l3 (k : Nat) (p0 : (List (List Int))) (n : Nat) (v3_3 : (List Int)) (v4_3 : Int) : Option ((List Int) × Unit) :=
 D.lp (C k) k 3 [1, 1, 0, 1, 0] [] n [(4, vI v4_3), (3, vO h42 v3_3), (2, vO h42 []), (0, vS h53 p0)]
noncomputable def l7 (k n3 : Nat) (p0 : (List (List Int))) (v3_3 : (List Int)) (v4_3 : Int) (n : Nat) (v5_7 v6_7 : Int) : Option ((List Int) × Unit) :=
 D.lp (C k) k 7 [1, 1, 0, 1, 0, 0, 1, 0, 0, 1, 0, 1, 0] [n3] n [(6, vI v6_7), (5, vI v5_7), (4, vI v4_3), (3, vO h42 v3_3), (2, vO h42 []), (0, vS h53 p0)]
theorem s7 (k n3 : Nat) (p0 : (List (List Int))) (v3_3 : (List Int)) (v4_3 : Int) (n : Nat) (v5_7 v6_7 : Int) : l7 k n3 p0 v3_3 v4_3 (n + 1) v5_7 v6_7 =
 (if (decide (v6_7 ≥ 0)) = true then
  gd ((0 : Int) ≤ v6_7) <| gd (v6_7 < (p0.length : Int)) <| gd ((0 : Int) ≤ v4_3) <| gd (v4_3 < (p0.length : Int)) <| (spec_l2Same.f k (p0.getD (v6_7.toNat) []) (p0.getD (v4_3.toNat) [])).bind fun r1 =>
  if r1.1 = true then
   l7 k n3 p0 v3_3 v4_3 n v6_7 (w64 (v6_7 - 1))
  else
   l7 k n3 p0 v3_3 v4_3 n v5_7 (w64 (v6_7 - 1))
 else
  gd ((v3_3.length : Int) + ([v5_7].length : Int) ≤ 1099511627776) <| gd ((0 : Nat) = 0) <| gd ((0 : Nat) = 0) <| l3 k p0 n3 (v3_3 ++ [v5_7]) (w64 (v4_3 + 1))) := by kernel_rfl
theorem z7 (k n3 : Nat) (p0 : (List (List Int))) (v3_3 : (List Int)) (v4_3 : Int) (v5_7 v6_7 : Int) : l7 k n3 p0 v3_3 v4_3 0 v5_7 v6_7 = none := by kernel_rfl
theorem s3 (k : Nat) (p0 : (List (List Int))) (n : Nat) (v3_3 : (List Int)) (v4_3 : Int) : l3 k p0 (n + 1) v3_3 v4_3 =
 (if (decide (v4_3 < ((p0.length : Int)))) = true then
  l7 k n p0 v3_3 v4_3 k v4_3 (w64 (v4_3 - 1))
 else
  some (v3_3, ())) := by kernel_rfl
theorem z3 (k : Nat) (p0 : (List (List Int))) (v3_3 : (List Int)) (v4_3 : Int) : l3 k p0 0 v3_3 v4_3 = none := by kernel_rfl
theorem s (k : Nat) (p0 : (List (List Int))) : f k p0 =
 (l3 k p0 k [] 0) := by kernel_rfl
theorem ok (k : Nat) : Ok Tryz.prog 121 (sem k) := Fd.ok (cx_ok ⟨spec_l2Same.ok k, trivial⟩) ⟨Tryz.func121, rfl, by kernel_rfl⟩ rfl
attribute [irreducible] f l3 l7
end spec_l28Rows
/-! loop.example/wholecheck/spec.SplitBlocks -/
namespace spec_SplitBlocks
noncomputable def D : Fd := ⟨Tryz.f63, 2, h60, (.pr (.ag (.ow .sh)) .sh), [.sh, .sh, .sh], .unit, h44⟩
noncomputable def C (k : Nat) : Ctx := cx [(76, spec_BlocksValid.sem k), (119, spec_SetValid.sem k), (72, spec_l2Has.sem k), (120, spec_l1Truth.sem k), (121, spec_l28Rows.sem k)] [((7, 13), 3)] [(5, [(2, none), (4, none), (6, none), (8, none), (9, none)])] [] [(7, [0, 1, 2, 3, 4, 5, 6, 7, 8, 9, 10, 11, 12, 13])] [((7, 8), [4]), ((7, 9), [4])] []
noncomputable def sem (k : Nat) : Sem := D.sem (D.ev (C k) k)
noncomputable def f (k : Nat) (p0 : y7) (p1 p2 : (List Int)) : Option (((List Int) × Bool) × Unit) := D.ev (C k) k (p0, p1, p2, ())
noncomputable def l5 (k : Nat) (p1 p2 : (List Int)) (n : Nat) (v8_5 : (List (List Int))) (v9_5 : Int) : Option (((List Int) × Bool) × Unit) :=
 D.lp (C k) k 5 [1, 1, 1, 0, 1, 0] [] n [(9, vI v9_5), (8, vO h53 v8_5), (6, vO h42 []), (4, .val h42 (.ow .sh) p1), (2, vS h9 p2)]
theorem s5 (k : Nat) (p1 p2 : (List Int)) (n : Nat) (v8_5 : (List (List Int))) (v9_5 : Int) : l5 k p1 p2 (n + 1) v8_5 v9_5 =
 (if (decide (v9_5 < ((p1.length : Int)))) = true then
  gd ((0 : Int) ≤ v9_5) <| gd (v9_5 < (p1.length : Int)) <| (spec_l2Has.f k p2 v9_5).bind fun r3 =>
  (spec_l1Truth.f k r3.1).bind fun r4 =>
  gd ((v8_5.length : Int) + ([[(p1.getD (v9_5.toNat) 0), r4.1]].length : Int) ≤ 1099511627776) <| l5 k p1 p2 n (v8_5 ++ [[(p1.getD (v9_5.toNat) 0), r4.1]]) (w64 (v9_5 + 1))
 else
  (spec_l28Rows.f k v8_5).bind fun r5 =>
  some ((r5.1, true), ())) := by kernel_rfl
theorem z5 (k : Nat) (p1 p2 : (List Int)) (v8_5 : (List (List Int))) (v9_5 : Int) : l5 k p1 p2 0 v8_5 v9_5 = none := by kernel_rfl
theorem s (k : Nat) (p0 : y7) (p1 p2 : (List Int)) : f k p0 p1 p2 =
 ((spec_BlocksValid.f k p0 p1).bind fun r1 =>
 if (!r1.1) = true then
  some (([], false), ())
 else
  (spec_SetValid.f k p0 p2).bind fun r2 =>
  if (!r2.1) = true then
   some (([], false), ())
  else
   l5 k p1 p2 k [] 0) := by kernel_rfl
theorem ok (k : Nat) : Ok Tryz.prog 63 (sem k) := Fd.ok (cx_ok ⟨spec_BlocksValid.ok k, spec_SetValid.ok k, spec_l2Has.ok k, spec_l1Truth.ok k, spec_l28Rows.ok k, trivial⟩) ⟨Tryz.func63, rfl, by kernel_rfl⟩ rfl
attribute [irreducible] f l5
end spec_SplitBlocks
/-! loop.example/wholecheck/spec.StatesWhere -/
namespace spec_StatesWhere
noncomputable def D : Fd := ⟨Tryz.f82, 1, h9, (.ow .sh), [.sh, .sh], .unit, h61⟩
noncomputable def C (k : Nat) : Ctx := cx [(142, spec_SystemValid.sem k), (80, spec_l2Is.sem k), (127, spec_SizeOf.sem k), (129, spec_l4State.sem k), (143, spec_l2Last.sem k)] [] [(5, [(1, none), (2, none), (5, none), (6, none)])] [] [] [] []
noncomputable def sem (k : Nat) : Sem := D.sem (D.ev (C k) k)
noncomputable def f (k : Nat) (p0 : y7) (p1 : y2) : Option ((List Int) × Unit) := D.ev (C k) k (p0, p1, ())
noncomputable def l5 (k : Nat) (p0 : y7) (p1 : y2) (n : Nat) (v5_5 : (List Int)) (v6_5 : Int) : Option ((List Int) × Unit) :=
 D.lp (C k) k 5 [1, 1, 1, 0, 1, 0] [] n [(6, vI v6_5), (5, vO h9 v5_5), (2, .val h40 (.ow .sh) p0), (1, vS h7 p1)]
theorem s5 (k : Nat) (p0 : y7) (p1 : y2) (n : Nat) (v5_5 : (List Int)) (v6_5 : Int) : l5 k p0 p1 (n + 1) v5_5 v6_5 =
 ((spec_SizeOf.f k p0).bind fun r3 =>
 if (decide (v6_5 < r3.1)) = true then
  (spec_l4State.f k p0 v6_5).bind fun r4 =>
  (spec_l2Last.f k p1 r4.1).bind fun r5 =>
  if (r5.1 == 1) = true then
   gd ((v5_5.length : Int) + ([v6_5].length : Int) ≤ 1099511627776) <| l5 k p0 p1 n (v5_5 ++ [v6_5]) (w64 (v6_5 + 1))
  else
   l5 k p0 p1 n v5_5 (w64 (v6_5 + 1))
 else
  some (v5_5, ())) := by kernel_rfl
theorem z5 (k : Nat) (p0 : y7) (p1 : y2) (v5_5 : (List Int)) (v6_5 : Int) : l5 k p0 p1 0 v5_5 v6_5 = none := by kernel_rfl
theorem s (k : Nat) (p0 : y7) (p1 : y2) : f k p0 p1 =
 ((spec_SystemValid.f k p0).bind fun r1 =>
 if (!r1.1) = true then
  some ([], ())
 else
  (spec_l2Is.f k p1 ((p0.1.length : Int)) 2).bind fun r2 =>
  if (!r2.1) = true then
   some ([], ())
  else
   l5 k p0 p1 k [] 0) := by kernel_rfl
theorem ok (k : Nat) : Ok Tryz.prog 82 (sem k) := Fd.ok (cx_ok ⟨spec_SystemValid.ok k, spec_l2Is.ok k, spec_SizeOf.ok k, spec_l4State.ok k, spec_l2Last.ok k, trivial⟩) ⟨Tryz.func82, rfl, by kernel_rfl⟩ rfl
attribute [irreducible] f l5
end spec_StatesWhere
/-! loop.example/wholecheck/spec.SetWithout -/
namespace spec_SetWithout
noncomputable def D : Fd := ⟨Tryz.f81, 1, h9, (.ow .sh), [.sh, .sh], .unit, h52⟩
noncomputable def C (k : Nat) : Ctx := cx [(141, spec_l4Mix.sem k)] [] [] [] [] [] []
noncomputable def sem (k : Nat) : Sem := D.sem (D.ev (C k) k)
noncomputable def f (k : Nat) (p0 p1 : (List Int)) : Option ((List Int) × Unit) := D.ev (C k) k (p0, p1, ())
theorem s (k : Nat) (p0 p1 : (List Int)) : f k p0 p1 =
 ((spec_l4Mix.f k p0 p1 2).bind fun r1 =>
 some (r1.1, ())) := by kernel_rfl
theorem ok (k : Nat) : Ok Tryz.prog 81 (sem k) := Fd.ok (cx_ok ⟨spec_l4Mix.ok k, trivial⟩) ⟨Tryz.func81, rfl, by kernel_rfl⟩ rfl
attribute [irreducible] f
end spec_SetWithout
/-! loop.example/wholecheck/spec.l29Bad -/
namespace spec_l29Bad
noncomputable def D : Fd := ⟨Tryz.f64, 1, h9, (.ow .sh), [.sh, .sh, .sh], .unit, h62⟩
noncomputable def C (k : Nat) : Ctx := cx [(82, spec_StatesWhere.sem k), (81, spec_SetWithout.sem k)] [] [] [] [] [] []
noncomputable def sem (k : Nat) : Sem := D.sem (D.ev (C k) k)
noncomputable def f (k : Nat) (p0 : y7) (p1 : y2) (p2 : (List Int)) : Option ((List Int) × Unit) := D.ev (C k) k (p0, p1, p2, ())
theorem s (k : Nat) (p0 : y7) (p1 : y2) (p2 : (List Int)) : f k p0 p1 p2 =
 ((spec_StatesWhere.f k p0 p1).bind fun r1 =>
 (spec_SetWithout.f k p2 r1.1).bind fun r2 =>
 some (r2.1, ())) := by kernel_rfl
theorem ok (k : Nat) : Ok Tryz.prog 64 (sem k) := Fd.ok (cx_ok ⟨spec_StatesWhere.ok k, spec_SetWithout.ok k, trivial⟩) ⟨Tryz.func64, rfl, by kernel_rfl⟩ rfl
attribute [irreducible] f
end spec_l29Bad
/-! loop.example/wholecheck/spec.SplitFor -/
namespace spec_SplitFor
noncomputable def D : Fd := ⟨Tryz.f27, 2, h60, (.pr (.ag (.ow .sh)) .sh), [.sh, .sh, .sh, .sh], .unit, h47⟩
noncomputable def C (k : Nat) : Ctx := cx [(62, spec_l29Asked.sem k), (51, spec_l29Follow.sem k), (63, spec_SplitBlocks.sem k), (64, spec_l29Bad.sem k), (65, spec_l29Block.sem k)] [] [] [] [(11, [0, 1, 2, 3, 4, 5, 6, 7, 8, 9, 10, 11, 12, 13, 14, 15, 16, 17])] [((11, 11), [4, 5]), ((11, 12), [4, 5])] []
noncomputable def sem (k : Nat) : Sem := D.sem (D.ev (C k) k)
noncomputable def f (k : Nat) (p0 : y7) (p1 p2 : (List Int)) (p3 : y2) : Option (((List Int) × Bool) × Unit) := D.ev (C k) k (p0, p1, p2, p3, ())
theorem s (k : Nat) (p0 : y7) (p1 p2 : (List Int)) (p3 : y2) : f k p0 p1 p2 p3 =
 ((spec_l29Asked.f k p0 p1 p2 p3).bind fun r1 =>
 if (!r1.1) = true then
  some (([], false), ())
 else
  (spec_l29Follow.f k p0 p1 p2).bind fun r2 =>
  if (((r2.1.length : Int)) == 0) = true then
   some (([], false), ())
  else
   gd ((0 : Int) ≤ (w64 (((r2.1.length : Int)) - 1))) <| gd ((w64 (((r2.1.length : Int)) - 1)) < (r2.1.length : Int)) <| if (decide (((r2.1.length : Int)) < ((p2.length : Int)))) = true then
    (spec_SplitBlocks.f k p0 p1 (r2.1.getD ((w64 (((r2.1.length : Int)) - 1)).toNat) [])).bind fun r3 =>
    some (r3.1, ())
   else
    (spec_l29Bad.f k p0 p3 (r2.1.getD ((w64 (((r2.1.length : Int)) - 1)).toNat) [])).bind fun r4 =>
    if (decide (((r4.1.length : Int)) > 0)) = true then
     some (([], false), ())
    else
     gd ((0 : Int) ≤ (w64 (((p2.length : Int)) - 1))) <| gd ((w64 (((p2.length : Int)) - 1)) < (p2.length : Int)) <| (spec_l29Block.f k p1 (p2.getD ((w64 (((p2.length : Int)) - 1)).toNat) 0)).bind fun r5 =>
     (spec_l29Bad.f k p0 p3 r5.1).bind fun r6 =>
     (spec_SplitBlocks.f k p0 p1 r6.1).bind fun r7 =>
     some (r7.1, ())) := by kernel_rfl
theorem ok (k : Nat) : Ok Tryz.prog 27 (sem k) := Fd.ok (cx_ok ⟨spec_l29Asked.ok k, spec_l29Follow.ok k, spec_SplitBlocks.ok k, spec_l29Bad.ok k, spec_l29Block.ok k, trivial⟩) ⟨Tryz.func27, rfl, by kernel_rfl⟩ rfl
attribute [irreducible] f
end spec_SplitFor
/-! loop.example/wholecheck/impl.in -/
namespace impl_in
noncomputable def D : Fd := ⟨Tryz.f106, 1, .bool, .sh, [.sh, .sh, .sh], .unit, h35⟩
noncomputable def C (k : Nat) : Ctx := cx [] [] [] [] [] [] []
noncomputable def sem (k : Nat) : Sem := D.sem (D.ev (C k) k)
noncomputable def f (k : Nat) (p0 p1 p2 : Int) : Option (Bool × Unit) := D.ev (C k) k (p0, p1, p2, ())
theorem s (k : Nat) (p0 p1 p2 : Int) : f k p0 p1 p2 =
 (if (decide (p0 ≥ p1)) = true then
  some (decide (p0 ≤ p2), ())
 else
  some (false, ())) := by kernel_rfl
theorem ok (k : Nat) : Ok Tryz.prog 106 (sem k) := Fd.ok (cx_ok trivial) ⟨Tryz.func106, rfl, by kernel_rfl⟩ rfl
attribute [irreducible] f
end impl_in
/-! loop.example/wholecheck/impl.varOk -/
namespace impl_varOk
noncomputable def D : Fd := ⟨Tryz.f153, 1, .bool, .sh, [.sh], .unit, h24⟩
noncomputable def C (k : Nat) : Ctx := cx [(106, impl_in.sem k)] [] [] [] [] [] []
noncomputable def sem (k : Nat) : Sem := D.sem (D.ev (C k) k)
noncomputable def f (k : Nat) (p0 : (Int × (Int × Int))) : Option (Bool × Unit) := D.ev (C k) k (p0, ())
theorem s (k : Nat) (p0 : (Int × (Int × Int))) : f k p0 =
 ((impl_in.f k p0.1 (-9999) 9999).bind fun r1 =>
 if r1.1 = true then
  (impl_in.f k p0.2.1 p0.1 9999).bind fun r2 =>
  if r2.1 = true then
   if (decide ((w64 (p0.2.1 - p0.1)) < 20)) = true then
    (impl_in.f k p0.2.2 p0.1 p0.2.1).bind fun r3 =>
    some (r3.1, ())
   else
    some (false, ())
  else
   some (false, ())
 else
  some (false, ())) := by kernel_rfl
theorem ok (k : Nat) : Ok Tryz.prog 153 (sem k) := Fd.ok (cx_ok ⟨impl_in.ok k, trivial⟩) ⟨Tryz.func153, rfl, by kernel_rfl⟩ rfl
attribute [irreducible] f
end impl_varOk
/-! loop.example/wholecheck/impl.SystemValid$1 -/
namespace impl_SystemValid_1
noncomputable def D : Fd := ⟨Tryz.f152, 1, .bool, .sh, [.sh], .unit, h24⟩
noncomputable def C (k : Nat) : Ctx := cx [(153, impl_varOk.sem k)] [] [] [] [] [] []
noncomputable def sem (k : Nat) : Sem := D.sem (D.ev (C k) k)
noncomputable def f (k : Nat) (p0 : (Int × (Int × Int))) : Option (Bool × Unit) := D.ev (C k) k (p0, ())
theorem s (k : Nat) (p0 : (Int × (Int × Int))) : f k p0 =
 ((impl_varOk.f k p0).bind fun r1 =>
 some (!r1.1, ())) := by kernel_rfl
theorem ok (k : Nat) : Ok Tryz.prog 152 (sem k) := Fd.ok (cx_ok ⟨impl_varOk.ok k, trivial⟩) ⟨Tryz.func152, rfl, by kernel_rfl⟩ rfl
attribute [irreducible] f
end impl_SystemValid_1
/-! slices.IndexFunc[[]loop.example/wholecheck/impl.Var,loop.example/wholecheck/impl.Var] -/
namespace slices_IndexFunc_impl_Var_impl_Var
noncomputable def D : Fd := ⟨Tryz.f181, 1, I, .sh, [.sh, .sh], .unit, h65⟩
noncomputable def C (k : Nat) : Ctx := cx [] [] [(2, [(0, none), (1, none), (7, none), (8, none)])] [] [] [] []
noncomputable def sem (k : Nat) : Sem := D.sem (D.ev (C k) k)
noncomputable def f (k : Nat) (p0 : y0) (p1 : y8) : Option (Int × Unit) := D.ev (C k) k (p0, p1, ())
noncomputable def l2 (k : Nat) (p0 : y0) (p1 : y8) (n : Nat) (v8_2 : Int) : Option (Int × Unit) :=
 D.lp (C k) k 2 [1, 0, 1, 0] [] n [(8, vI v8_2), (7, vI ((p0.length : Int))), (1, vS h63 p1), (0, vS h2 p0)]
theorem s2 (k : Nat) (p0 : y0) (p1 : y8) (n : Nat) (v8_2 : Int) : l2 k p0 p1 (n + 1) v8_2 =
 (if (decide (v8_2 < ((p0.length : Int)))) = true then
  gd ((0 : Int) ≤ v8_2) <| gd (v8_2 < (p0.length : Int)) <| (p1 (p0.getD (v8_2.toNat) (0, (0, 0)))).bind fun r1 =>
  if r1 = true then
   some (v8_2, ())
  else
   l2 k p0 p1 n (w64 (v8_2 + 1))
 else
  some ((-1), ())) := by kernel_rfl
theorem z2 (k : Nat) (p0 : y0) (p1 : y8) (v8_2 : Int) : l2 k p0 p1 0 v8_2 = none := by kernel_rfl
theorem s (k : Nat) (p0 : y0) (p1 : y8) : f k p0 p1 =
 (l2 k p0 p1 k 0) := by kernel_rfl
theorem ok (k : Nat) : Ok Tryz.prog 181 (sem k) := Fd.ok (cx_ok trivial) ⟨Tryz.func181, rfl, by kernel_rfl⟩ rfl
attribute [irreducible] f l2
end slices_IndexFunc_impl_Var_impl_Var
/-! slices.ContainsFunc[[]loop.example/wholecheck/impl.Var,loop.example/wholecheck/impl.Var] -/
namespace slices_ContainsFunc_impl_Var_impl_Var
noncomputable def D : Fd := ⟨Tryz.f151, 1, .bool, .sh, [.sh, .sh], .unit, h65⟩
noncomputable def C (k : Nat) : Ctx := cx [(181, slices_IndexFunc_impl_Var_impl_Var.sem k)] [] [] [] [] [] []
noncomputable def sem (k : Nat) : Sem := D.sem (D.ev (C k) k)
noncomputable def f (k : Nat) (p0 : y0) (p1 : y8) : Option (Bool × Unit) := D.ev (C k) k (p0, p1, ())
theorem s (k : Nat) (p0 : y0) (p1 : y8) : f k p0 p1 =
 ((slices_IndexFunc_impl_Var_impl_Var.f k p0 p1).bind fun r1 =>
 some (decide (r1.1 ≥ 0), ())) := by kernel_rfl
theorem ok (k : Nat) : Ok Tryz.prog 151 (sem k) := Fd.ok (cx_ok ⟨slices_IndexFunc_impl_Var_impl_Var.ok k, trivial⟩) ⟨Tryz.func151, rfl, by kernel_rfl⟩ rfl
attribute [irreducible] f
end slices_ContainsFunc_impl_Var_impl_Var
/-! loop.example/wholecheck/impl.size -/
namespace impl_size
noncomputable def D : Fd := ⟨Tryz.f123, 1, I, .sh, [.sh], .unit, h25⟩
noncomputable def C (k : Nat) : Ctx := cx [] [] [(3, [(3, none), (6, none), (7, none), (8, none)])] [] [] [] []
noncomputable def sem (k : Nat) : Sem := D.sem (D.ev (C k) k)
noncomputable def f (k : Nat) (p0 : y0) : Option (Int × Unit) := D.ev (C k) k (p0, ())
noncomputable def l3 (k : Nat) (p0 : y0) (n : Nat) (v3_3 v8_3 : Int) : Option (Int × Unit) :=
 D.lp (C k) k 3 [1, 1, 0, 1, 0] [] n [(8, vI v8_3), (7, vI ((p0.length : Int))), (6, vS h2 p0), (3, vI v3_3)]
theorem s3 (k : Nat) (p0 : y0) (n : Nat) (v3_3 v8_3 : Int) : l3 k p0 (n + 1) v3_3 v8_3 =
 (if (decide (v8_3 < ((p0.length : Int)))) = true then
  gd ((0 : Int) ≤ v8_3) <| gd (v8_3 < (p0.length : Int)) <| l3 k p0 n (w64 (v3_3 * (w64 ((w64 ((p0.getD (v8_3.toNat) (0, (0, 0))).2.1 - (p0.getD (v8_3.toNat) (0, (0, 0))).1)) + 1)))) (w64 (v8_3 + 1))
 else
  some (v3_3, ())) := by kernel_rfl
theorem z3 (k : Nat) (p0 : y0) (v3_3 v8_3 : Int) : l3 k p0 0 v3_3 v8_3 = none := by kernel_rfl
theorem s (k : Nat) (p0 : y0) : f k p0 =
 (l3 k p0 k 1 0) := by kernel_rfl
theorem ok (k : Nat) : Ok Tryz.prog 123 (sem k) := Fd.ok (cx_ok trivial) ⟨Tryz.func123, rfl, by kernel_rfl⟩ rfl
attribute [irreducible] f l3
end impl_size
/-! loop.example/wholecheck/impl.parts -/
namespace impl_parts
noncomputable def D : Fd := ⟨Tryz.f205, 3, h0, (.pr .sh (.pr .sh .sh)), [.sh], .unit, h3⟩
noncomputable def C (k : Nat) : Ctx := cx [] [] [] [] [] [] [(8, [(5, none), (10, none)])]
noncomputable def sem (k : Nat) : Sem := D.sem (D.ev (C k) k)
noncomputable def f (k : Nat) (p0 : Int) : Option ((Int × (Int × Int)) × Unit) := D.ev (C k) k (p0, ())
noncomputable def lj8 (k : Nat) (p0 : Int) (n : Nat) (v10_j8 : Bool) : Option ((Int × (Int × Int)) × Unit) :=
 D.jn (C k) k 8 [1, 0, 1, 0, 1, 1] [] n [(10, vB v10_j8), (5, vI p0)]
theorem sj8 (k : Nat) (p0 : Int) (n : Nat) (v10_j8 : Bool) : lj8 k p0 (n + 1) v10_j8 =
 (if v10_j8 = true then
  some ((2, (1, 2)), ())
 else
  if (p0 == 7) = true then
   some ((1, (2, 2)), ())
  else
   if (p0 == 8) = true then
    if (p0 == 8) = true then
     some ((2, (2, 2)), ())
    else
     some ((0, (0, 1)), ())
   else
    if (p0 == 9) = true then
     some ((2, (2, 2)), ())
    else
     some ((0, (0, 1)), ())) := by kernel_rfl
theorem zj8 (k : Nat) (p0 : Int) (v10_j8 : Bool) : lj8 k p0 0 v10_j8 = none := by kernel_rfl
theorem s (k : Nat) (p0 : Int) : f k p0 =
 (if (p0 == 2) = true then
  if (p0 == 2) = true then
   some ((2, (1, 1)), ())
  else
   if (p0 == 5) = true then
    lj8 k p0 k (p0 == 5)
   else
    lj8 k p0 k (p0 == 6)
 else
  if (p0 == 3) = true then
   if (p0 == 3) = true then
    some ((2, (1, 1)), ())
   else
    if (p0 == 5) = true then
     lj8 k p0 k (p0 == 5)
    else
     lj8 k p0 k (p0 == 6)
  else
   if (p0 == 4) = true then
    some ((2, (1, 1)), ())
   else
    if (p0 == 5) = true then
     lj8 k p0 k (p0 == 5)
    else
     lj8 k p0 k (p0 == 6)) := by kernel_rfl
theorem ok (k : Nat) : Ok Tryz.prog 205 (sem k) := Fd.ok (cx_ok trivial) ⟨Tryz.func205, rfl, by kernel_rfl⟩ rfl
attribute [irreducible] f lj8
end impl_parts
/-! loop.example/wholecheck/impl.kindsOf -/
namespace impl_kindsOf
noncomputable def D : Fd := ⟨Tryz.f179, 1, h66, (.ow .sh), [.sh, .sh], .unit, h8⟩
noncomputable def C (k : Nat) : Ctx := cx [(106, impl_in.sem k), (205, impl_parts.sem k)] [] [(5, [(1, none), (5, none), (24, none), (25, none), (26, none)])] [] [] [] []
noncomputable def sem (k : Nat) : Sem := D.sem (D.ev (C k) k)
noncomputable def f (k : Nat) (p0 : y2) (p1 : Int) : Option ((List Int) × Unit) := D.ev (C k) k (p0, p1, ())
noncomputable def l5 (k : Nat) (p0 : y2) (p1 : Int) (n : Nat) (v5_5 : (List Int)) (v26_5 : Int) : Option ((List Int) × Unit) :=
 D.lp (C k) k 5 [1, 1, 1, 0, 1, 0] [] n [(26, vI v26_5), (25, vI ((p0.length : Int))), (24, vS h7 p0), (5, vO h9 v5_5), (1, vI p1)]
theorem s5 (k : Nat) (p0 : y2) (p1 : Int) (n : Nat) (v5_5 : (List Int)) (v26_5 : Int) : l5 k p0 p1 (n + 1) v5_5 v26_5 =
 (if (decide (v26_5 < ((p0.length : Int)))) = true then
  gd ((0 : Int) ≤ v26_5) <| gd (v26_5 < (p0.length : Int)) <| (impl_parts.f k (p0.getD (v26_5.toNat) (0, (0, (0, 0)))).1).bind fun r3 =>
  (impl_in.f k (p0.getD (v26_5.toNat) (0, (0, (0, 0)))).1 0 9).bind fun r4 =>
  if ((p0.getD (v26_5.toNat) (0, (0, (0, 0)))).1 == 0) = true then
   (impl_in.f k (p0.getD (v26_5.toNat) (0, (0, (0, 0)))).2.1 (-9999) 9999).bind fun r5 =>
   if r5.1 = true then
    if ((p0.getD (v26_5.toNat) (0, (0, (0, 0)))).2.2.1 == 0) = true then
     if (!((p0.getD (v26_5.toNat) (0, (0, (0, 0)))).2.2.2 == 0)) = true then
      some ([], ())
     else
      gd ((v5_5.length : Int) + ([r3.1.2.2].length : Int) ≤ 1099511627776) <| l5 k p0 p1 n (v5_5 ++ [r3.1.2.2]) (w64 (v26_5 + 1))
    else
     if (!false) = true then
      some ([], ())
     else
      gd ((v5_5.length : Int) + ([r3.1.2.2].length : Int) ≤ 1099511627776) <| l5 k p0 p1 n (v5_5 ++ [r3.1.2.2]) (w64 (v26_5 + 1))
   else
    if (!false) = true then
     some ([], ())
    else
     gd ((v5_5.length : Int) + ([r3.1.2.2].length : Int) ≤ 1099511627776) <| l5 k p0 p1 n (v5_5 ++ [r3.1.2.2]) (w64 (v26_5 + 1))
  else
   if ((p0.getD (v26_5.toNat) (0, (0, (0, 0)))).1 == 1) = true then
    (impl_in.f k (p0.getD (v26_5.toNat) (0, (0, (0, 0)))).2.1 0 (w64 (p1 - 1))).bind fun r6 =>
    if r6.1 = true then
     if ((p0.getD (v26_5.toNat) (0, (0, (0, 0)))).2.2.1 == 0) = true then
      if (!((p0.getD (v26_5.toNat) (0, (0, (0, 0)))).2.2.2 == 0)) = true then
       some ([], ())
      else
       gd ((v5_5.length : Int) + ([r3.1.2.2].length : Int) ≤ 1099511627776) <| l5 k p0 p1 n (v5_5 ++ [r3.1.2.2]) (w64 (v26_5 + 1))
     else
      if (!false) = true then
       some ([], ())
      else
       gd ((v5_5.length : Int) + ([r3.1.2.2].length : Int) ≤ 1099511627776) <| l5 k p0 p1 n (v5_5 ++ [r3.1.2.2]) (w64 (v26_5 + 1))
    else
     if (!false) = true then
      some ([], ())
     else
      gd ((v5_5.length : Int) + ([r3.1.2.2].length : Int) ≤ 1099511627776) <| l5 k p0 p1 n (v5_5 ++ [r3.1.2.2]) (w64 (v26_5 + 1))
   else
    if r4.1 = true then
     if ((p0.getD (v26_5.toNat) (0, (0, (0, 0)))).2.1 == 0) = true then
      (impl_in.f k (p0.getD (v26_5.toNat) (0, (0, (0, 0)))).2.2.1 0 (w64 (v26_5 - 1))).bind fun r7 =>
      if r7.1 = true then
       (impl_in.f k (p0.getD (v26_5.toNat) (0, (0, (0, 0)))).2.2.2 0 (w64 (v26_5 - 1))).bind fun r8 =>
       if r8.1 = true then
        gd ((0 : Int) ≤ (p0.getD (v26_5.toNat) (0, (0, (0, 0)))).2.2.1) <| gd ((p0.getD (v26_5.toNat) (0, (0, (0, 0)))).2.2.1 < (v5_5.length : Int)) <| if ((v5_5.getD ((p0.getD (v26_5.toNat) (0, (0, (0, 0)))).2.2.1.toNat) 0) == r3.1.2.1) = true then
         gd ((0 : Int) ≤ (p0.getD (v26_5.toNat) (0, (0, (0, 0)))).2.2.2) <| gd ((p0.getD (v26_5.toNat) (0, (0, (0, 0)))).2.2.2 < (v5_5.length : Int)) <| if ((v5_5.getD ((p0.getD (v26_5.toNat) (0, (0, (0, 0)))).2.2.2.toNat) 0) == r3.1.2.1) = true then
          if (r3.1.1 == 2) = true then
           if (!true) = true then
            some ([], ())
           else
            gd ((v5_5.length : Int) + ([r3.1.2.2].length : Int) ≤ 1099511627776) <| l5 k p0 p1 n (v5_5 ++ [r3.1.2.2]) (w64 (v26_5 + 1))
          else
           if (!((p0.getD (v26_5.toNat) (0, (0, (0, 0)))).2.2.1 == (p0.getD (v26_5.toNat) (0, (0, (0, 0)))).2.2.2)) = true then
            some ([], ())
           else
            gd ((v5_5.length : Int) + ([r3.1.2.2].length : Int) ≤ 1099511627776) <| l5 k p0 p1 n (v5_5 ++ [r3.1.2.2]) (w64 (v26_5 + 1))
         else
          if (!false) = true then
           some ([], ())
          else
           gd ((v5_5.length : Int) + ([r3.1.2.2].length : Int) ≤ 1099511627776) <| l5 k p0 p1 n (v5_5 ++ [r3.1.2.2]) (w64 (v26_5 + 1))
        else
         if (!false) = true then
          some ([], ())
         else
          gd ((v5_5.length : Int) + ([r3.1.2.2].length : Int) ≤ 1099511627776) <| l5 k p0 p1 n (v5_5 ++ [r3.1.2.2]) (w64 (v26_5 + 1))
       else
        if (!false) = true then
         some ([], ())
        else
         gd ((v5_5.length : Int) + ([r3.1.2.2].length : Int) ≤ 1099511627776) <| l5 k p0 p1 n (v5_5 ++ [r3.1.2.2]) (w64 (v26_5 + 1))
      else
       if (!false) = true then
        some ([], ())
       else
        gd ((v5_5.length : Int) + ([r3.1.2.2].length : Int) ≤ 1099511627776) <| l5 k p0 p1 n (v5_5 ++ [r3.1.2.2]) (w64 (v26_5 + 1))
     else
      if (!false) = true then
       some ([], ())
      else
       gd ((v5_5.length : Int) + ([r3.1.2.2].length : Int) ≤ 1099511627776) <| l5 k p0 p1 n (v5_5 ++ [r3.1.2.2]) (w64 (v26_5 + 1))
    else
     if (!r4.1) = true then
      some ([], ())
     else
      gd ((v5_5.length : Int) + ([r3.1.2.2].length : Int) ≤ 1099511627776) <| l5 k p0 p1 n (v5_5 ++ [r3.1.2.2]) (w64 (v26_5 + 1))
 else
  gd (v5_5.length ≠ 0) <| some (v5_5, ())) := by kernel_rfl
theorem z5 (k : Nat) (p0 : y2) (p1 : Int) (v5_5 : (List Int)) (v26_5 : Int) : l5 k p0 p1 0 v5_5 v26_5 = none := by kernel_rfl
theorem s (k : Nat) (p0 : y2) (p1 : Int) : f k p0 p1 =
 ((impl_in.f k p1 0 5).bind fun r1 =>
 if (!r1.1) = true then
  some ([], ())
 else
  (impl_in.f k ((p0.length : Int)) 1 40).bind fun r2 =>
  if (!r2.1) = true then
   some ([], ())
  else
   gd ((0 : Int) ≤ 0) <| gd ((0 : Int) ≤ ((p0.length : Int))) <| gd ((((p0.length : Int)) : Int) ≤ 1099511627776) <| l5 k p0 p1 k ((List.replicate ((0 : Int)).toNat 0 : (List Int))) 0) := by kernel_rfl
theorem ok (k : Nat) : Ok Tryz.prog 179 (sem k) := Fd.ok (cx_ok ⟨impl_in.ok k, impl_parts.ok k, trivial⟩) ⟨Tryz.func179, rfl, by kernel_rfl⟩ rfl
attribute [irreducible] f l5
end impl_kindsOf
/-! loop.example/wholecheck/impl.kindOf -/
namespace impl_kindOf
noncomputable def D : Fd := ⟨Tryz.f144, 1, I, .sh, [.sh, .sh], .unit, h8⟩
noncomputable def C (k : Nat) : Ctx := cx [(179, impl_kindsOf.sem k)] [] [] [] [] [] []
noncomputable def sem (k : Nat) : Sem := D.sem (D.ev (C k) k)
noncomputable def f (k : Nat) (p0 : y2) (p1 : Int) : Option (Int × Unit) := D.ev (C k) k (p0, p1, ())
theorem s (k : Nat) (p0 : y2) (p1 : Int) : f k p0 p1 =
 ((impl_kindsOf.f k p0 p1).bind fun r1 =>
 if (decide (r1.1.length = 0)) = true then
  some (0, ())
 else
  gd ((0 : Int) ≤ (w64 (((r1.1.length : Int)) - 1))) <| gd ((w64 (((r1.1.length : Int)) - 1)) < (r1.1.length : Int)) <| some (r1.1.getD ((w64 (((r1.1.length : Int)) - 1)).toNat) 0, ())) := by kernel_rfl
theorem ok (k : Nat) : Ok Tryz.prog 144 (sem k) := Fd.ok (cx_ok ⟨impl_kindsOf.ok k, trivial⟩) ⟨Tryz.func144, rfl, by kernel_rfl⟩ rfl
attribute [irreducible] f
end impl_kindOf
/-! loop.example/wholecheck/impl.ruleOk -/
namespace impl_ruleOk
noncomputable def D : Fd := ⟨Tryz.f156, 1, .bool, .sh, [.sh, .sh], .unit, h16⟩
noncomputable def C (k : Nat) : Ctx := cx [(144, impl_kindOf.sem k), (106, impl_in.sem k)] [] [(4, [(1, none), (2, none), (22, none), (23, none), (24, none)])] [] [] [] []
noncomputable def sem (k : Nat) : Sem := D.sem (D.ev (C k) k)
noncomputable def f (k : Nat) (p0 : y5) (p1 : Int) : Option (Bool × Unit) := D.ev (C k) k (p0, p1, ())
noncomputable def l4 (k : Nat) (p0 : y5) (p1 : Int) (n : Nat) (v24_4 : Int) : Option (Bool × Unit) :=
 D.lp (C k) k 4 [1, 1, 0, 1, 0] [] n [(24, vI v24_4), (23, vI ((p0.2.1.length : Int))), (22, vS h9 p0.2.1), (2, .val h39 (.ow .sh) p0), (1, vI p1)]
theorem s4 (k : Nat) (p0 : y5) (p1 : Int) (n : Nat) (v24_4 : Int) : l4 k p0 p1 (n + 1) v24_4 =
 (if (decide (v24_4 < ((p0.2.1.length : Int)))) = true then
  gd ((0 : Int) ≤ v24_4) <| gd (v24_4 < (p0.2.1.length : Int)) <| (impl_in.f k (p0.2.1.getD (v24_4.toNat) 0) 0 (w64 (p1 - 1))).bind fun r2 =>
  if (!r2.1) = true then
   some (false, ())
  else
   if (decide (v24_4 > 0)) = true then
    gd ((0 : Int) ≤ (w64 (v24_4 - 1))) <| gd ((w64 (v24_4 - 1)) < (p0.2.1.length : Int)) <| if (decide ((p0.2.1.getD ((w64 (v24_4 - 1)).toNat) 0) ≥ (p0.2.1.getD (v24_4.toNat) 0))) = true then
     some (false, ())
    else
     gd ((0 : Int) ≤ v24_4) <| gd (v24_4 < (p0.2.2.length : Int)) <| (impl_kindOf.f k (p0.2.2.getD (v24_4.toNat) []) p1).bind fun r3 =>
     if (r3.1 != 1) = true then
      some (false, ())
     else
      l4 k p0 p1 n (w64 (v24_4 + 1))
   else
    gd ((0 : Int) ≤ v24_4) <| gd (v24_4 < (p0.2.2.length : Int)) <| (impl_kindOf.f k (p0.2.2.getD (v24_4.toNat) []) p1).bind fun r4 =>
    if (r4.1 != 1) = true then
     some (false, ())
    else
     l4 k p0 p1 n (w64 (v24_4 + 1))
 else
  some (true, ())) := by kernel_rfl
theorem z4 (k : Nat) (p0 : y5) (p1 : Int) (v24_4 : Int) : l4 k p0 p1 0 v24_4 = none := by kernel_rfl
theorem s (k : Nat) (p0 : y5) (p1 : Int) : f k p0 p1 =
 ((impl_kindOf.f k p0.1 p1).bind fun r1 =>
 if (r1.1 != 2) = true then
  some (false, ())
 else
  if (((p0.2.1.length : Int)) != ((p0.2.2.length : Int))) = true then
   some (false, ())
  else
   l4 k p0 p1 k 0) := by kernel_rfl
theorem ok (k : Nat) : Ok Tryz.prog 156 (sem k) := Fd.ok (cx_ok ⟨impl_kindOf.ok k, impl_in.ok k, trivial⟩) ⟨Tryz.func156, rfl, by kernel_rfl⟩ rfl
attribute [irreducible] f l4
end impl_ruleOk
/-! loop.example/wholecheck/impl.SystemValid$2 -/
namespace impl_SystemValid_2
noncomputable def D : Fd := ⟨Tryz.f155, 1, .bool, .sh, [.sh, .sh], .unit, h68⟩
noncomputable def C (k : Nat) : Ctx := cx [(156, impl_ruleOk.sem k)] [] [] [] [] [] []
noncomputable def sem (k : Nat) : Sem := D.sem (D.ev (C k) k)
noncomputable def f (k : Nat) (p0 : y5) (p1 : y7) : Option (Bool × Unit) := D.ev (C k) k (p0, p1, ())
theorem s (k : Nat) (p0 : y5) (p1 : y7) : f k p0 p1 =
 ((impl_ruleOk.f k p0 ((p1.1.length : Int))).bind fun r1 =>
 some (!r1.1, ())) := by kernel_rfl
theorem ok (k : Nat) : Ok Tryz.prog 155 (sem k) := Fd.ok (cx_ok ⟨impl_ruleOk.ok k, trivial⟩) ⟨Tryz.func155, rfl, by kernel_rfl⟩ rfl
attribute [irreducible] f
end impl_SystemValid_2
/-! slices.IndexFunc[[]loop.example/wholecheck/impl.Rule,loop.example/wholecheck/impl.Rule] -/
namespace slices_IndexFunc_impl_Rule_impl_Rule
noncomputable def D : Fd := ⟨Tryz.f182, 1, I, .sh, [.sh, .sh], .unit, h71⟩
noncomputable def C (k : Nat) : Ctx := cx [] [] [(2, [(0, none), (1, none), (7, none), (8, none)])] [] [] [] []
noncomputable def sem (k : Nat) : Sem := D.sem (D.ev (C k) k)
noncomputable def f (k : Nat) (p0 : y6) (p1 : y9) : Option (Int × Unit) := D.ev (C k) k (p0, p1, ())
noncomputable def l2 (k : Nat) (p0 : y6) (p1 : y9) (n : Nat) (v8_2 : Int) : Option (Int × Unit) :=
 D.lp (C k) k 2 [1, 0, 1, 0] [] n [(8, vI v8_2), (7, vI ((p0.length : Int))), (1, vS h69 p1), (0, vS h17 p0)]
theorem s2 (k : Nat) (p0 : y6) (p1 : y9) (n : Nat) (v8_2 : Int) : l2 k p0 p1 (n + 1) v8_2 =
 (if (decide (v8_2 < ((p0.length : Int)))) = true then
  gd ((0 : Int) ≤ v8_2) <| gd (v8_2 < (p0.length : Int)) <| (p1 (p0.getD (v8_2.toNat) ([], ([], [])))).bind fun r1 =>
  if r1 = true then
   some (v8_2, ())
  else
   l2 k p0 p1 n (w64 (v8_2 + 1))
 else
  some ((-1), ())) := by kernel_rfl
theorem z2 (k : Nat) (p0 : y6) (p1 : y9) (v8_2 : Int) : l2 k p0 p1 0 v8_2 = none := by kernel_rfl
theorem s (k : Nat) (p0 : y6) (p1 : y9) : f k p0 p1 =
 (l2 k p0 p1 k 0) := by kernel_rfl
theorem ok (k : Nat) : Ok Tryz.prog 182 (sem k) := Fd.ok (cx_ok trivial) ⟨Tryz.func182, rfl, by kernel_rfl⟩ rfl
attribute [irreducible] f l2
end slices_IndexFunc_impl_Rule_impl_Rule
/-! slices.ContainsFunc[[]loop.example/wholecheck/impl.Rule,loop.example/wholecheck/impl.Rule] -/
namespace slices_ContainsFunc_impl_Rule_impl_Rule
noncomputable def D : Fd := ⟨Tryz.f154, 1, .bool, .sh, [.sh, .sh], .unit, h71⟩
noncomputable def C (k : Nat) : Ctx := cx [(182, slices_IndexFunc_impl_Rule_impl_Rule.sem k)] [] [] [] [] [] []
noncomputable def sem (k : Nat) : Sem := D.sem (D.ev (C k) k)
noncomputable def f (k : Nat) (p0 : y6) (p1 : y9) : Option (Bool × Unit) := D.ev (C k) k (p0, p1, ())
theorem s (k : Nat) (p0 : y6) (p1 : y9) : f k p0 p1 =
 ((slices_IndexFunc_impl_Rule_impl_Rule.f k p0 p1).bind fun r1 =>
 some (decide (r1.1 ≥ 0), ())) := by kernel_rfl
theorem ok (k : Nat) : Ok Tryz.prog 154 (sem k) := Fd.ok (cx_ok ⟨slices_IndexFunc_impl_Rule_impl_Rule.ok k, trivial⟩) ⟨Tryz.func154, rfl, by kernel_rfl⟩ rfl
attribute [irreducible] f
end slices_ContainsFunc_impl_Rule_impl_Rule
/-! loop.example/wholecheck/impl.SystemValid -/
namespace impl_SystemValid
noncomputable def D : Fd := ⟨Tryz.f105, 1, .bool, .sh, [.sh], .unit, h32⟩
noncomputable def C (k : Nat) : Ctx := cx [(106, impl_in.sem k), (152, impl_SystemValid_1.sem k), (151, slices_ContainsFunc_impl_Var_impl_Var.sem k), (123, impl_size.sem k), (155, impl_SystemValid_2.sem k), (154, slices_ContainsFunc_impl_Rule_impl_Rule.sem k)] [] [] [] [] [] []
noncomputable def sem (k : Nat) : Sem := D.sem (D.ev (C k) k)
noncomputable def f (k : Nat) (p0 : y7) : Option (Bool × Unit) := D.ev (C k) k (p0, ())
theorem s (k : Nat) (p0 : y7) : f k p0 =
 ((impl_in.f k ((p0.1.length : Int)) 1 5).bind fun r1 =>
 if (!r1.1) = true then
  some (false, ())
 else
  if (decide (((p0.2.length : Int)) > 8)) = true then
   some (false, ())
  else
   (slices_ContainsFunc_impl_Var_impl_Var.f k p0.1 (fun p => (impl_SystemValid_1.f k p).bind fun r => some r.1)).bind fun r2 =>
   if r2.1 = true then
    some (false, ())
   else
    (impl_size.f k p0.1).bind fun r3 =>
    if (decide (r3.1 > 400)) = true then
     some (false, ())
    else
     (slices_ContainsFunc_impl_Rule_impl_Rule.f k p0.2 (fun p => (impl_SystemValid_2.f k p p0).bind fun r => some r.1)).bind fun r4 =>
     some (!r4.1, ())) := by kernel_rfl
theorem ok (k : Nat) : Ok Tryz.prog 105 (sem k) := Fd.ok (cx_ok ⟨impl_in.ok k, impl_SystemValid_1.ok k, slices_ContainsFunc_impl_Var_impl_Var.ok k, impl_size.ok k, impl_SystemValid_2.ok k, slices_ContainsFunc_impl_Rule_impl_Rule.ok k, trivial⟩) ⟨Tryz.func105, rfl, by kernel_rfl⟩ rfl
attribute [irreducible] f
end impl_SystemValid
/-! loop.example/wholecheck/impl.truthOf -/
namespace impl_truthOf
noncomputable def D : Fd := ⟨Tryz.f83, 1, .bool, .sh, [.sh, .sh], .unit, h61⟩
noncomputable def C (k : Nat) : Ctx := cx [(105, impl_SystemValid.sem k), (144, impl_kindOf.sem k)] [] [] [] [] [] []
noncomputable def sem (k : Nat) : Sem := D.sem (D.ev (C k) k)
noncomputable def f (k : Nat) (p0 : y7) (p1 : y2) : Option (Bool × Unit) := D.ev (C k) k (p0, p1, ())
theorem s (k : Nat) (p0 : y7) (p1 : y2) : f k p0 p1 =
 ((impl_SystemValid.f k p0).bind fun r1 =>
 if r1.1 = true then
  (impl_kindOf.f k p1 ((p0.1.length : Int))).bind fun r2 =>
  some (r2.1 == 2, ())
 else
  some (false, ())) := by kernel_rfl
theorem ok (k : Nat) : Ok Tryz.prog 83 (sem k) := Fd.ok (cx_ok ⟨impl_SystemValid.ok k, impl_kindOf.ok k, trivial⟩) ⟨Tryz.func83, rfl, by kernel_rfl⟩ rfl
attribute [irreducible] f
end impl_truthOf
/-! loop.example/wholecheck/impl.stateAt -/
namespace impl_stateAt
noncomputable def D : Fd := ⟨Tryz.f133, 1, h9, (.ow .sh), [.sh, .sh], .unit, h21⟩
noncomputable def C (k : Nat) : Ctx := cx [] [] [(3, [(1, none), (2, none), (5, none), (6, none)])] [] [(7, [0, 1, 2, 3, 4, 5, 6, 7, 8, 9])] [] []
noncomputable def sem (k : Nat) : Sem := D.sem (D.ev (C k) k)
noncomputable def f (k : Nat) (p0 : y7) (p1 : Int) : Option ((List Int) × Unit) := D.ev (C k) k (p0, p1, ())
noncomputable def l3 (k : Nat) (p0 : y7) (n : Nat) (v1_3 : Int) (v5_3 : (List Int)) (v6_3 : Int) : Option ((List Int) × Unit) :=
 D.lp (C k) k 3 [1, 1, 0, 1, 0] [] n [(6, vI v6_3), (5, vO h9 v5_3), (2, .val h40 (.ow .sh) p0), (1, vI v1_3)]
theorem s3 (k : Nat) (p0 : y7) (n : Nat) (v1_3 : Int) (v5_3 : (List Int)) (v6_3 : Int) : l3 k p0 (n + 1) v1_3 v5_3 v6_3 =
 (if (decide (v6_3 ≥ 0)) = true then
  gd ((0 : Int) ≤ v6_3) <| gd (v6_3 < (p0.1.length : Int)) <| gd (((w64 ((w64 ((p0.1.getD (v6_3.toNat) (0, (0, 0))).2.1 - (p0.1.getD (v6_3.toNat) (0, (0, 0))).1)) + 1)) : Int) ≠ 0) <| gd ((0 : Int) ≤ v6_3) <| gd (v6_3 < (v5_3.length : Int)) <| gd (((w64 ((w64 ((p0.1.getD (v6_3.toNat) (0, (0, 0))).2.1 - (p0.1.getD (v6_3.toNat) (0, (0, 0))).1)) + 1)) : Int) ≠ 0) <| l3 k p0 n (w64 (v1_3.tdiv (w64 ((w64 ((p0.1.getD (v6_3.toNat) (0, (0, 0))).2.1 - (p0.1.getD (v6_3.toNat) (0, (0, 0))).1)) + 1)))) (v5_3.set (v6_3.toNat) (w64 ((p0.1.getD (v6_3.toNat) (0, (0, 0))).1 + (v1_3.tmod (w64 ((w64 ((p0.1.getD (v6_3.toNat) (0, (0, 0))).2.1 - (p0.1.getD (v6_3.toNat) (0, (0, 0))).1)) + 1)))))) (w64 (v6_3 - 1))
 else
  some (v5_3, ())) := by kernel_rfl
theorem z3 (k : Nat) (p0 : y7) (v1_3 : Int) (v5_3 : (List Int)) (v6_3 : Int) : l3 k p0 0 v1_3 v5_3 v6_3 = none := by kernel_rfl
theorem s (k : Nat) (p0 : y7) (p1 : Int) : f k p0 p1 =
 (gd ((0 : Int) ≤ ((p0.1.length : Int))) <| gd ((((p0.1.length : Int)) : Int) ≤ 1099511627776) <| l3 k p0 k p1 ((List.replicate ((p0.1.length : Int)).toNat 0 : (List Int))) (w64 (((((List.replicate ((p0.1.length : Int)).toNat 0 : (List Int))).length : Int)) - 1))) := by kernel_rfl
theorem ok (k : Nat) : Ok Tryz.prog 133 (sem k) := Fd.ok (cx_ok trivial) ⟨Tryz.func133, rfl, by kernel_rfl⟩ rfl
attribute [irreducible] f l3
end impl_stateAt
/-! loop.example/wholecheck/impl.held -/
namespace impl_held
noncomputable def D : Fd := ⟨Tryz.f210, 1, I, .sh, [.sh], .unit, h3⟩
noncomputable def C (k : Nat) : Ctx := cx [] [] [] [] [] [] []
noncomputable def sem (k : Nat) : Sem := D.sem (D.ev (C k) k)
noncomputable def f (k : Nat) (p0 : Int) : Option (Int × Unit) := D.ev (C k) k (p0, ())
theorem s (k : Nat) (p0 : Int) : f k p0 =
 (some (mx (-9999) (mn 9999 p0), ())) := by kernel_rfl
theorem ok (k : Nat) : Ok Tryz.prog 210 (sem k) := Fd.ok (cx_ok trivial) ⟨Tryz.func210, rfl, by kernel_rfl⟩ rfl
attribute [irreducible] f
end impl_held
/-! loop.example/wholecheck/impl.bit -/
namespace impl_bit
noncomputable def D : Fd := ⟨Tryz.f163, 1, I, .sh, [.sh], .unit, h48⟩
noncomputable def C (k : Nat) : Ctx := cx [] [] [] [] [] [] []
noncomputable def sem (k : Nat) : Sem := D.sem (D.ev (C k) k)
noncomputable def f (k : Nat) (p0 : Bool) : Option (Int × Unit) := D.ev (C k) k (p0, ())
theorem s (k : Nat) (p0 : Bool) : f k p0 =
 (if p0 = true then
  some (1, ())
 else
  some (0, ())) := by kernel_rfl
theorem ok (k : Nat) : Ok Tryz.prog 163 (sem k) := Fd.ok (cx_ok trivial) ⟨Tryz.func163, rfl, by kernel_rfl⟩ rfl
attribute [irreducible] f
end impl_bit
/-! loop.example/wholecheck/impl.do -/
namespace impl_do
noncomputable def D : Fd := ⟨Tryz.f187, 1, I, .sh, [.sh, .sh, .sh], .unit, h35⟩
noncomputable def C (k : Nat) : Ctx := cx [(210, impl_held.sem k), (163, impl_bit.sem k)] [] [] [] [] [] []
noncomputable def sem (k : Nat) : Sem := D.sem (D.ev (C k) k)
noncomputable def f (k : Nat) (p0 p1 p2 : Int) : Option (Int × Unit) := D.ev (C k) k (p0, p1, p2, ())
theorem s (k : Nat) (p0 p1 p2 : Int) : f k p0 p1 p2 =
 (if (p0 == 2) = true then
  (impl_held.f k (w64 (p1 + p2))).bind fun r1 =>
  some (r1.1, ())
 else
  if (p0 == 3) = true then
   (impl_held.f k (w64 (p1 - p2))).bind fun r2 =>
   some (r2.1, ())
  else
   if (p0 == 4) = true then
    (impl_held.f k (w64 (p1 * p2))).bind fun r3 =>
    some (r3.1, ())
   else
    if (p0 == 5) = true then
     (impl_bit.f k (decide (p1 < p2))).bind fun r4 =>
     some (r4.1, ())
    else
     if (p0 == 6) = true then
      (impl_bit.f k (p1 == p2)).bind fun r5 =>
      some (r5.1, ())
     else
      if (p0 == 7) = true then
       some (w64 (1 - p1), ())
      else
       if (p0 == 8) = true then
        some (mn p1 p2, ())
       else
        some (mx p1 p2, ())) := by kernel_rfl
theorem ok (k : Nat) : Ok Tryz.prog 187 (sem k) := Fd.ok (cx_ok ⟨impl_held.ok k, impl_bit.ok k, trivial⟩) ⟨Tryz.func187, rfl, by kernel_rfl⟩ rfl
attribute [irreducible] f
end impl_do
/-! loop.example/wholecheck/impl.eval -/
namespace impl_eval
noncomputable def D : Fd := ⟨Tryz.f160, 1, I, .sh, [.sh, .sh], .unit, h49⟩
noncomputable def C (k : Nat) : Ctx := cx [(187, impl_do.sem k)] [] [(3, [(1, none), (5, none), (11, none), (12, none), (13, none)])] [] [(6, [0, 1, 2, 3, 4, 5, 6, 7, 8, 9, 10, 11, 12, 13, 14, 15, 16])] [] []
noncomputable def sem (k : Nat) : Sem := D.sem (D.ev (C k) k)
noncomputable def f (k : Nat) (p0 : y2) (p1 : (List Int)) : Option (Int × Unit) := D.ev (C k) k (p0, p1, ())
noncomputable def l3 (k : Nat) (p0 : y2) (p1 : (List Int)) (n : Nat) (v5_3 : (List Int)) (v13_3 : Int) : Option (Int × Unit) :=
 D.lp (C k) k 3 [1, 1, 0, 1, 0] [] n [(13, vI v13_3), (12, vI ((p0.length : Int))), (11, vS h7 p0), (5, vO h9 v5_3), (1, vS h9 p1)]
theorem s3 (k : Nat) (p0 : y2) (p1 : (List Int)) (n : Nat) (v5_3 : (List Int)) (v13_3 : Int) : l3 k p0 p1 (n + 1) v5_3 v13_3 =
 (if (decide (v13_3 < ((p0.length : Int)))) = true then
  gd ((0 : Int) ≤ v13_3) <| gd (v13_3 < (p0.length : Int)) <| if ((p0.getD (v13_3.toNat) (0, (0, (0, 0)))).1 == 0) = true then
   gd ((0 : Int) ≤ v13_3) <| gd (v13_3 < (v5_3.length : Int)) <| l3 k p0 p1 n (v5_3.set (v13_3.toNat) (p0.getD (v13_3.toNat) (0, (0, (0, 0)))).2.1) (w64 (v13_3 + 1))
  else
   if ((p0.getD (v13_3.toNat) (0, (0, (0, 0)))).1 == 1) = true then
    gd ((0 : Int) ≤ (p0.getD (v13_3.toNat) (0, (0, (0, 0)))).2.1) <| gd ((p0.getD (v13_3.toNat) (0, (0, (0, 0)))).2.1 < (p1.length : Int)) <| gd ((0 : Int) ≤ v13_3) <| gd (v13_3 < (v5_3.length : Int)) <| l3 k p0 p1 n (v5_3.set (v13_3.toNat) (p1.getD ((p0.getD (v13_3.toNat) (0, (0, (0, 0)))).2.1.toNat) 0)) (w64 (v13_3 + 1))
   else
    gd ((0 : Int) ≤ (p0.getD (v13_3.toNat) (0, (0, (0, 0)))).2.2.1) <| gd ((p0.getD (v13_3.toNat) (0, (0, (0, 0)))).2.2.1 < (v5_3.length : Int)) <| gd ((0 : Int) ≤ (p0.getD (v13_3.toNat) (0, (0, (0, 0)))).2.2.2) <| gd ((p0.getD (v13_3.toNat) (0, (0, (0, 0)))).2.2.2 < (v5_3.length : Int)) <| (impl_do.f k (p0.getD (v13_3.toNat) (0, (0, (0, 0)))).1 (v5_3.getD ((p0.getD (v13_3.toNat) (0, (0, (0, 0)))).2.2.1.toNat) 0) (v5_3.getD ((p0.getD (v13_3.toNat) (0, (0, (0, 0)))).2.2.2.toNat) 0)).bind fun r1 =>
    gd ((0 : Int) ≤ v13_3) <| gd (v13_3 < (v5_3.length : Int)) <| l3 k p0 p1 n (v5_3.set (v13_3.toNat) r1.1) (w64 (v13_3 + 1))
 else
  gd ((0 : Int) ≤ (w64 (((v5_3.length : Int)) - 1))) <| gd ((w64 (((v5_3.length : Int)) - 1)) < (v5_3.length : Int)) <| some (v5_3.getD ((w64 (((v5_3.length : Int)) - 1)).toNat) 0, ())) := by kernel_rfl
theorem z3 (k : Nat) (p0 : y2) (p1 : (List Int)) (v5_3 : (List Int)) (v13_3 : Int) : l3 k p0 p1 0 v5_3 v13_3 = none := by kernel_rfl
theorem s (k : Nat) (p0 : y2) (p1 : (List Int)) : f k p0 p1 =
 (gd ((0 : Int) ≤ ((p0.length : Int))) <| gd ((((p0.length : Int)) : Int) ≤ 1099511627776) <| l3 k p0 p1 k ((List.replicate ((p0.length : Int)).toNat 0 : (List Int))) 0) := by kernel_rfl
theorem ok (k : Nat) : Ok Tryz.prog 160 (sem k) := Fd.ok (cx_ok ⟨impl_do.ok k, trivial⟩) ⟨Tryz.func160, rfl, by kernel_rfl⟩ rfl
attribute [irreducible] f l3
end impl_eval
/-! loop.example/wholecheck/impl.where -/
namespace impl_where
noncomputable def D : Fd := ⟨Tryz.f122, 1, h55, (.ow .sh), [.sh, .sh], .unit, h61⟩
noncomputable def C (k : Nat) : Ctx := cx [(123, impl_size.sem k), (133, impl_stateAt.sem k), (160, impl_eval.sem k)] [] [(3, [(1, none), (2, none), (5, none), (12, none), (13, none)])] [] [] [] []
noncomputable def sem (k : Nat) : Sem := D.sem (D.ev (C k) k)
noncomputable def f (k : Nat) (p0 : y7) (p1 : y2) : Option ((List Bool) × Unit) := D.ev (C k) k (p0, p1, ())
noncomputable def l3 (k : Nat) (p0 : y7) (p1 : y2) (n : Nat) (v5_3 : (List Bool)) (v12_3 v13_3 : Int) : Option ((List Bool) × Unit) :=
 D.lp (C k) k 3 [1, 1, 0, 1, 0] [] n [(13, vI v13_3), (12, vI v12_3), (5, vO h55 v5_3), (2, .val h40 (.ow .sh) p0), (1, vS h7 p1)]
theorem s3 (k : Nat) (p0 : y7) (p1 : y2) (n : Nat) (v5_3 : (List Bool)) (v12_3 v13_3 : Int) : l3 k p0 p1 (n + 1) v5_3 v12_3 v13_3 =
 (if (decide (v13_3 < v12_3)) = true then
  (impl_stateAt.f k p0 v13_3).bind fun r2 =>
  (impl_eval.f k p1 r2.1).bind fun r3 =>
  gd ((0 : Int) ≤ v13_3) <| gd (v13_3 < (v5_3.length : Int)) <| l3 k p0 p1 n (v5_3.set (v13_3.toNat) (r3.1 == 1)) v12_3 (w64 (v13_3 + 1))
 else
  some (v5_3, ())) := by kernel_rfl
theorem z3 (k : Nat) (p0 : y7) (p1 : y2) (v5_3 : (List Bool)) (v12_3 v13_3 : Int) : l3 k p0 p1 0 v5_3 v12_3 v13_3 = none := by kernel_rfl
theorem s (k : Nat) (p0 : y7) (p1 : y2) : f k p0 p1 =
 ((impl_size.f k p0.1).bind fun r1 =>
 gd ((0 : Int) ≤ r1.1) <| gd ((r1.1 : Int) ≤ 1099511627776) <| l3 k p0 p1 k ((List.replicate r1.1.toNat false : (List Bool))) ((((List.replicate r1.1.toNat false : (List Bool))).length : Int)) 0) := by kernel_rfl
theorem ok (k : Nat) : Ok Tryz.prog 122 (sem k) := Fd.ok (cx_ok ⟨impl_size.ok k, impl_stateAt.ok k, impl_eval.ok k, trivial⟩) ⟨Tryz.func122, rfl, by kernel_rfl⟩ rfl
attribute [irreducible] f l3
end impl_where
/-! loop.example/wholecheck/impl.goodIn -/
namespace impl_goodIn
noncomputable def D : Fd := ⟨Tryz.f67, 2, h72, (.pr (.ow .sh) .sh), [.sh, .sh], .unit, h61⟩
noncomputable def C (k : Nat) : Ctx := cx [(83, impl_truthOf.sem k), (122, impl_where.sem k)] [] [] [] [] [] []
noncomputable def sem (k : Nat) : Sem := D.sem (D.ev (C k) k)
noncomputable def f (k : Nat) (p0 : y7) (p1 : y2) : Option (((List Bool) × Bool) × Unit) := D.ev (C k) k (p0, p1, ())
theorem s (k : Nat) (p0 : y7) (p1 : y2) : f k p0 p1 =
 ((impl_truthOf.f k p0 p1).bind fun r1 =>
 if (!r1.1) = true then
  some (([], false), ())
 else
  (impl_where.f k p0 p1).bind fun r2 =>
  some ((r2.1, true), ())) := by kernel_rfl
theorem ok (k : Nat) : Ok Tryz.prog 67 (sem k) := Fd.ok (cx_ok ⟨impl_truthOf.ok k, impl_where.ok k, trivial⟩) ⟨Tryz.func67, rfl, by kernel_rfl⟩ rfl
attribute [irreducible] f
end impl_goodIn
/-! loop.example/wholecheck/impl.blocksOk -/
namespace impl_blocksOk
noncomputable def D : Fd := ⟨Tryz.f68, 1, .bool, .sh, [.sh, .sh], .unit, h41⟩
noncomputable def C (k : Nat) : Ctx := cx [(123, impl_size.sem k), (106, impl_in.sem k)] [] [(4, [(3, none), (15, none), (16, none), (17, none)])] [] [(1, [0, 1, 2, 3, 4, 5, 6])] [((1, 5), [3])] []
noncomputable def sem (k : Nat) : Sem := D.sem (D.ev (C k) k)
noncomputable def f (k : Nat) (p0 : y7) (p1 : (List Int)) : Option (Bool × Unit) := D.ev (C k) k (p0, p1, ())
noncomputable def l4 (k : Nat) (p1 : (List Int)) (n : Nat) (v17_4 : Int) : Option (Bool × Unit) :=
 D.lp (C k) k 4 [1, 1, 0, 1, 0] [] n [(17, vI v17_4), (16, vI ((p1.length : Int))), (15, vS h9 p1), (3, .val h42 (.ow .sh) p1)]
theorem s4 (k : Nat) (p1 : (List Int)) (n : Nat) (v17_4 : Int) : l4 k p1 (n + 1) v17_4 =
 (if (decide (v17_4 < ((p1.length : Int)))) = true then
  gd ((0 : Int) ≤ v17_4) <| gd (v17_4 < (p1.length : Int)) <| (impl_in.f k (p1.getD (v17_4.toNat) 0) 0 v17_4).bind fun r2 =>
  if (!r2.1) = true then
   some (false, ())
  else
   gd ((0 : Int) ≤ (p1.getD (v17_4.toNat) 0)) <| gd ((p1.getD (v17_4.toNat) 0) < (p1.length : Int)) <| if ((p1.getD ((p1.getD (v17_4.toNat) 0).toNat) 0) != (p1.getD (v17_4.toNat) 0)) = true then
    some (false, ())
   else
    l4 k p1 n (w64 (v17_4 + 1))
 else
  some (true, ())) := by kernel_rfl
theorem z4 (k : Nat) (p1 : (List Int)) (v17_4 : Int) : l4 k p1 0 v17_4 = none := by kernel_rfl
theorem s (k : Nat) (p0 : y7) (p1 : (List Int)) : f k p0 p1 =
 ((impl_size.f k p0.1).bind fun r1 =>
 if (((p1.length : Int)) != r1.1) = true then
  some (false, ())
 else
  l4 k p1 k 0) := by kernel_rfl
theorem ok (k : Nat) : Ok Tryz.prog 68 (sem k) := Fd.ok (cx_ok ⟨impl_size.ok k, impl_in.ok k, trivial⟩) ⟨Tryz.func68, rfl, by kernel_rfl⟩ rfl
attribute [irreducible] f l4
end impl_blocksOk
/-! loop.example/wholecheck/impl.wayOk$1 -/
namespace impl_wayOk_1
noncomputable def D : Fd := ⟨Tryz.f108, 1, .bool, .sh, [.sh, .sh], .unit, h74⟩
noncomputable def C (k : Nat) : Ctx := cx [(106, impl_in.sem k)] [] [] [] [] [] []
noncomputable def sem (k : Nat) : Sem := D.sem (D.ev (C k) k)
noncomputable def f (k : Nat) (p0 : Int) (p1 : (List Int)) : Option (Bool × Unit) := D.ev (C k) k (p0, p1, ())
theorem s (k : Nat) (p0 : Int) (p1 : (List Int)) : f k p0 p1 =
 ((impl_in.f k p0 0 (w64 (((p1.length : Int)) - 1))).bind fun r1 =>
 if (!r1.1) = true then
  some (true, ())
 else
  gd ((0 : Int) ≤ p0) <| gd (p0 < (p1.length : Int)) <| some ((p1.getD (p0.toNat) 0) != p0, ())) := by kernel_rfl
theorem ok (k : Nat) : Ok Tryz.prog 108 (sem k) := Fd.ok (cx_ok ⟨impl_in.ok k, trivial⟩) ⟨Tryz.func108, rfl, by kernel_rfl⟩ rfl
attribute [irreducible] f
end impl_wayOk_1
/-! slices.IndexFunc[[]int,int] -/
namespace slices_IndexFunc_int_int
noncomputable def D : Fd := ⟨Tryz.f131, 1, I, .sh, [.sh, .sh], .unit, h77⟩
noncomputable def C (k : Nat) : Ctx := cx [] [] [(2, [(0, none), (1, none), (7, none), (8, none)])] [] [] [] []
noncomputable def sem (k : Nat) : Sem := D.sem (D.ev (C k) k)
noncomputable def f (k : Nat) (p0 : (List Int)) (p1 : (Int → Option Bool)) : Option (Int × Unit) := D.ev (C k) k (p0, p1, ())
noncomputable def l2 (k : Nat) (p0 : (List Int)) (p1 : (Int → Option Bool)) (n : Nat) (v8_2 : Int) : Option (Int × Unit) :=
 D.lp (C k) k 2 [1, 0, 1, 0] [] n [(8, vI v8_2), (7, vI ((p0.length : Int))), (1, vS h75 p1), (0, vS h9 p0)]
theorem s2 (k : Nat) (p0 : (List Int)) (p1 : (Int → Option Bool)) (n : Nat) (v8_2 : Int) : l2 k p0 p1 (n + 1) v8_2 =
 (if (decide (v8_2 < ((p0.length : Int)))) = true then
  gd ((0 : Int) ≤ v8_2) <| gd (v8_2 < (p0.length : Int)) <| (p1 (p0.getD (v8_2.toNat) 0)).bind fun r1 =>
  if r1 = true then
   some (v8_2, ())
  else
   l2 k p0 p1 n (w64 (v8_2 + 1))
 else
  some ((-1), ())) := by kernel_rfl
theorem z2 (k : Nat) (p0 : (List Int)) (p1 : (Int → Option Bool)) (v8_2 : Int) : l2 k p0 p1 0 v8_2 = none := by kernel_rfl
theorem s (k : Nat) (p0 : (List Int)) (p1 : (Int → Option Bool)) : f k p0 p1 =
 (l2 k p0 p1 k 0) := by kernel_rfl
theorem ok (k : Nat) : Ok Tryz.prog 131 (sem k) := Fd.ok (cx_ok trivial) ⟨Tryz.func131, rfl, by kernel_rfl⟩ rfl
attribute [irreducible] f l2
end slices_IndexFunc_int_int
/-! slices.ContainsFunc[[]int,int] -/
namespace slices_ContainsFunc_int_int
noncomputable def D : Fd := ⟨Tryz.f107, 1, .bool, .sh, [.sh, .sh], .unit, h77⟩
noncomputable def C (k : Nat) : Ctx := cx [(131, slices_IndexFunc_int_int.sem k)] [] [] [] [] [] []
noncomputable def sem (k : Nat) : Sem := D.sem (D.ev (C k) k)
noncomputable def f (k : Nat) (p0 : (List Int)) (p1 : (Int → Option Bool)) : Option (Bool × Unit) := D.ev (C k) k (p0, p1, ())
theorem s (k : Nat) (p0 : (List Int)) (p1 : (Int → Option Bool)) : f k p0 p1 =
 ((slices_IndexFunc_int_int.f k p0 p1).bind fun r1 =>
 some (decide (r1.1 ≥ 0), ())) := by kernel_rfl
theorem ok (k : Nat) : Ok Tryz.prog 107 (sem k) := Fd.ok (cx_ok ⟨slices_IndexFunc_int_int.ok k, trivial⟩) ⟨Tryz.func107, rfl, by kernel_rfl⟩ rfl
attribute [irreducible] f
end slices_ContainsFunc_int_int
/-! loop.example/wholecheck/impl.wayOk -/
namespace impl_wayOk
noncomputable def D : Fd := ⟨Tryz.f56, 1, .bool, .sh, [.sh, .sh], .unit, h43⟩
noncomputable def C (k : Nat) : Ctx := cx [(106, impl_in.sem k), (108, impl_wayOk_1.sem k), (107, slices_ContainsFunc_int_int.sem k)] [] [] [] [] [] []
noncomputable def sem (k : Nat) : Sem := D.sem (D.ev (C k) k)
noncomputable def f (k : Nat) (p0 p1 : (List Int)) : Option (Bool × Unit) := D.ev (C k) k (p0, p1, ())
theorem s (k : Nat) (p0 p1 : (List Int)) : f k p0 p1 =
 ((impl_in.f k ((p1.length : Int)) 1 500).bind fun r1 =>
 if r1.1 = true then
  (slices_ContainsFunc_int_int.f k p1 (fun p => (impl_wayOk_1.f k p p0).bind fun r => some r.1)).bind fun r2 =>
  some (!r2.1, ())
 else
  some (false, ())) := by kernel_rfl
theorem ok (k : Nat) : Ok Tryz.prog 56 (sem k) := Fd.ok (cx_ok ⟨impl_in.ok k, impl_wayOk_1.ok k, slices_ContainsFunc_int_int.ok k, trivial⟩) ⟨Tryz.func56, rfl, by kernel_rfl⟩ rfl
attribute [irreducible] f
end impl_wayOk
/-! loop.example/wholecheck/impl.clone[int] -/
namespace impl_clone_int
noncomputable def D : Fd := ⟨Tryz.f94, 1, h9, (.ow .sh), [.sh], .unit, h28⟩
noncomputable def C (k : Nat) : Ctx := cx [] [] [] [] [] [] []
noncomputable def sem (k : Nat) : Sem := D.sem (D.ev (C k) k)
noncomputable def f (k : Nat) (p0 : (List Int)) : Option ((List Int) × Unit) := D.ev (C k) k (p0, ())
theorem s (k : Nat) (p0 : (List Int)) : f k p0 =
 (if (((p0.length : Int)) == 0) = true then
  some ([], ())
 else
  gd ((0 : Int) ≤ ((p0.length : Int))) <| gd ((((p0.length : Int)) : Int) ≤ 1099511627776) <| some (p0.take ((List.replicate ((p0.length : Int)).toNat 0 : (List Int))).length ++ ((List.replicate ((p0.length : Int)).toNat 0 : (List Int))).drop p0.length, ())) := by kernel_rfl
theorem ok (k : Nat) : Ok Tryz.prog 94 (sem k) := Fd.ok (cx_ok trivial) ⟨Tryz.func94, rfl, by kernel_rfl⟩ rfl
attribute [irreducible] f
end impl_clone_int
/-! loop.example/wholecheck/impl.inRange -/
namespace impl_inRange
noncomputable def D : Fd := ⟨Tryz.f190, 1, .bool, .sh, [.sh, .sh], .unit, h50⟩
noncomputable def C (k : Nat) : Ctx := cx [(106, impl_in.sem k)] [] [(4, [(1, none), (14, none), (15, none), (16, none)])] [] [(6, [0, 1, 2, 3, 4, 5, 6, 7, 8, 9])] [] []
noncomputable def sem (k : Nat) : Sem := D.sem (D.ev (C k) k)
noncomputable def f (k : Nat) (p0 : y7) (p1 : (List Int)) : Option (Bool × Unit) := D.ev (C k) k (p0, p1, ())
noncomputable def l4 (k : Nat) (p0 : y7) (p1 : (List Int)) (n : Nat) (v16_4 : Int) : Option (Bool × Unit) :=
 D.lp (C k) k 4 [1, 1, 0, 1, 0] [] n [(16, vI v16_4), (15, vI ((p0.1.length : Int))), (14, vS h2 p0.1), (1, vS h9 p1)]
theorem s4 (k : Nat) (p0 : y7) (p1 : (List Int)) (n : Nat) (v16_4 : Int) : l4 k p0 p1 (n + 1) v16_4 =
 (if (decide (v16_4 < ((p0.1.length : Int)))) = true then
  gd ((0 : Int) ≤ v16_4) <| gd (v16_4 < (p0.1.length : Int)) <| gd ((0 : Int) ≤ v16_4) <| gd (v16_4 < (p1.length : Int)) <| (impl_in.f k (p1.getD (v16_4.toNat) 0) (p0.1.getD (v16_4.toNat) (0, (0, 0))).1 (p0.1.getD (v16_4.toNat) (0, (0, 0))).2.1).bind fun r1 =>
  if (!r1.1) = true then
   some (false, ())
  else
   l4 k p0 p1 n (w64 (v16_4 + 1))
 else
  some (true, ())) := by kernel_rfl
theorem z4 (k : Nat) (p0 : y7) (p1 : (List Int)) (v16_4 : Int) : l4 k p0 p1 0 v16_4 = none := by kernel_rfl
theorem s (k : Nat) (p0 : y7) (p1 : (List Int)) : f k p0 p1 =
 (if (((p1.length : Int)) != ((p0.1.length : Int))) = true then
  some (false, ())
 else
  l4 k p0 p1 k 0) := by kernel_rfl
theorem ok (k : Nat) : Ok Tryz.prog 190 (sem k) := Fd.ok (cx_ok ⟨impl_in.ok k, trivial⟩) ⟨Tryz.func190, rfl, by kernel_rfl⟩ rfl
attribute [irreducible] f l4
end impl_inRange
/-! loop.example/wholecheck/impl.use -/
namespace impl_use
noncomputable def D : Fd := ⟨Tryz.f183, 2, h78, (.pr (.ow .sh) .sh), [.sh, .sh, .sh], .unit, h51⟩
noncomputable def C (k : Nat) : Ctx := cx [(160, impl_eval.sem k), (94, impl_clone_int.sem k), (190, impl_inRange.sem k)] [] [(6, [(1, none), (3, none), (8, none), (9, none), (25, none), (26, none), (27, none)])] [] [] [] []
noncomputable def sem (k : Nat) : Sem := D.sem (D.ev (C k) k)
noncomputable def f (k : Nat) (p0 : y7) (p1 : (List Int)) (p2 : Int) : Option (((List Int) × Bool) × Unit) := D.ev (C k) k (p0, p1, p2, ())
noncomputable def l6 (k : Nat) (p0 : y7) (p1 : (List Int)) (p2 : Int) (n : Nat) (v9_6 : (List Int)) (v27_6 : Int) : Option (((List Int) × Bool) × Unit) :=
 D.lp (C k) k 6 [1, 1, 1, 1, 0, 1, 0] [] n [(27, vI v27_6), (26, vI (((p0.2.getD (p2.toNat) ([], ([], []))).2.1.length : Int))), (25, vS h9 (p0.2.getD (p2.toNat) ([], ([], []))).2.1), (9, vO h9 v9_6), (8, .val h39 (.ow .sh) (p0.2.getD (p2.toNat) ([], ([], [])))), (3, .val h40 (.ow .sh) p0), (1, vS h9 p1)]
theorem s6 (k : Nat) (p0 : y7) (p1 : (List Int)) (p2 : Int) (n : Nat) (v9_6 : (List Int)) (v27_6 : Int) : l6 k p0 p1 p2 (n + 1) v9_6 v27_6 =
 (if (decide (v27_6 < (((p0.2.getD (p2.toNat) ([], ([], []))).2.1.length : Int)))) = true then
  gd ((0 : Int) ≤ v27_6) <| gd (v27_6 < ((p0.2.getD (p2.toNat) ([], ([], []))).2.1.length : Int)) <| gd ((0 : Int) ≤ v27_6) <| gd (v27_6 < ((p0.2.getD (p2.toNat) ([], ([], []))).2.2.length : Int)) <| (impl_eval.f k ((p0.2.getD (p2.toNat) ([], ([], []))).2.2.getD (v27_6.toNat) []) p1).bind fun r3 =>
  gd ((0 : Int) ≤ ((p0.2.getD (p2.toNat) ([], ([], []))).2.1.getD (v27_6.toNat) 0)) <| gd (((p0.2.getD (p2.toNat) ([], ([], []))).2.1.getD (v27_6.toNat) 0) < (v9_6.length : Int)) <| l6 k p0 p1 p2 n (v9_6.set (((p0.2.getD (p2.toNat) ([], ([], []))).2.1.getD (v27_6.toNat) 0).toNat) r3.1) (w64 (v27_6 + 1))
 else
  (impl_inRange.f k p0 v9_6).bind fun r4 =>
  if (!r4.1) = true then
   some (([], false), ())
  else
   some ((v9_6, true), ())) := by kernel_rfl
theorem z6 (k : Nat) (p0 : y7) (p1 : (List Int)) (p2 : Int) (v9_6 : (List Int)) (v27_6 : Int) : l6 k p0 p1 p2 0 v9_6 v27_6 = none := by kernel_rfl
theorem s (k : Nat) (p0 : y7) (p1 : (List Int)) (p2 : Int) : f k p0 p1 p2 =
 (gd ((0 : Int) ≤ p2) <| gd (p2 < (p0.2.length : Int)) <| (impl_eval.f k (p0.2.getD (p2.toNat) ([], ([], []))).1 p1).bind fun r1 =>
 if (r1.1 == 0) = true then
  some (([], false), ())
 else
  (impl_clone_int.f k p1).bind fun r2 =>
  l6 k p0 p1 p2 k r2.1 0) := by kernel_rfl
theorem ok (k : Nat) : Ok Tryz.prog 183 (sem k) := Fd.ok (cx_ok ⟨impl_eval.ok k, impl_clone_int.ok k, impl_inRange.ok k, trivial⟩) ⟨Tryz.func183, rfl, by kernel_rfl⟩ rfl
attribute [irreducible] f l6
end impl_use
/-! cmp.isNaN[int] -/
namespace cmp_isNaN_int
noncomputable def D : Fd := ⟨Tryz.f216, 1, .bool, .sh, [.sh], .unit, h3⟩
noncomputable def C (k : Nat) : Ctx := cx [] [] [] [] [] [] []
noncomputable def sem (k : Nat) : Sem := D.sem (D.ev (C k) k)
noncomputable def f (k : Nat) (p0 : Int) : Option (Bool × Unit) := D.ev (C k) k (p0, ())
theorem s (k : Nat) (p0 : Int) : f k p0 =
 (some (p0 != p0, ())) := by kernel_rfl
theorem ok (k : Nat) : Ok Tryz.prog 216 (sem k) := Fd.ok (cx_ok trivial) ⟨Tryz.func216, rfl, by kernel_rfl⟩ rfl
attribute [irreducible] f
end cmp_isNaN_int
/-! cmp.Compare[int] -/
namespace cmp_Compare_int
noncomputable def D : Fd := ⟨Tryz.f207, 1, I, .sh, [.sh, .sh], .unit, h34⟩
noncomputable def C (k : Nat) : Ctx := cx [(216, cmp_isNaN_int.sem k)] [] [] [] [] [] []
noncomputable def sem (k : Nat) : Sem := D.sem (D.ev (C k) k)
noncomputable def f (k : Nat) (p0 p1 : Int) : Option (Int × Unit) := D.ev (C k) k (p0, p1, ())
theorem s (k : Nat) (p0 p1 : Int) : f k p0 p1 =
 ((cmp_isNaN_int.f k p0).bind fun r1 =>
 (cmp_isNaN_int.f k p1).bind fun r2 =>
 if r1.1 = true then
  if r2.1 = true then
   some (0, ())
  else
   some ((-1), ())
 else
  if r2.1 = true then
   some (1, ())
  else
   if (decide (p0 < p1)) = true then
    some ((-1), ())
   else
    if (decide (p0 > p1)) = true then
     some (1, ())
    else
     some (0, ())) := by kernel_rfl
theorem ok (k : Nat) : Ok Tryz.prog 207 (sem k) := Fd.ok (cx_ok ⟨cmp_isNaN_int.ok k, trivial⟩) ⟨Tryz.func207, rfl, by kernel_rfl⟩ rfl
attribute [irreducible] f
end cmp_Compare_int
/-! slices.Compare[[]int,int] -/
namespace slices_Compare_int_int
noncomputable def D : Fd := ⟨Tryz.f185, 1, I, .sh, [.sh, .sh], .unit, h52⟩
noncomputable def C (k : Nat) : Ctx := cx [(207, cmp_Compare_int.sem k)] [] [(2, [(0, none), (1, none), (9, none), (10, none), (11, none)])] [] [] [] []
noncomputable def sem (k : Nat) : Sem := D.sem (D.ev (C k) k)
noncomputable def f (k : Nat) (p0 p1 : (List Int)) : Option (Int × Unit) := D.ev (C k) k (p0, p1, ())
noncomputable def l2 (k : Nat) (p0 p1 : (List Int)) (n : Nat) (v11_2 : Int) : Option (Int × Unit) :=
 D.lp (C k) k 2 [1, 0, 1, 0] [] n [(11, vI v11_2), (10, vI ((p0.length : Int))), (9, vS h9 p0), (1, vS h9 p1), (0, vS h9 p0)]
theorem s2 (k : Nat) (p0 p1 : (List Int)) (n : Nat) (v11_2 : Int) : l2 k p0 p1 (n + 1) v11_2 =
 (if (decide (v11_2 < ((p0.length : Int)))) = true then
  gd ((0 : Int) ≤ v11_2) <| gd (v11_2 < (p0.length : Int)) <| if (decide (v11_2 ≥ ((p1.length : Int)))) = true then
   some (1, ())
  else
   gd ((0 : Int) ≤ v11_2) <| gd (v11_2 < (p1.length : Int)) <| (cmp_Compare_int.f k (p0.getD (v11_2.toNat) 0) (p1.getD (v11_2.toNat) 0)).bind fun r1 =>
   if (r1.1 != 0) = true then
    some (r1.1, ())
   else
    l2 k p0 p1 n (w64 (v11_2 + 1))
 else
  if (decide (((p0.length : Int)) < ((p1.length : Int)))) = true then
   some ((-1), ())
  else
   some (0, ())) := by kernel_rfl
theorem z2 (k : Nat) (p0 p1 : (List Int)) (v11_2 : Int) : l2 k p0 p1 0 v11_2 = none := by kernel_rfl
theorem s (k : Nat) (p0 p1 : (List Int)) : f k p0 p1 =
 (l2 k p0 p1 k 0) := by kernel_rfl
theorem ok (k : Nat) : Ok Tryz.prog 185 (sem k) := Fd.ok (cx_ok ⟨cmp_Compare_int.ok k, trivial⟩) ⟨Tryz.func185, rfl, by kernel_rfl⟩ rfl
attribute [irreducible] f l2
end slices_Compare_int_int
/-! slices.BinarySearchFunc[[][]int,[]int,[]int] -/
namespace slices_BinarySearchFunc_int_int_int
noncomputable def D : Fd := ⟨Tryz.f184, 2, h79, (.pr .sh .sh), [.sh, .sh, .sh], .unit, h83⟩
noncomputable def C (k : Nat) : Ctx := cx [] [] [(3, [(0, none), (1, none), (2, none), (8, none), (9, none), (10, none)])] [] [] [] []
noncomputable def sem (k : Nat) : Sem := D.sem (D.ev (C k) k)
noncomputable def f (k : Nat) (p0 : (List (List Int))) (p1 : (List Int)) (p2 : y11) : Option ((Int × Bool) × Unit) := D.ev (C k) k (p0, p1, p2, ())
noncomputable def l3 (k : Nat) (p0 : (List (List Int))) (p1 : (List Int)) (p2 : y11) (n : Nat) (v9_3 v10_3 : Int) : Option ((Int × Bool) × Unit) :=
 D.lp (C k) k 3 [1, 1, 1, 0, 0] [] n [(10, vI v10_3), (9, vI v9_3), (8, vI ((p0.length : Int))), (2, vS h80 p2), (1, vS h9 p1), (0, vS h53 p0)]
theorem s3 (k : Nat) (p0 : (List (List Int))) (p1 : (List Int)) (p2 : y11) (n : Nat) (v9_3 v10_3 : Int) : l3 k p0 p1 p2 (n + 1) v9_3 v10_3 =
 (if (decide (v9_3 < v10_3)) = true then
  gd ((0 : Int) ≤ 1) <| gd ((0 : Int) ≤ (w64 ((IntKind.u64.wrap (w64 (v9_3 + v10_3))).fdiv (2 ^ (min (Int.toNat 1) IntKind.u64.bits))))) <| gd ((w64 ((IntKind.u64.wrap (w64 (v9_3 + v10_3))).fdiv (2 ^ (min (Int.toNat 1) IntKind.u64.bits)))) < (p0.length : Int)) <| (p2 (p0.getD ((w64 ((IntKind.u64.wrap (w64 (v9_3 + v10_3))).fdiv (2 ^ (min (Int.toNat 1) IntKind.u64.bits)))).toNat) [], (p1, ()))).bind fun r1 =>
  if (decide (r1 < 0)) = true then
   l3 k p0 p1 p2 n (w64 ((w64 ((IntKind.u64.wrap (w64 (v9_3 + v10_3))).fdiv (2 ^ (min (Int.toNat 1) IntKind.u64.bits)))) + 1)) v10_3
  else
   l3 k p0 p1 p2 n v9_3 (w64 ((IntKind.u64.wrap (w64 (v9_3 + v10_3))).fdiv (2 ^ (min (Int.toNat 1) IntKind.u64.bits))))
 else
  if (decide (v9_3 < ((p0.length : Int)))) = true then
   gd ((0 : Int) ≤ v9_3) <| gd (v9_3 < (p0.length : Int)) <| (p2 (p0.getD (v9_3.toNat) [], (p1, ()))).bind fun r2 =>
   some ((v9_3, r2 == 0), ())
  else
   some ((v9_3, false), ())) := by kernel_rfl
theorem z3 (k : Nat) (p0 : (List (List Int))) (p1 : (List Int)) (p2 : y11) (v9_3 v10_3 : Int) : l3 k p0 p1 p2 0 v9_3 v10_3 = none := by kernel_rfl
theorem s (k : Nat) (p0 : (List (List Int))) (p1 : (List Int)) (p2 : y11) : f k p0 p1 p2 =
 (l3 k p0 p1 p2 k 0 ((p0.length : Int))) := by kernel_rfl
theorem ok (k : Nat) : Ok Tryz.prog 184 (sem k) := Fd.ok (cx_ok trivial) ⟨Tryz.func184, rfl, by kernel_rfl⟩ rfl
attribute [irreducible] f l3
end slices_BinarySearchFunc_int_int_int
/-! slices.Insert[[][]int,[]int] -/
namespace slices_Insert_int_int
noncomputable def sem (k : Nat) : Sem := mkSem [.move (.ow .sh), .sh, .move (.ow .sh)] 1 SII (.ow .sh) .unit (.pair SII (.pair I (.pair SII .unit))) insF
noncomputable def f (k : Nat) (p0 : List (List Int)) (p1 : Int) (p2 : List (List Int)) : Option (List (List Int) × Unit) := insF (p0, p1, p2, ())
theorem s (k : Nat) (p0 : List (List Int)) (p1 : Int) (p2 : List (List Int)) : f k p0 p1 p2 = (gd (0 ≤ p1) <| gd (p1 ≤ (p0.length : Int)) <| gd (0 < p2.length) <| gd ((p0.length : Int) + (p2.length : Int) ≤ LIM) <| some (p0.take (Int.toNat p1) ++ p2 ++ p0.drop (Int.toNat p1), ())) := rfl
theorem ok (k : Nat) : Ok Tryz.prog 186 (sem k) := Giv.insert
attribute [irreducible] f
end slices_Insert_int_int
/-! loop.example/wholecheck/impl.clone[[]int] -/
namespace impl_clone_Lint
noncomputable def D : Fd := ⟨Tryz.f78, 1, h53, (.ow .sh), [.sh], .unit, h59⟩
noncomputable def C (k : Nat) : Ctx := cx [] [] [] [] [] [] []
noncomputable def sem (k : Nat) : Sem := D.sem (D.ev (C k) k)
noncomputable def f (k : Nat) (p0 : (List (List Int))) : Option ((List (List Int)) × Unit) := D.ev (C k) k (p0, ())
theorem s (k : Nat) (p0 : (List (List Int))) : f k p0 =
 (if (((p0.length : Int)) == 0) = true then
  some ([], ())
 else
  gd ((0 : Int) ≤ ((p0.length : Int))) <| gd ((((p0.length : Int)) : Int) ≤ 1099511627776) <| some (p0.take ((List.replicate ((p0.length : Int)).toNat [] : (List (List Int)))).length ++ ((List.replicate ((p0.length : Int)).toNat [] : (List (List Int)))).drop p0.length, ())) := by kernel_rfl
theorem ok (k : Nat) : Ok Tryz.prog 78 (sem k) := Fd.ok (cx_ok trivial) ⟨Tryz.func78, rfl, by kernel_rfl⟩ rfl
attribute [irreducible] f
end impl_clone_Lint
/-! loop.example/wholecheck/impl.nextStates -/
namespace impl_nextStates
noncomputable def D : Fd := ⟨Tryz.f157, 1, h53, (.ow .sh), [.sh, .sh], .unit, h50⟩
noncomputable def C (k : Nat) : Ctx := cx [(183, impl_use.sem k), (185, slices_Compare_int_int.sem k), (184, slices_BinarySearchFunc_int_int_int.sem k), (186, slices_Insert_int_int.sem k), (78, impl_clone_Lint.sem k)] [] [(3, [(1, none), (2, none), (5, some (h53, (.ow .sh))), (13, none), (14, none)])] [] [] [] []
noncomputable def sem (k : Nat) : Sem := D.sem (D.ev (C k) k)
noncomputable def f (k : Nat) (p0 : y7) (p1 : (List Int)) : Option ((List (List Int)) × Unit) := D.ev (C k) k (p0, p1, ())
noncomputable def l3 (k : Nat) (p0 : y7) (p1 : (List Int)) (n : Nat) (v5_3 : (List (List Int))) (v14_3 : Int) : Option ((List (List Int)) × Unit) :=
 D.lp (C k) k 3 [1, 1, 0, 1, 0] [] n [(14, vI v14_3), (13, vI ((p0.2.length : Int))), (5, .val h53 (.ow .sh) v5_3), (2, .val h40 (.ow .sh) p0), (1, vS h9 p1)]
theorem s3 (k : Nat) (p0 : y7) (p1 : (List Int)) (n : Nat) (v5_3 : (List (List Int))) (v14_3 : Int) : l3 k p0 p1 (n + 1) v5_3 v14_3 =
 (if (decide (v14_3 < ((p0.2.length : Int)))) = true then
  (impl_use.f k p0 p1 v14_3).bind fun r1 =>
  if r1.1.2 = true then
   (slices_BinarySearchFunc_int_int_int.f k v5_3 r1.1.1 (fun p => (slices_Compare_int_int.f k p.1 p.2.1).bind fun r => some r.1)).bind fun r2 =>
   if (!r2.1.2) = true then
    (slices_Insert_int_int.f k v5_3 r2.1.1 [r1.1.1]).bind fun r3 =>
    l3 k p0 p1 n r3.1 (w64 (v14_3 + 1))
   else
    l3 k p0 p1 n v5_3 (w64 (v14_3 + 1))
  else
   l3 k p0 p1 n v5_3 (w64 (v14_3 + 1))
 else
  (impl_clone_Lint.f k v5_3).bind fun r4 =>
  some (r4.1, ())) := by kernel_rfl
theorem z3 (k : Nat) (p0 : y7) (p1 : (List Int)) (v5_3 : (List (List Int))) (v14_3 : Int) : l3 k p0 p1 0 v5_3 v14_3 = none := by kernel_rfl
theorem s (k : Nat) (p0 : y7) (p1 : (List Int)) : f k p0 p1 =
 (l3 k p0 p1 k [] 0) := by kernel_rfl
theorem ok (k : Nat) : Ok Tryz.prog 157 (sem k) := Fd.ok (cx_ok ⟨impl_use.ok k, slices_Compare_int_int.ok k, slices_BinarySearchFunc_int_int_int.ok k, slices_Insert_int_int.ok k, impl_clone_Lint.ok k, trivial⟩) ⟨Tryz.func157, rfl, by kernel_rfl⟩ rfl
attribute [irreducible] f l3
end impl_nextStates
/-! loop.example/wholecheck/impl.number -/
namespace impl_number
noncomputable def D : Fd := ⟨Tryz.f110, 1, I, .sh, [.sh, .sh], .unit, h50⟩
noncomputable def C (k : Nat) : Ctx := cx [] [((5, 16), 3)] [(3, [(1, none), (5, none), (9, none), (10, none), (11, none)])] [] [(5, [0, 1, 2, 3, 4, 5, 6, 7, 8, 9, 10, 11, 12, 13, 14, 15, 16])] [] []
noncomputable def sem (k : Nat) : Sem := D.sem (D.ev (C k) k)
noncomputable def f (k : Nat) (p0 : y7) (p1 : (List Int)) : Option (Int × Unit) := D.ev (C k) k (p0, p1, ())
noncomputable def l3 (k : Nat) (p0 : y7) (p1 : (List Int)) (n : Nat) (v5_3 v11_3 : Int) : Option (Int × Unit) :=
 D.lp (C k) k 3 [1, 1, 0, 1, 0] [] n [(11, vI v11_3), (10, vI ((p0.1.length : Int))), (9, vS h2 p0.1), (5, vI v5_3), (1, vS h9 p1)]
theorem s3 (k : Nat) (p0 : y7) (p1 : (List Int)) (n : Nat) (v5_3 v11_3 : Int) : l3 k p0 p1 (n + 1) v5_3 v11_3 =
 (if (decide (v11_3 < ((p0.1.length : Int)))) = true then
  gd ((0 : Int) ≤ v11_3) <| gd (v11_3 < (p0.1.length : Int)) <| gd ((0 : Int) ≤ v11_3) <| gd (v11_3 < (p1.length : Int)) <| l3 k p0 p1 n (w64 ((w64 ((w64 (v5_3 * (w64 ((w64 ((p0.1.getD (v11_3.toNat) (0, (0, 0))).2.1 - (p0.1.getD (v11_3.toNat) (0, (0, 0))).1)) + 1)))) + (p1.getD (v11_3.toNat) 0))) - (p0.1.getD (v11_3.toNat) (0, (0, 0))).1)) (w64 (v11_3 + 1))
 else
  some (v5_3, ())) := by kernel_rfl
theorem z3 (k : Nat) (p0 : y7) (p1 : (List Int)) (v5_3 v11_3 : Int) : l3 k p0 p1 0 v5_3 v11_3 = none := by kernel_rfl
theorem s (k : Nat) (p0 : y7) (p1 : (List Int)) : f k p0 p1 =
 (l3 k p0 p1 k 0 0) := by kernel_rfl
theorem ok (k : Nat) : Ok Tryz.prog 110 (sem k) := Fd.ok (cx_ok trivial) ⟨Tryz.func110, rfl, by kernel_rfl⟩ rfl
attribute [irreducible] f l3
end impl_number
/-! loop.example/wholecheck/impl.nexts -/
namespace impl_nexts
noncomputable def D : Fd := ⟨Tryz.f109, 1, h53, (.ow (.ow .sh)), [.sh], .unit, h32⟩
noncomputable def C (k : Nat) : Ctx := cx [(123, impl_size.sem k), (133, impl_stateAt.sem k), (157, impl_nextStates.sem k), (110, impl_number.sem k)] [((8, 10), 4)] [(3, [(1, none), (3, none), (12, none), (13, none)]), (6, [(1, none), (3, none), (4, none), (12, none), (13, none), (20, none), (21, none), (22, none)])] [] [(5, [0, 1, 2, 6, 3, 4, 5]), (8, [0, 1, 2, 3, 4, 5, 6, 7, 8, 9, 10, 11, 12])] [((5, 3), [1]), ((8, 8), [3]), ((8, 9), [3])] []
noncomputable def sem (k : Nat) : Sem := D.sem (D.ev (C k) k)
noncomputable def f (k : Nat) (p0 : y7) : Option ((List (List Int)) × Unit) := D.ev (C k) k (p0, ())
noncomputable def l3 (k : Nat) (p0 : y7) (n : Nat) (v3_3 : (List (List Int))) (v12_3 v13_3 : Int) : Option ((List (List Int)) × Unit) :=
 D.lp (C k) k 3 [1, 1, 0, 1, 0] [] n [(13, vI v13_3), (12, vI v12_3), (3, vO h53 v3_3), (1, .val h40 (.ow .sh) p0)]
noncomputable def l6 (k n3 : Nat) (p0 : y7) (v12_3 v13_3 : Int) (n : Nat) (v3_6 v20_6 : (List (List Int))) (v21_6 v22_6 : Int) : Option ((List (List Int)) × Unit) :=
 D.lp (C k) k 6 [1, 1, 0, 1, 0, 0, 1, 1, 0, 0, 1, 1, 0] [n3] n [(22, vI v22_6), (21, vI v21_6), (20, .val h53 (.ow .sh) v20_6), (13, vI v13_3), (12, vI v12_3), (4, vI v13_3), (3, vO h53 v3_6), (1, .val h40 (.ow .sh) p0)]
theorem s6 (k n3 : Nat) (p0 : y7) (v12_3 v13_3 : Int) (n : Nat) (v3_6 v20_6 : (List (List Int))) (v21_6 v22_6 : Int) : l6 k n3 p0 v12_3 v13_3 (n + 1) v3_6 v20_6 v21_6 v22_6 =
 (if (decide (v22_6 < v21_6)) = true then
  gd ((0 : Int) ≤ v22_6) <| gd (v22_6 < (v20_6.length : Int)) <| gd ((0 : Int) ≤ v13_3) <| gd (v13_3 < (v3_6.length : Int)) <| (impl_number.f k p0 (v20_6.getD (v22_6.toNat) [])).bind fun r4 =>
  gd (((v3_6.getD (v13_3.toNat) []).length : Int) + ([r4.1].length : Int) ≤ 1099511627776) <| gd ((0 : Int) ≤ v13_3) <| gd (v13_3 < (v3_6.length : Int)) <| gd (((v13_3.toNat) : Nat) = (v13_3.toNat)) <| l6 k n3 p0 v12_3 v13_3 n (v3_6.set (v13_3.toNat) ((v3_6.getD (v13_3.toNat) []) ++ [r4.1])) v20_6 v21_6 (w64 (v22_6 + 1))
 else
  l3 k p0 n3 v3_6 v12_3 (w64 (v13_3 + 1))) := by kernel_rfl
theorem z6 (k n3 : Nat) (p0 : y7) (v12_3 v13_3 : Int) (v3_6 v20_6 : (List (List Int))) (v21_6 v22_6 : Int) : l6 k n3 p0 v12_3 v13_3 0 v3_6 v20_6 v21_6 v22_6 = none := by kernel_rfl
theorem s3 (k : Nat) (p0 : y7) (n : Nat) (v3_3 : (List (List Int))) (v12_3 v13_3 : Int) : l3 k p0 (n + 1) v3_3 v12_3 v13_3 =
 (if (decide (v13_3 < v12_3)) = true then
  (impl_stateAt.f k p0 v13_3).bind fun r2 =>
  (impl_nextStates.f k p0 r2.1).bind fun r3 =>
  l6 k n p0 v12_3 v13_3 k v3_3 r3.1 ((r3.1.length : Int)) 0
 else
  some (v3_3, ())) := by kernel_rfl
theorem z3 (k : Nat) (p0 : y7) (v3_3 : (List (List Int))) (v12_3 v13_3 : Int) : l3 k p0 0 v3_3 v12_3 v13_3 = none := by kernel_rfl
theorem s (k : Nat) (p0 : y7) : f k p0 =
 ((impl_size.f k p0.1).bind fun r1 =>
 gd ((0 : Int) ≤ r1.1) <| gd ((r1.1 : Int) ≤ 1099511627776) <| l3 k p0 k ((List.replicate r1.1.toNat [] : (List (List Int)))) ((((List.replicate r1.1.toNat [] : (List (List Int)))).length : Int)) 0) := by kernel_rfl
theorem ok (k : Nat) : Ok Tryz.prog 109 (sem k) := Fd.ok (cx_ok ⟨impl_size.ok k, impl_stateAt.ok k, impl_nextStates.ok k, impl_number.ok k, trivial⟩) ⟨Tryz.func109, rfl, by kernel_rfl⟩ rfl
attribute [irreducible] f l3 l6
end impl_nexts
/-! loop.example/wholecheck/impl.first -/
namespace impl_first
noncomputable def D : Fd := ⟨Tryz.f111, 1, h9, (.ow .sh), [.sh], .unit, h32⟩
noncomputable def C (k : Nat) : Ctx := cx [(94, impl_clone_int.sem k)] [] [(3, [(3, none), (7, none), (8, none), (9, none)])] [] [] [] []
noncomputable def sem (k : Nat) : Sem := D.sem (D.ev (C k) k)
noncomputable def f (k : Nat) (p0 : y7) : Option ((List Int) × Unit) := D.ev (C k) k (p0, ())
noncomputable def l3 (k : Nat) (p0 : y7) (n : Nat) (v3_3 : (List Int)) (v9_3 : Int) : Option ((List Int) × Unit) :=
 D.lp (C k) k 3 [1, 1, 0, 1, 0] [] n [(9, vI v9_3), (8, vI ((p0.1.length : Int))), (7, vS h2 p0.1), (3, vO h66 v3_3)]
theorem s3 (k : Nat) (p0 : y7) (n : Nat) (v3_3 : (List Int)) (v9_3 : Int) : l3 k p0 (n + 1) v3_3 v9_3 =
 (if (decide (v9_3 < ((p0.1.length : Int)))) = true then
  gd ((0 : Int) ≤ v9_3) <| gd (v9_3 < (p0.1.length : Int)) <| gd ((v3_3.length : Int) + ([(p0.1.getD (v9_3.toNat) (0, (0, 0))).2.2].length : Int) ≤ 1099511627776) <| l3 k p0 n (v3_3 ++ [(p0.1.getD (v9_3.toNat) (0, (0, 0))).2.2]) (w64 (v9_3 + 1))
 else
  (impl_clone_int.f k v3_3).bind fun r1 =>
  some (r1.1, ())) := by kernel_rfl
theorem z3 (k : Nat) (p0 : y7) (v3_3 : (List Int)) (v9_3 : Int) : l3 k p0 0 v3_3 v9_3 = none := by kernel_rfl
theorem s (k : Nat) (p0 : y7) : f k p0 =
 (l3 k p0 k [] 0) := by kernel_rfl
theorem ok (k : Nat) : Ok Tryz.prog 111 (sem k) := Fd.ok (cx_ok ⟨impl_clone_int.ok k, trivial⟩) ⟨Tryz.func111, rfl, by kernel_rfl⟩ rfl
attribute [irreducible] f l3
end impl_first
/-! loop.example/wholecheck/impl.listOf -/
namespace impl_listOf
noncomputable def D : Fd := ⟨Tryz.f89, 1, h9, (.ow .sh), [.sh], .unit, h57⟩
noncomputable def C (k : Nat) : Ctx := cx [(94, impl_clone_int.sem k)] [] [(3, [(3, none), (6, none), (7, none), (8, none)])] [] [] [] []
noncomputable def sem (k : Nat) : Sem := D.sem (D.ev (C k) k)
noncomputable def f (k : Nat) (p0 : (List Bool)) : Option ((List Int) × Unit) := D.ev (C k) k (p0, ())
noncomputable def l3 (k : Nat) (p0 : (List Bool)) (n : Nat) (v3_3 : (List Int)) (v8_3 : Int) : Option ((List Int) × Unit) :=
 D.lp (C k) k 3 [1, 1, 0, 1, 0] [] n [(8, vI v8_3), (7, vI ((p0.length : Int))), (6, vS h55 p0), (3, vO h66 v3_3)]
theorem s3 (k : Nat) (p0 : (List Bool)) (n : Nat) (v3_3 : (List Int)) (v8_3 : Int) : l3 k p0 (n + 1) v3_3 v8_3 =
 (if (decide (v8_3 < ((p0.length : Int)))) = true then
  gd ((0 : Int) ≤ v8_3) <| gd (v8_3 < (p0.length : Int)) <| if (p0.getD (v8_3.toNat) false) = true then
   gd ((v3_3.length : Int) + ([v8_3].length : Int) ≤ 1099511627776) <| l3 k p0 n (v3_3 ++ [v8_3]) (w64 (v8_3 + 1))
  else
   l3 k p0 n v3_3 (w64 (v8_3 + 1))
 else
  (impl_clone_int.f k v3_3).bind fun r1 =>
  some (r1.1, ())) := by kernel_rfl
theorem z3 (k : Nat) (p0 : (List Bool)) (v3_3 : (List Int)) (v8_3 : Int) : l3 k p0 0 v3_3 v8_3 = none := by kernel_rfl
theorem s (k : Nat) (p0 : (List Bool)) : f k p0 =
 (l3 k p0 k [] 0) := by kernel_rfl
theorem ok (k : Nat) : Ok Tryz.prog 89 (sem k) := Fd.ok (cx_ok ⟨impl_clone_int.ok k, trivial⟩) ⟨Tryz.func89, rfl, by kernel_rfl⟩ rfl
attribute [irreducible] f l3
end impl_listOf
/-! loop.example/wholecheck/impl.over -/
namespace impl_over
noncomputable def D : Fd := ⟨Tryz.f112, 1, h9, (.ow .sh), [.sh, .sh], .unit, h54⟩
noncomputable def C (k : Nat) : Ctx := cx [(89, impl_listOf.sem k)] [] [(3, [(0, none), (5, none), (13, none), (14, none), (15, none)]), (6, [(0, none), (5, none), (13, none), (14, none), (15, none), (22, none), (23, none), (24, none)])] [] [] [] []
noncomputable def sem (k : Nat) : Sem := D.sem (D.ev (C k) k)
noncomputable def f (k : Nat) (p0 : (List (List Int))) (p1 : (List Int)) : Option ((List Int) × Unit) := D.ev (C k) k (p0, p1, ())
noncomputable def l3 (k : Nat) (p0 : (List (List Int))) (p1 : (List Int)) (n : Nat) (v5_3 : (List Bool)) (v15_3 : Int) : Option ((List Int) × Unit) :=
 D.lp (C k) k 3 [1, 1, 0, 1, 0] [] n [(15, vI v15_3), (14, vI ((p1.length : Int))), (13, vS h9 p1), (5, vO h55 v5_3), (0, vS h53 p0)]
noncomputable def l6 (k n3 : Nat) (p0 : (List (List Int))) (p1 : (List Int)) (v15_3 : Int) (n : Nat) (v5_6 : (List Bool)) (v24_6 : Int) : Option ((List Int) × Unit) :=
 D.lp (C k) k 6 [1, 1, 0, 1, 0, 0, 1, 1, 0, 0, 1, 1, 0] [n3] n [(24, vI v24_6), (23, vI (((p0.getD ((p1.getD (v15_3.toNat) 0).toNat) []).length : Int))), (22, vS h9 (p0.getD ((p1.getD (v15_3.toNat) 0).toNat) [])), (15, vI v15_3), (14, vI ((p1.length : Int))), (13, vS h9 p1), (5, vO h55 v5_6), (0, vS h53 p0)]
theorem s6 (k n3 : Nat) (p0 : (List (List Int))) (p1 : (List Int)) (v15_3 : Int) (n : Nat) (v5_6 : (List Bool)) (v24_6 : Int) : l6 k n3 p0 p1 v15_3 (n + 1) v5_6 v24_6 =
 (if (decide (v24_6 < (((p0.getD ((p1.getD (v15_3.toNat) 0).toNat) []).length : Int)))) = true then
  gd ((0 : Int) ≤ v24_6) <| gd (v24_6 < ((p0.getD ((p1.getD (v15_3.toNat) 0).toNat) []).length : Int)) <| gd ((0 : Int) ≤ ((p0.getD ((p1.getD (v15_3.toNat) 0).toNat) []).getD (v24_6.toNat) 0)) <| gd (((p0.getD ((p1.getD (v15_3.toNat) 0).toNat) []).getD (v24_6.toNat) 0) < (v5_6.length : Int)) <| l6 k n3 p0 p1 v15_3 n (v5_6.set (((p0.getD ((p1.getD (v15_3.toNat) 0).toNat) []).getD (v24_6.toNat) 0).toNat) true) (w64 (v24_6 + 1))
 else
  l3 k p0 p1 n3 v5_6 (w64 (v15_3 + 1))) := by kernel_rfl
theorem z6 (k n3 : Nat) (p0 : (List (List Int))) (p1 : (List Int)) (v15_3 : Int) (v5_6 : (List Bool)) (v24_6 : Int) : l6 k n3 p0 p1 v15_3 0 v5_6 v24_6 = none := by kernel_rfl
theorem s3 (k : Nat) (p0 : (List (List Int))) (p1 : (List Int)) (n : Nat) (v5_3 : (List Bool)) (v15_3 : Int) : l3 k p0 p1 (n + 1) v5_3 v15_3 =
 (if (decide (v15_3 < ((p1.length : Int)))) = true then
  gd ((0 : Int) ≤ v15_3) <| gd (v15_3 < (p1.length : Int)) <| gd ((0 : Int) ≤ (p1.getD (v15_3.toNat) 0)) <| gd ((p1.getD (v15_3.toNat) 0) < (p0.length : Int)) <| l6 k n p0 p1 v15_3 k v5_3 0
 else
  (impl_listOf.f k v5_3).bind fun r1 =>
  some (r1.1, ())) := by kernel_rfl
theorem z3 (k : Nat) (p0 : (List (List Int))) (p1 : (List Int)) (v5_3 : (List Bool)) (v15_3 : Int) : l3 k p0 p1 0 v5_3 v15_3 = none := by kernel_rfl
theorem s (k : Nat) (p0 : (List (List Int))) (p1 : (List Int)) : f k p0 p1 =
 (gd ((0 : Int) ≤ ((p0.length : Int))) <| gd ((((p0.length : Int)) : Int) ≤ 1099511627776) <| l3 k p0 p1 k ((List.replicate ((p0.length : Int)).toNat false : (List Bool))) 0) := by kernel_rfl
theorem ok (k : Nat) : Ok Tryz.prog 112 (sem k) := Fd.ok (cx_ok ⟨impl_listOf.ok k, trivial⟩) ⟨Tryz.func112, rfl, by kernel_rfl⟩ rfl
attribute [irreducible] f l3 l6
end impl_over
/-! slices.Clone[[]int,int] -/
namespace slices_Clone_int_int
noncomputable def sem (k : Nat) : Sem := mkSem [.sh] 1 SI (.ow .sh) .unit (.pair SI .unit) cloneF
noncomputable def f (k : Nat) (p0 : List Int) : Option (List Int × Unit) := cloneF (p0, ())
theorem s (k : Nat) (p0 : List Int) : f k p0 = (gd ((p0.length : Int) ≤ LIM) <| some (p0, ())) := rfl
theorem ok (k : Nat) : Ok Tryz.prog 114 (sem k) := Giv.clone
attribute [irreducible] f
end slices_Clone_int_int
/-! loop.example/wholecheck/impl.followBlocks$1 -/
namespace impl_followBlocks_1
noncomputable def D : Fd := ⟨Tryz.f115, 1, .bool, .sh, [.sh, .sh, .sh], .unit, h86⟩
noncomputable def C (k : Nat) : Ctx := cx [] [] [] [] [(1, [0, 1, 2, 3, 4, 5, 6, 7])] [] []
noncomputable def sem (k : Nat) : Sem := D.sem (D.ev (C k) k)
noncomputable def f (k : Nat) (p0 : Int) (p1 : (List Int)) (p2 : Int) : Option (Bool × Unit) := D.ev (C k) k (p0, p1, p2, ())
theorem s (k : Nat) (p0 : Int) (p1 : (List Int)) (p2 : Int) : f k p0 p1 p2 =
 (gd ((0 : Int) ≤ p0) <| gd (p0 < (p1.length : Int)) <| some ((p1.getD (p0.toNat) 0) != p2, ())) := by kernel_rfl
theorem ok (k : Nat) : Ok Tryz.prog 115 (sem k) := Fd.ok (cx_ok trivial) ⟨Tryz.func115, rfl, by kernel_rfl⟩ rfl
attribute [irreducible] f
end impl_followBlocks_1
/-! slices.DeleteFunc[[]int,int] -/
namespace slices_DeleteFunc_int_int
noncomputable def D : Fd := ⟨Tryz.f113, 1, h9, (.ow .sh), [.move (.ow .sh), .sh], .unit, h77⟩
noncomputable def C (k : Nat) : Ctx := cx [(131, slices_IndexFunc_int_int.sem k)] [((11, 2), 6), ((12, 2), 1)] [(5, [(0, none), (1, none), (5, none), (6, none)])] [] [] [] []
noncomputable def sem (k : Nat) : Sem := D.sem (D.ev (C k) k)
noncomputable def f (k : Nat) (p0 : (List Int)) (p1 : (Int → Option Bool)) : Option ((List Int) × Unit) := D.ev (C k) k (p0, p1, ())
noncomputable def l5 (k : Nat) (p1 : (Int → Option Bool)) (n : Nat) (v0_5 : (List Int)) (v5_5 v6_5 : Int) : Option ((List Int) × Unit) :=
 D.lp (C k) k 5 [1, 1, 1, 0, 1, 0] [] n [(6, vI v6_5), (5, vI v5_5), (1, vS h75 p1), (0, vO h9 v0_5)]
theorem s5 (k : Nat) (p1 : (Int → Option Bool)) (n : Nat) (v0_5 : (List Int)) (v5_5 v6_5 : Int) : l5 k p1 (n + 1) v0_5 v5_5 v6_5 =
 (if (decide (v6_5 < ((v0_5.length : Int)))) = true then
  gd ((0 : Int) ≤ v6_5) <| gd (v6_5 < (v0_5.length : Int)) <| (p1 (v0_5.getD (v6_5.toNat) 0)).bind fun r2 =>
  if (!r2) = true then
   gd ((0 : Int) ≤ v5_5) <| gd (v5_5 < (v0_5.length : Int)) <| l5 k p1 n (v0_5.set (v5_5.toNat) (v0_5.getD (v6_5.toNat) 0)) (w64 (v5_5 + 1)) (w64 (v6_5 + 1))
  else
   l5 k p1 n v0_5 v5_5 (w64 (v6_5 + 1))
 else
  gd ((0 : Int) ≤ v5_5) <| gd ((v5_5 : Int) ≤ (v0_5.length : Int)) <| gd ((0 : Int) ≤ 0) <| gd ((0 : Int) ≤ v5_5) <| gd (v5_5 ≤ ((v0_5.take (v5_5.toNat) ++ List.replicate (v0_5.length - (v5_5.toNat)) (0 : Int)).length : Int)) <| some (((v0_5.take (v5_5.toNat) ++ List.replicate (v0_5.length - (v5_5.toNat)) (0 : Int)).take (v5_5.toNat)).drop (Int.toNat 0), ())) := by kernel_rfl
theorem z5 (k : Nat) (p1 : (Int → Option Bool)) (v0_5 : (List Int)) (v5_5 v6_5 : Int) : l5 k p1 0 v0_5 v5_5 v6_5 = none := by kernel_rfl
theorem s (k : Nat) (p0 : (List Int)) (p1 : (Int → Option Bool)) : f k p0 p1 =
 ((slices_IndexFunc_int_int.f k p0 p1).bind fun r1 =>
 if (r1.1 == (-1)) = true then
  some (p0, ())
 else
  l5 k p1 k p0 r1.1 (w64 (r1.1 + 1))) := by kernel_rfl
theorem ok (k : Nat) : Ok Tryz.prog 113 (sem k) := Fd.ok (cx_ok ⟨slices_IndexFunc_int_int.ok k, trivial⟩) ⟨Tryz.func113, rfl, by kernel_rfl⟩ rfl
attribute [irreducible] f l5
end slices_DeleteFunc_int_int
/-! loop.example/wholecheck/impl.clone[[]int] -/
namespace impl_clone_Lint_mv
noncomputable def D : Fd := ⟨Tryz.f78, 1, h53, (.ow (.ow .sh)), [.move (.ow (.ow .sh))], .unit, h59⟩
noncomputable def C (k : Nat) : Ctx := cx [] [((4, 2), 5)] [] [] [] [] []
noncomputable def sem (k : Nat) : Sem := D.sem (D.ev (C k) k)
noncomputable def f (k : Nat) (p0 : (List (List Int))) : Option ((List (List Int)) × Unit) := D.ev (C k) k (p0, ())
theorem s (k : Nat) (p0 : (List (List Int))) : f k p0 =
 (if (((p0.length : Int)) == 0) = true then
  some ([], ())
 else
  gd ((0 : Int) ≤ ((p0.length : Int))) <| gd ((((p0.length : Int)) : Int) ≤ 1099511627776) <| gd (((List.replicate ((p0.length : Int)).toNat [] : (List (List Int)))).length = p0.length) <| some (p0, ())) := by kernel_rfl
theorem ok (k : Nat) : Ok Tryz.prog 78 (sem k) := Fd.ok (cx_ok trivial) ⟨Tryz.func78, rfl, by kernel_rfl⟩ rfl
attribute [irreducible] f
end impl_clone_Lint_mv
/-! loop.example/wholecheck/impl.followBlocks -/
namespace impl_followBlocks
noncomputable def D : Fd := ⟨Tryz.f57, 1, h53, (.ow (.ow .sh)), [.sh, .sh, .sh], .unit, h44⟩
noncomputable def C (k : Nat) : Ctx := cx [(109, impl_nexts.sem k), (111, impl_first.sem k), (110, impl_number.sem k), (112, impl_over.sem k), (114, slices_Clone_int_int.sem k), (115, impl_followBlocks_1.sem k), (113, slices_DeleteFunc_int_int.sem k), (78, impl_clone_Lint_mv.sem k), (94, impl_clone_int.sem k)] [] [(5, [(4, some (h42, .sh)), (7, none), (8, none), (9, none), (19, none), (20, none), (21, none)])] [] [(3, [0, 1, 2, 3, 4, 5])] [((3, 2), [3])] [(9, [(4, none), (7, none), (8, none), (9, none), (11, none), (19, none), (20, none), (21, none)])]
noncomputable def sem (k : Nat) : Sem := D.sem (D.ev (C k) k)
noncomputable def f (k : Nat) (p0 : y7) (p1 p2 : (List Int)) : Option ((List (List Int)) × Unit) := D.ev (C k) k (p0, p1, p2, ())
noncomputable def l5 (k : Nat) (p1 p2 : (List Int)) (n : Nat) (v7_5 v8_5 : (List (List Int))) (v9_5 : (List Int)) (v21_5 : Int) : Option ((List (List Int)) × Unit) :=
 D.lp (C k) k 5 [1, 1, 1, 1, 0, 1, 0] [] n [(21, vI v21_5), (20, vI ((p2.length : Int))), (19, vS h9 p2), (9, vO h9 v9_5), (8, vO h87 v8_5), (7, vO h53 v7_5), (4, vS h42 p1)]
noncomputable def lj9 (k n5 : Nat) (p1 p2 : (List Int)) (v21_5 : Int) (v7_5 v8_5 : (List (List Int))) (n : Nat) (v9_j9 : (List Int)) : Option ((List (List Int)) × Unit) :=
 D.jn (C k) k 9 [1, 1, 1, 1, 0, 1, 0, 0, 1, 1, 0, 0, 1] [n5] n [(21, vI v21_5), (20, vI ((p2.length : Int))), (19, vS h9 p2), (11, vO (.ptr I) (p2.getD (v21_5.toNat) 0)), (9, vO h9 v9_j9), (8, vO h87 v8_5), (7, vO h53 v7_5), (4, vS h42 p1)]
theorem sj9 (k n5 : Nat) (p1 p2 : (List Int)) (v21_5 : Int) (v7_5 v8_5 : (List (List Int))) (n : Nat) (v9_j9 : (List Int)) : lj9 k n5 p1 p2 v21_5 v7_5 v8_5 (n + 1) v9_j9 =
 ((slices_Clone_int_int.f k v9_j9).bind fun r5 =>
 (slices_DeleteFunc_int_int.f k r5.1 (fun p => (impl_followBlocks_1.f k p p1 (p2.getD (v21_5.toNat) 0)).bind fun r => some r.1)).bind fun r6 =>
 if (((r6.1.length : Int)) == 0) = true then
  (impl_clone_Lint_mv.f k v8_5).bind fun r7 =>
  some (r7.1, ())
 else
  (impl_clone_int.f k r6.1).bind fun r8 =>
  gd ((v8_5.length : Int) + ([r8.1].length : Int) ≤ 1099511627776) <| l5 k p1 p2 n5 v7_5 (v8_5 ++ [r8.1]) r6.1 (w64 (v21_5 + 1))) := by kernel_rfl
theorem zj9 (k n5 : Nat) (p1 p2 : (List Int)) (v21_5 : Int) (v7_5 v8_5 : (List (List Int))) (v9_j9 : (List Int)) : lj9 k n5 p1 p2 v21_5 v7_5 v8_5 0 v9_j9 = none := by kernel_rfl
theorem s5 (k : Nat) (p1 p2 : (List Int)) (n : Nat) (v7_5 v8_5 : (List (List Int))) (v9_5 : (List Int)) (v21_5 : Int) : l5 k p1 p2 (n + 1) v7_5 v8_5 v9_5 v21_5 =
 (if (decide (v21_5 < ((p2.length : Int)))) = true then
  gd ((0 : Int) ≤ v21_5) <| gd (v21_5 < (p2.length : Int)) <| if (decide (v21_5 > 0)) = true then
   (impl_over.f k v7_5 v9_5).bind fun r4 =>
   lj9 k n p1 p2 v21_5 v7_5 v8_5 k r4.1
  else
   lj9 k n p1 p2 v21_5 v7_5 v8_5 k v9_5
 else
  (impl_clone_Lint_mv.f k v8_5).bind fun r9 =>
  some (r9.1, ())) := by kernel_rfl
theorem z5 (k : Nat) (p1 p2 : (List Int)) (v7_5 v8_5 : (List (List Int))) (v9_5 : (List Int)) (v21_5 : Int) : l5 k p1 p2 0 v7_5 v8_5 v9_5 v21_5 = none := by kernel_rfl
theorem s (k : Nat) (p0 : y7) (p1 p2 : (List Int)) : f k p0 p1 p2 =
 ((impl_nexts.f k p0).bind fun r1 =>
 (impl_first.f k p0).bind fun r2 =>
 (impl_number.f k p0 r2.1).bind fun r3 =>
 l5 k p1 p2 k r1.1 [] [r3.1] 0) := by kernel_rfl
theorem ok (k : Nat) : Ok Tryz.prog 57 (sem k) := Fd.ok (cx_ok ⟨impl_nexts.ok k, impl_first.ok k, impl_number.ok k, impl_over.ok k, slices_Clone_int_int.ok k, impl_followBlocks_1.ok k, slices_DeleteFunc_int_int.ok k, impl_clone_Lint_mv.ok k, impl_clone_int.ok k, trivial⟩) ⟨Tryz.func57, rfl, by kernel_rfl⟩ rfl
attribute [irreducible] f l5 lj9
end impl_followBlocks
/-! loop.example/wholecheck/impl.marks -/
namespace impl_marks
noncomputable def D : Fd := ⟨Tryz.f125, 1, h55, (.ow .sh), [.sh, .sh], .unit, h10⟩
noncomputable def C (k : Nat) : Ctx := cx [] [] [(3, [(5, none), (10, none), (11, none), (12, none)])] [] [] [] []
noncomputable def sem (k : Nat) : Sem := D.sem (D.ev (C k) k)
noncomputable def f (k : Nat) (p0 : (List Int)) (p1 : Int) : Option ((List Bool) × Unit) := D.ev (C k) k (p0, p1, ())
noncomputable def l3 (k : Nat) (p0 : (List Int)) (n : Nat) (v5_3 : (List Bool)) (v12_3 : Int) : Option ((List Bool) × Unit) :=
 D.lp (C k) k 3 [1, 1, 0, 1, 0] [] n [(12, vI v12_3), (11, vI ((p0.length : Int))), (10, vS h9 p0), (5, vO h55 v5_3)]
theorem s3 (k : Nat) (p0 : (List Int)) (n : Nat) (v5_3 : (List Bool)) (v12_3 : Int) : l3 k p0 (n + 1) v5_3 v12_3 =
 (if (decide (v12_3 < ((p0.length : Int)))) = true then
  gd ((0 : Int) ≤ v12_3) <| gd (v12_3 < (p0.length : Int)) <| gd ((0 : Int) ≤ (p0.getD (v12_3.toNat) 0)) <| gd ((p0.getD (v12_3.toNat) 0) < (v5_3.length : Int)) <| l3 k p0 n (v5_3.set ((p0.getD (v12_3.toNat) 0).toNat) true) (w64 (v12_3 + 1))
 else
  some (v5_3, ())) := by kernel_rfl
theorem z3 (k : Nat) (p0 : (List Int)) (v5_3 : (List Bool)) (v12_3 : Int) : l3 k p0 0 v5_3 v12_3 = none := by kernel_rfl
theorem s (k : Nat) (p0 : (List Int)) (p1 : Int) : f k p0 p1 =
 (gd ((0 : Int) ≤ p1) <| gd ((p1 : Int) ≤ 1099511627776) <| l3 k p0 k ((List.replicate p1.toNat false : (List Bool))) 0) := by kernel_rfl
theorem ok (k : Nat) : Ok Tryz.prog 125 (sem k) := Fd.ok (cx_ok trivial) ⟨Tryz.func125, rfl, by kernel_rfl⟩ rfl
attribute [irreducible] f l3
end impl_marks
/-! loop.example/wholecheck/impl.splitBlocks$1 -/
namespace impl_splitBlocks_1
noncomputable def D : Fd := ⟨Tryz.f162, 1, h89, .sh, [.sh, .sh, .sh], .unit, h93⟩
noncomputable def C (k : Nat) : Ctx := cx [(163, impl_bit.sem k)] [] [] [] [(1, [0, 1, 2, 3, 4, 5, 6, 7, 8, 9, 10, 11])] [] []
noncomputable def sem (k : Nat) : Sem := D.sem (D.ev (C k) k)
noncomputable def f (k : Nat) (p0 : Int) (p1 : (List Int)) (p2 : (List Bool)) : Option ((Unit × (Int × Int)) × Unit) := D.ev (C k) k (p0, p1, p2, ())
theorem s (k : Nat) (p0 : Int) (p1 : (List Int)) (p2 : (List Bool)) : f k p0 p1 p2 =
 (gd ((0 : Int) ≤ p0) <| gd (p0 < (p1.length : Int)) <| gd ((0 : Int) ≤ p0) <| gd (p0 < (p2.length : Int)) <| (impl_bit.f k (p2.getD (p0.toNat) false)).bind fun r1 =>
 some (((), (p1.getD (p0.toNat) 0, r1.1)), ())) := by kernel_rfl
theorem ok (k : Nat) : Ok Tryz.prog 162 (sem k) := Fd.ok (cx_ok ⟨impl_bit.ok k, trivial⟩) ⟨Tryz.func162, rfl, by kernel_rfl⟩ rfl
attribute [irreducible] f
end impl_splitBlocks_1
/-! loop.example/wholecheck/impl.blocksOf[[2]int] -/
namespace impl_blocksOf_2_int
noncomputable def D : Fd := ⟨Tryz.f161, 1, h22, (.ag (.ow .sh)), [.sh, .sh], .unit, h96⟩
noncomputable def C (k : Nat) : Ctx := cx [(94, impl_clone_int.sem k)] [] [(4, [(1, none), (4, none), (5, none), (6, none), (15, none), (16, none)])] [] [] [] []
noncomputable def sem (k : Nat) : Sem := D.sem (D.ev (C k) k)
noncomputable def f (k : Nat) (p0 : Int) (p1 : y12) : Option ((List Int) × Unit) := D.ev (C k) k (p0, p1, ())
noncomputable def l4 (k : Nat) (p0 : Int) (p1 : y12) (n : Nat) (v5_4 : y13) (v6_4 : (List Int)) (v16_4 : Int) : Option ((List Int) × Unit) :=
 D.lp (C k) k 4 [1, 1, 1, 0, 1, 0] [] n [(16, vI v16_4), (15, vI ((((List.replicate p0.toNat 0 : (List Int))).length : Int))), (6, vO h9 v6_4), (5, vO h97 v5_4), (4, vO h42 []), (1, vS h94 p1)]
theorem s4 (k : Nat) (p0 : Int) (p1 : y12) (n : Nat) (v5_4 : y13) (v6_4 : (List Int)) (v16_4 : Int) : l4 k p0 p1 (n + 1) v5_4 v6_4 v16_4 =
 (if (decide (v16_4 < ((((List.replicate p0.toNat 0 : (List Int))).length : Int)))) = true then
  (p1 v16_4).bind fun r1 =>
  if (!((mget (.agg (.pair .unit (.pair I I))) I v5_4 r1).isSome)) = true then
   gd ((0 : Int) ≤ v16_4) <| gd (v16_4 < (v6_4.length : Int)) <| l4 k p0 p1 n (mput (.agg (.pair .unit (.pair I I))) I v5_4 r1 v16_4) (v6_4.set (v16_4.toNat) ((mget (.agg (.pair .unit (.pair I I))) I (mput (.agg (.pair .unit (.pair I I))) I v5_4 r1 v16_4) r1).getD 0)) (w64 (v16_4 + 1))
  else
   gd ((0 : Int) ≤ v16_4) <| gd (v16_4 < (v6_4.length : Int)) <| l4 k p0 p1 n v5_4 (v6_4.set (v16_4.toNat) ((mget (.agg (.pair .unit (.pair I I))) I v5_4 r1).getD 0)) (w64 (v16_4 + 1))
 else
  (impl_clone_int.f k v6_4).bind fun r2 =>
  some (r2.1, ())) := by kernel_rfl
theorem z4 (k : Nat) (p0 : Int) (p1 : y12) (v5_4 : y13) (v6_4 : (List Int)) (v16_4 : Int) : l4 k p0 p1 0 v5_4 v6_4 v16_4 = none := by kernel_rfl
theorem s (k : Nat) (p0 : Int) (p1 : y12) : f k p0 p1 =
 (gd ((0 : Int) ≤ p0) <| gd ((p0 : Int) ≤ 1099511627776) <| l4 k p0 p1 k [] ((List.replicate p0.toNat 0 : (List Int))) 0) := by kernel_rfl
theorem ok (k : Nat) : Ok Tryz.prog 161 (sem k) := Fd.ok (cx_ok ⟨impl_clone_int.ok k, trivial⟩) ⟨Tryz.func161, rfl, by kernel_rfl⟩ rfl
attribute [irreducible] f l4
end impl_blocksOf_2_int
/-! loop.example/wholecheck/impl.splitBlocks -/
namespace impl_splitBlocks
noncomputable def D : Fd := ⟨Tryz.f124, 1, h22, (.ag (.ow .sh)), [.sh, .sh], .unit, h98⟩
noncomputable def C (k : Nat) : Ctx := cx [(162, impl_splitBlocks_1.sem k), (161, impl_blocksOf_2_int.sem k)] [] [] [] [] [] []
noncomputable def sem (k : Nat) : Sem := D.sem (D.ev (C k) k)
noncomputable def f (k : Nat) (p0 : (List Int)) (p1 : (List Bool)) : Option ((List Int) × Unit) := D.ev (C k) k (p0, p1, ())
theorem s (k : Nat) (p0 : (List Int)) (p1 : (List Bool)) : f k p0 p1 =
 ((impl_blocksOf_2_int.f k ((p0.length : Int)) (fun p => (impl_splitBlocks_1.f k p p0 p1).bind fun r => some r.1)).bind fun r1 =>
 some (r1.1, ())) := by kernel_rfl
theorem ok (k : Nat) : Ok Tryz.prog 124 (sem k) := Fd.ok (cx_ok ⟨impl_splitBlocks_1.ok k, impl_blocksOf_2_int.ok k, trivial⟩) ⟨Tryz.func124, rfl, by kernel_rfl⟩ rfl
attribute [irreducible] f
end impl_splitBlocks
/-! loop.example/wholecheck/impl.splitFor$1 -/
namespace impl_splitFor_1
noncomputable def D : Fd := ⟨Tryz.f126, 1, .bool, .sh, [.sh, .sh], .unit, h99⟩
noncomputable def C (k : Nat) : Ctx := cx [] [] [] [] [] [] []
noncomputable def sem (k : Nat) : Sem := D.sem (D.ev (C k) k)
noncomputable def f (k : Nat) (p0 : Int) (p1 : (List Bool)) : Option (Bool × Unit) := D.ev (C k) k (p0, p1, ())
theorem s (k : Nat) (p0 : Int) (p1 : (List Bool)) : f k p0 p1 =
 (gd ((0 : Int) ≤ p0) <| gd (p0 < (p1.length : Int)) <| some (!(p1.getD (p0.toNat) false), ())) := by kernel_rfl
theorem ok (k : Nat) : Ok Tryz.prog 126 (sem k) := Fd.ok (cx_ok trivial) ⟨Tryz.func126, rfl, by kernel_rfl⟩ rfl
attribute [irreducible] f
end impl_splitFor_1
/-! loop.example/wholecheck/impl.splitFor -/
namespace impl_splitFor
noncomputable def D : Fd := ⟨Tryz.f69, 2, h60, (.pr (.ag (.ow .sh)) .sh), [.sh, .sh, .sh, .sh], .unit, h102⟩
noncomputable def C (k : Nat) : Ctx := cx [(57, impl_followBlocks.sem k), (125, impl_marks.sem k), (124, impl_splitBlocks.sem k), (126, impl_splitFor_1.sem k), (107, slices_ContainsFunc_int_int.sem k)] [] [(11, [(2, none), (5, none), (7, none), (8, none), (12, none), (48, none), (49, none), (50, none)])] [] [(6, [0, 1, 2, 3, 4, 5, 6, 7])] [((6, 4), [5])] []
noncomputable def sem (k : Nat) : Sem := D.sem (D.ev (C k) k)
noncomputable def f (k : Nat) (p0 : y7) (p1 p2 : (List Int)) (p3 : (List Bool)) : Option (((List Int) × Bool) × Unit) := D.ev (C k) k (p0, p1, p2, p3, ())
noncomputable def l11 (k : Nat) (p1 p2 : (List Int)) (p3 : (List Bool)) (n : Nat) (v12_11 : (List Bool)) (v50_11 : Int) : Option (((List Int) × Bool) × Unit) :=
 D.lp (C k) k 11 [1, 1, 1, 1, 1, 1, 1, 0, 1, 0] [] n [(50, vI v50_11), (49, vI ((p1.length : Int))), (48, vS h9 p1), (12, vO h55 v12_11), (8, vO h42 []), (7, vS h90 p3), (5, .val h42 (.ow .sh) p1), (2, vS h9 p2)]
theorem s11 (k : Nat) (p1 p2 : (List Int)) (p3 : (List Bool)) (n : Nat) (v12_11 : (List Bool)) (v50_11 : Int) : l11 k p1 p2 p3 (n + 1) v12_11 v50_11 =
 (if (decide (v50_11 < ((p1.length : Int)))) = true then
  gd ((0 : Int) ≤ v50_11) <| gd (v50_11 < (p1.length : Int)) <| gd ((0 : Int) ≤ (w64 (((p2.length : Int)) - 1))) <| gd ((w64 (((p2.length : Int)) - 1)) < (p2.length : Int)) <| if ((p1.getD (v50_11.toNat) 0) == (p2.getD ((w64 (((p2.length : Int)) - 1)).toNat) 0)) = true then
   gd ((0 : Int) ≤ v50_11) <| gd (v50_11 < (p3.length : Int)) <| gd ((0 : Int) ≤ v50_11) <| gd (v50_11 < (v12_11.length : Int)) <| l11 k p1 p2 p3 n (v12_11.set (v50_11.toNat) (!(p3.getD (v50_11.toNat) false))) (w64 (v50_11 + 1))
  else
   gd ((0 : Int) ≤ v50_11) <| gd (v50_11 < (v12_11.length : Int)) <| l11 k p1 p2 p3 n (v12_11.set (v50_11.toNat) false) (w64 (v50_11 + 1))
 else
  (impl_splitBlocks.f k p1 v12_11).bind fun r5 =>
  some ((r5.1, true), ())) := by kernel_rfl
theorem z11 (k : Nat) (p1 p2 : (List Int)) (p3 : (List Bool)) (v12_11 : (List Bool)) (v50_11 : Int) : l11 k p1 p2 p3 0 v12_11 v50_11 = none := by kernel_rfl
theorem s (k : Nat) (p0 : y7) (p1 p2 : (List Int)) (p3 : (List Bool)) : f k p0 p1 p2 p3 =
 ((impl_followBlocks.f k p0 p1 p2).bind fun r1 =>
 if (((r1.1.length : Int)) == 0) = true then
  some (([], false), ())
 else
  gd ((0 : Int) ≤ (w64 (((r1.1.length : Int)) - 1))) <| gd ((w64 (((r1.1.length : Int)) - 1)) < (r1.1.length : Int)) <| if (decide (((r1.1.length : Int)) < ((p2.length : Int)))) = true then
   (impl_marks.f k (r1.1.getD ((w64 (((r1.1.length : Int)) - 1)).toNat) []) ((p3.length : Int))).bind fun r2 =>
   (impl_splitBlocks.f k p1 r2.1).bind fun r3 =>
   some ((r3.1, true), ())
  else
   (slices_ContainsFunc_int_int.f k (r1.1.getD ((w64 (((r1.1.length : Int)) - 1)).toNat) []) (fun p => (impl_splitFor_1.f k p p3).bind fun r => some r.1)).bind fun r4 =>
   if r4.1 = true then
    some (([], false), ())
   else
    gd ((0 : Int) ≤ ((p3.length : Int))) <| gd ((((p3.length : Int)) : Int) ≤ 1099511627776) <| l11 k p1 p2 p3 k ((List.replicate ((p3.length : Int)).toNat false : (List Bool))) 0) := by kernel_rfl
theorem ok (k : Nat) : Ok Tryz.prog 69 (sem k) := Fd.ok (cx_ok ⟨impl_followBlocks.ok k, impl_marks.ok k, impl_splitBlocks.ok k, impl_splitFor_1.ok k, slices_ContainsFunc_int_int.ok k, trivial⟩) ⟨Tryz.func69, rfl, by kernel_rfl⟩ rfl
attribute [irreducible] f l11
end impl_splitFor
/-! loop.example/wholecheck/impl.SplitFor -/
namespace impl_SplitFor
noncomputable def D : Fd := ⟨Tryz.f29, 2, h60, (.pr (.ag (.ow .sh)) .sh), [.sh, .sh, .sh, .sh], .unit, h47⟩
noncomputable def C (k : Nat) : Ctx := cx [(67, impl_goodIn.sem k), (68, impl_blocksOk.sem k), (56, impl_wayOk.sem k), (69, impl_splitFor.sem k)] [] [] [] [] [] []
noncomputable def sem (k : Nat) : Sem := D.sem (D.ev (C k) k)
noncomputable def f (k : Nat) (p0 : y7) (p1 p2 : (List Int)) (p3 : y2) : Option (((List Int) × Bool) × Unit) := D.ev (C k) k (p0, p1, p2, p3, ())
theorem s (k : Nat) (p0 : y7) (p1 p2 : (List Int)) (p3 : y2) : f k p0 p1 p2 p3 =
 ((impl_goodIn.f k p0 p3).bind fun r1 =>
 if (!r1.1.2) = true then
  some (([], false), ())
 else
  (impl_blocksOk.f k p0 p1).bind fun r2 =>
  if (!r2.1) = true then
   some (([], false), ())
  else
   (impl_wayOk.f k p1 p2).bind fun r3 =>
   if (!r3.1) = true then
    some (([], false), ())
   else
    (impl_splitFor.f k p0 p1 p2 r1.1.1).bind fun r4 =>
    some (r4.1, ())) := by kernel_rfl
theorem ok (k : Nat) : Ok Tryz.prog 29 (sem k) := Fd.ok (cx_ok ⟨impl_goodIn.ok k, impl_blocksOk.ok k, impl_wayOk.ok k, impl_splitFor.ok k, trivial⟩) ⟨Tryz.func29, rfl, by kernel_rfl⟩ rfl
attribute [irreducible] f
end impl_SplitFor
/-! loop.example/wholecheck/laws.eqIntS -/
namespace laws_eqIntS
noncomputable def D : Fd := ⟨Tryz.f20, 1, .bool, .sh, [.sh, .sh], .unit, h52⟩
noncomputable def C (k : Nat) : Ctx := cx [] [] [(4, [(0, none), (1, none), (5, none)])] [] [(6, [0, 1, 2, 3, 4, 5, 6, 7, 8])] [] []
noncomputable def sem (k : Nat) : Sem := D.sem (D.ev (C k) k)
noncomputable def f (k : Nat) (p0 p1 : (List Int)) : Option (Bool × Unit) := D.ev (C k) k (p0, p1, ())
noncomputable def l4 (k : Nat) (p0 p1 : (List Int)) (n : Nat) (v5_4 : Int) : Option (Bool × Unit) :=
 D.lp (C k) k 4 [1, 1, 0, 1, 0] [] n [(5, vI v5_4), (1, vS h9 p1), (0, vS h9 p0)]
theorem s4 (k : Nat) (p0 p1 : (List Int)) (n : Nat) (v5_4 : Int) : l4 k p0 p1 (n + 1) v5_4 =
 (if (decide (v5_4 < ((p0.length : Int)))) = true then
  gd ((0 : Int) ≤ v5_4) <| gd (v5_4 < (p0.length : Int)) <| gd ((0 : Int) ≤ v5_4) <| gd (v5_4 < (p1.length : Int)) <| if ((p0.getD (v5_4.toNat) 0) != (p1.getD (v5_4.toNat) 0)) = true then
   some (false, ())
  else
   l4 k p0 p1 n (w64 (v5_4 + 1))
 else
  some (true, ())) := by kernel_rfl
theorem z4 (k : Nat) (p0 p1 : (List Int)) (v5_4 : Int) : l4 k p0 p1 0 v5_4 = none := by kernel_rfl
theorem s (k : Nat) (p0 p1 : (List Int)) : f k p0 p1 =
 (if (((p0.length : Int)) != ((p1.length : Int))) = true then
  some (false, ())
 else
  l4 k p0 p1 k 0) := by kernel_rfl
theorem ok (k : Nat) : Ok Tryz.prog 20 (sem k) := Fd.ok (cx_ok trivial) ⟨Tryz.func20, rfl, by kernel_rfl⟩ rfl
attribute [irreducible] f l4
end laws_eqIntS
/-! loop.example/wholecheck/laws.eqBlocks -/
namespace laws_eqBlocks
noncomputable def D : Fd := ⟨Tryz.f19, 1, .bool, .sh, [.sh, .sh], .unit, h103⟩
noncomputable def C (k : Nat) : Ctx := cx [(20, laws_eqIntS.sem k)] [] [] [] [] [] []
noncomputable def sem (k : Nat) : Sem := D.sem (D.ev (C k) k)
noncomputable def f (k : Nat) (p0 p1 : (List Int)) : Option (Bool × Unit) := D.ev (C k) k (p0, p1, ())
theorem s (k : Nat) (p0 p1 : (List Int)) : f k p0 p1 =
 ((laws_eqIntS.f k p0 p1).bind fun r1 =>
 if (!r1.1) = true then
  some (false, ())
 else
  some (true, ())) := by kernel_rfl
theorem ok (k : Nat) : Ok Tryz.prog 19 (sem k) := Fd.ok (cx_ok ⟨laws_eqIntS.ok k, trivial⟩) ⟨Tryz.func19, rfl, by kernel_rfl⟩ rfl
attribute [irreducible] f
end laws_eqBlocks
/-! loop.example/wholecheck/laws.eqVar -/
namespace laws_eqVar
noncomputable def D : Fd := ⟨Tryz.f116, 1, .bool, .sh, [.sh, .sh], .unit, h104⟩
noncomputable def C (k : Nat) : Ctx := cx [] [] [] [] [] [] []
noncomputable def sem (k : Nat) : Sem := D.sem (D.ev (C k) k)
noncomputable def f (k : Nat) (p0 p1 : (Int × (Int × Int))) : Option (Bool × Unit) := D.ev (C k) k (p0, p1, ())
theorem s (k : Nat) (p0 p1 : (Int × (Int × Int))) : f k p0 p1 =
 (if (p0.1 != p1.1) = true then
  some (false, ())
 else
  if (p0.2.1 != p1.2.1) = true then
   some (false, ())
  else
   if (p0.2.2 != p1.2.2) = true then
    some (false, ())
   else
    some (true, ())) := by kernel_rfl
theorem ok (k : Nat) : Ok Tryz.prog 116 (sem k) := Fd.ok (cx_ok trivial) ⟨Tryz.func116, rfl, by kernel_rfl⟩ rfl
attribute [irreducible] f
end laws_eqVar
/-! loop.example/wholecheck/laws.eqVarS -/
namespace laws_eqVarS
noncomputable def D : Fd := ⟨Tryz.f58, 1, .bool, .sh, [.sh, .sh], .unit, h105⟩
noncomputable def C (k : Nat) : Ctx := cx [(116, laws_eqVar.sem k)] [] [(4, [(0, none), (1, none), (5, none)])] [] [(6, [0, 1, 2, 3, 4, 5, 6, 7, 8, 9])] [] []
noncomputable def sem (k : Nat) : Sem := D.sem (D.ev (C k) k)
noncomputable def f (k : Nat) (p0 p1 : y0) : Option (Bool × Unit) := D.ev (C k) k (p0, p1, ())
noncomputable def l4 (k : Nat) (p0 p1 : y0) (n : Nat) (v5_4 : Int) : Option (Bool × Unit) :=
 D.lp (C k) k 4 [1, 1, 0, 1, 0] [] n [(5, vI v5_4), (1, vS h2 p1), (0, vS h2 p0)]
theorem s4 (k : Nat) (p0 p1 : y0) (n : Nat) (v5_4 : Int) : l4 k p0 p1 (n + 1) v5_4 =
 (if (decide (v5_4 < ((p0.length : Int)))) = true then
  gd ((0 : Int) ≤ v5_4) <| gd (v5_4 < (p0.length : Int)) <| gd ((0 : Int) ≤ v5_4) <| gd (v5_4 < (p1.length : Int)) <| (laws_eqVar.f k (p0.getD (v5_4.toNat) (0, (0, 0))) (p1.getD (v5_4.toNat) (0, (0, 0)))).bind fun r1 =>
  if (!r1.1) = true then
   some (false, ())
  else
   l4 k p0 p1 n (w64 (v5_4 + 1))
 else
  some (true, ())) := by kernel_rfl
theorem z4 (k : Nat) (p0 p1 : y0) (v5_4 : Int) : l4 k p0 p1 0 v5_4 = none := by kernel_rfl
theorem s (k : Nat) (p0 p1 : y0) : f k p0 p1 =
 (if (((p0.length : Int)) != ((p1.length : Int))) = true then
  some (false, ())
 else
  l4 k p0 p1 k 0) := by kernel_rfl
theorem ok (k : Nat) : Ok Tryz.prog 58 (sem k) := Fd.ok (cx_ok ⟨laws_eqVar.ok k, trivial⟩) ⟨Tryz.func58, rfl, by kernel_rfl⟩ rfl
attribute [irreducible] f l4
end laws_eqVarS
/-! loop.example/wholecheck/laws.eqTerm -/
namespace laws_eqTerm
noncomputable def D : Fd := ⟨Tryz.f70, 1, .bool, .sh, [.sh, .sh], .unit, h106⟩
noncomputable def C (k : Nat) : Ctx := cx [] [] [] [] [] [] []
noncomputable def sem (k : Nat) : Sem := D.sem (D.ev (C k) k)
noncomputable def f (k : Nat) (p0 p1 : y1) : Option (Bool × Unit) := D.ev (C k) k (p0, p1, ())
theorem s (k : Nat) (p0 p1 : y1) : f k p0 p1 =
 (if (p0.1 != p1.1) = true then
  some (false, ())
 else
  if (p0.2.1 != p1.2.1) = true then
   some (false, ())
  else
   if (p0.2.2.1 != p1.2.2.1) = true then
    some (false, ())
   else
    if (p0.2.2.2 != p1.2.2.2) = true then
     some (false, ())
    else
     some (true, ())) := by kernel_rfl
theorem ok (k : Nat) : Ok Tryz.prog 70 (sem k) := Fd.ok (cx_ok trivial) ⟨Tryz.func70, rfl, by kernel_rfl⟩ rfl
attribute [irreducible] f
end laws_eqTerm
/-! loop.example/wholecheck/laws.eqTermS -/
namespace laws_eqTermS
noncomputable def D : Fd := ⟨Tryz.f30, 1, .bool, .sh, [.sh, .sh], .unit, h107⟩
noncomputable def C (k : Nat) : Ctx := cx [(70, laws_eqTerm.sem k)] [] [(4, [(0, none), (1, none), (5, none)])] [] [(6, [0, 1, 2, 3, 4, 5, 6, 7, 8, 9])] [] []
noncomputable def sem (k : Nat) : Sem := D.sem (D.ev (C k) k)
noncomputable def f (k : Nat) (p0 p1 : y2) : Option (Bool × Unit) := D.ev (C k) k (p0, p1, ())
noncomputable def l4 (k : Nat) (p0 p1 : y2) (n : Nat) (v5_4 : Int) : Option (Bool × Unit) :=
 D.lp (C k) k 4 [1, 1, 0, 1, 0] [] n [(5, vI v5_4), (1, vS h7 p1), (0, vS h7 p0)]
theorem s4 (k : Nat) (p0 p1 : y2) (n : Nat) (v5_4 : Int) : l4 k p0 p1 (n + 1) v5_4 =
 (if (decide (v5_4 < ((p0.length : Int)))) = true then
  gd ((0 : Int) ≤ v5_4) <| gd (v5_4 < (p0.length : Int)) <| gd ((0 : Int) ≤ v5_4) <| gd (v5_4 < (p1.length : Int)) <| (laws_eqTerm.f k (p0.getD (v5_4.toNat) (0, (0, (0, 0)))) (p1.getD (v5_4.toNat) (0, (0, (0, 0))))).bind fun r1 =>
  if (!r1.1) = true then
   some (false, ())
  else
   l4 k p0 p1 n (w64 (v5_4 + 1))
 else
  some (true, ())) := by kernel_rfl
theorem z4 (k : Nat) (p0 p1 : y2) (v5_4 : Int) : l4 k p0 p1 0 v5_4 = none := by kernel_rfl
theorem s (k : Nat) (p0 p1 : y2) : f k p0 p1 =
 (if (((p0.length : Int)) != ((p1.length : Int))) = true then
  some (false, ())
 else
  l4 k p0 p1 k 0) := by kernel_rfl
theorem ok (k : Nat) : Ok Tryz.prog 30 (sem k) := Fd.ok (cx_ok ⟨laws_eqTerm.ok k, trivial⟩) ⟨Tryz.func30, rfl, by kernel_rfl⟩ rfl
attribute [irreducible] f l4
end laws_eqTermS
/-! loop.example/wholecheck/laws.eqTermSS -/
namespace laws_eqTermSS
noncomputable def D : Fd := ⟨Tryz.f158, 1, .bool, .sh, [.sh, .sh], .unit, h108⟩
noncomputable def C (k : Nat) : Ctx := cx [(30, laws_eqTermS.sem k)] [] [(4, [(0, none), (1, none), (5, none)])] [] [(6, [0, 1, 2, 3, 4, 5, 6, 7, 8, 9])] [] []
noncomputable def sem (k : Nat) : Sem := D.sem (D.ev (C k) k)
noncomputable def f (k : Nat) (p0 p1 : y3) : Option (Bool × Unit) := D.ev (C k) k (p0, p1, ())
noncomputable def l4 (k : Nat) (p0 p1 : y3) (n : Nat) (v5_4 : Int) : Option (Bool × Unit) :=
 D.lp (C k) k 4 [1, 1, 0, 1, 0] [] n [(5, vI v5_4), (1, vS h11 p1), (0, vS h11 p0)]
theorem s4 (k : Nat) (p0 p1 : y3) (n : Nat) (v5_4 : Int) : l4 k p0 p1 (n + 1) v5_4 =
 (if (decide (v5_4 < ((p0.length : Int)))) = true then
  gd ((0 : Int) ≤ v5_4) <| gd (v5_4 < (p0.length : Int)) <| gd ((0 : Int) ≤ v5_4) <| gd (v5_4 < (p1.length : Int)) <| (laws_eqTermS.f k (p0.getD (v5_4.toNat) []) (p1.getD (v5_4.toNat) [])).bind fun r1 =>
  if (!r1.1) = true then
   some (false, ())
  else
   l4 k p0 p1 n (w64 (v5_4 + 1))
 else
  some (true, ())) := by kernel_rfl
theorem z4 (k : Nat) (p0 p1 : y3) (v5_4 : Int) : l4 k p0 p1 0 v5_4 = none := by kernel_rfl
theorem s (k : Nat) (p0 p1 : y3) : f k p0 p1 =
 (if (((p0.length : Int)) != ((p1.length : Int))) = true then
  some (false, ())
 else
  l4 k p0 p1 k 0) := by kernel_rfl
theorem ok (k : Nat) : Ok Tryz.prog 158 (sem k) := Fd.ok (cx_ok ⟨laws_eqTermS.ok k, trivial⟩) ⟨Tryz.func158, rfl, by kernel_rfl⟩ rfl
attribute [irreducible] f l4
end laws_eqTermSS
/-! loop.example/wholecheck/laws.eqRule -/
namespace laws_eqRule
noncomputable def D : Fd := ⟨Tryz.f117, 1, .bool, .sh, [.sh, .sh], .unit, h109⟩
noncomputable def C (k : Nat) : Ctx := cx [(30, laws_eqTermS.sem k), (20, laws_eqIntS.sem k), (158, laws_eqTermSS.sem k)] [] [] [] [] [] []
noncomputable def sem (k : Nat) : Sem := D.sem (D.ev (C k) k)
noncomputable def f (k : Nat) (p0 p1 : y5) : Option (Bool × Unit) := D.ev (C k) k (p0, p1, ())
theorem s (k : Nat) (p0 p1 : y5) : f k p0 p1 =
 ((laws_eqTermS.f k p0.1 p1.1).bind fun r1 =>
 if (!r1.1) = true then
  some (false, ())
 else
  (laws_eqIntS.f k p0.2.1 p1.2.1).bind fun r2 =>
  if (!r2.1) = true then
   some (false, ())
  else
   (laws_eqTermSS.f k p0.2.2 p1.2.2).bind fun r3 =>
   if (!r3.1) = true then
    some (false, ())
   else
    some (true, ())) := by kernel_rfl
theorem ok (k : Nat) : Ok Tryz.prog 117 (sem k) := Fd.ok (cx_ok ⟨laws_eqTermS.ok k, laws_eqIntS.ok k, laws_eqTermSS.ok k, trivial⟩) ⟨Tryz.func117, rfl, by kernel_rfl⟩ rfl
attribute [irreducible] f
end laws_eqRule
/-! loop.example/wholecheck/laws.eqRuleS -/
namespace laws_eqRuleS
noncomputable def D : Fd := ⟨Tryz.f59, 1, .bool, .sh, [.sh, .sh], .unit, h110⟩
noncomputable def C (k : Nat) : Ctx := cx [(117, laws_eqRule.sem k)] [] [(4, [(0, none), (1, none), (5, none)])] [] [(6, [0, 1, 2, 3, 4, 5, 6, 7, 8, 9])] [] []
noncomputable def sem (k : Nat) : Sem := D.sem (D.ev (C k) k)
noncomputable def f (k : Nat) (p0 p1 : y6) : Option (Bool × Unit) := D.ev (C k) k (p0, p1, ())
noncomputable def l4 (k : Nat) (p0 p1 : y6) (n : Nat) (v5_4 : Int) : Option (Bool × Unit) :=
 D.lp (C k) k 4 [1, 1, 0, 1, 0] [] n [(5, vI v5_4), (1, vS h17 p1), (0, vS h17 p0)]
theorem s4 (k : Nat) (p0 p1 : y6) (n : Nat) (v5_4 : Int) : l4 k p0 p1 (n + 1) v5_4 =
 (if (decide (v5_4 < ((p0.length : Int)))) = true then
  gd ((0 : Int) ≤ v5_4) <| gd (v5_4 < (p0.length : Int)) <| gd ((0 : Int) ≤ v5_4) <| gd (v5_4 < (p1.length : Int)) <| (laws_eqRule.f k (p0.getD (v5_4.toNat) ([], ([], []))) (p1.getD (v5_4.toNat) ([], ([], [])))).bind fun r1 =>
  if (!r1.1) = true then
   some (false, ())
  else
   l4 k p0 p1 n (w64 (v5_4 + 1))
 else
  some (true, ())) := by kernel_rfl
theorem z4 (k : Nat) (p0 p1 : y6) (v5_4 : Int) : l4 k p0 p1 0 v5_4 = none := by kernel_rfl
theorem s (k : Nat) (p0 p1 : y6) : f k p0 p1 =
 (if (((p0.length : Int)) != ((p1.length : Int))) = true then
  some (false, ())
 else
  l4 k p0 p1 k 0) := by kernel_rfl
theorem ok (k : Nat) : Ok Tryz.prog 59 (sem k) := Fd.ok (cx_ok ⟨laws_eqRule.ok k, trivial⟩) ⟨Tryz.func59, rfl, by kernel_rfl⟩ rfl
attribute [irreducible] f l4
end laws_eqRuleS
/-! loop.example/wholecheck/laws.eqSystem -/
namespace laws_eqSystem
noncomputable def D : Fd := ⟨Tryz.f18, 1, .bool, .sh, [.sh, .sh], .unit, h111⟩
noncomputable def C (k : Nat) : Ctx := cx [(58, laws_eqVarS.sem k), (59, laws_eqRuleS.sem k)] [] [] [] [] [] []
noncomputable def sem (k : Nat) : Sem := D.sem (D.ev (C k) k)
noncomputable def f (k : Nat) (p0 p1 : y7) : Option (Bool × Unit) := D.ev (C k) k (p0, p1, ())
theorem s (k : Nat) (p0 p1 : y7) : f k p0 p1 =
 ((laws_eqVarS.f k p0.1 p1.1).bind fun r1 =>
 if (!r1.1) = true then
  some (false, ())
 else
  (laws_eqRuleS.f k p0.2 p1.2).bind fun r2 =>
  if (!r2.1) = true then
   some (false, ())
  else
   some (true, ())) := by kernel_rfl
theorem ok (k : Nat) : Ok Tryz.prog 18 (sem k) := Fd.ok (cx_ok ⟨laws_eqVarS.ok k, laws_eqRuleS.ok k, trivial⟩) ⟨Tryz.func18, rfl, by kernel_rfl⟩ rfl
attribute [irreducible] f
end laws_eqSystem
/-! loop.example/wholecheck/laws.markVarS -/
namespace laws_markVarS
noncomputable def D : Fd := ⟨Tryz.f60, 1, I, .sh, [.loan (.ow (.ag (.pr .sh (.pr .sh .sh)))), .sh], h2, h4⟩
noncomputable def C (k : Nat) : Ctx := cx [] [] [(2, [(0, none), (1, none), (5, none)])] [0] [] [] []
noncomputable def sem (k : Nat) : Sem := D.sem (D.ev (C k) k)
noncomputable def f (k : Nat) (p0 : y0) (p1 : Int) : Option (Int × y0) := D.ev (C k) k (p0, p1, ())
noncomputable def l2 (k : Nat) (n : Nat) (v0_2 : y0) (v1_2 v5_2 : Int) : Option (Int × y0) :=
 D.lp (C k) k 2 [1, 0, 1, 0] [] n [(5, vI v5_2), (1, vI v1_2), (0, vO h2 v0_2)]
theorem s2 (k : Nat) (n : Nat) (v0_2 : y0) (v1_2 v5_2 : Int) : l2 k (n + 1) v0_2 v1_2 v5_2 =
 (if (decide (v5_2 < ((v0_2.length : Int)))) = true then
  gd ((0 : Int) ≤ v5_2) <| gd (v5_2 < (v0_2.length : Int)) <| gd ((0 : Int) ≤ v5_2) <| gd (v5_2 < ((v0_2.set (v5_2.toNat) (v1_2, (v0_2.getD (v5_2.toNat) (0, (0, 0))).2)).length : Int)) <| gd ((0 : Int) ≤ v5_2) <| gd (v5_2 < (((v0_2.set (v5_2.toNat) (v1_2, (v0_2.getD (v5_2.toNat) (0, (0, 0))).2)).set (v5_2.toNat) (((v0_2.set (v5_2.toNat) (v1_2, (v0_2.getD (v5_2.toNat) (0, (0, 0))).2)).getD (v5_2.toNat) (0, (0, 0))).1, (w64 (v1_2 + 1), ((v0_2.set (v5_2.toNat) (v1_2, (v0_2.getD (v5_2.toNat) (0, (0, 0))).2)).getD (v5_2.toNat) (0, (0, 0))).2.2))).length : Int)) <| l2 k n (((v0_2.set (v5_2.toNat) (v1_2, (v0_2.getD (v5_2.toNat) (0, (0, 0))).2)).set (v5_2.toNat) (((v0_2.set (v5_2.toNat) (v1_2, (v0_2.getD (v5_2.toNat) (0, (0, 0))).2)).getD (v5_2.toNat) (0, (0, 0))).1, (w64 (v1_2 + 1), ((v0_2.set (v5_2.toNat) (v1_2, (v0_2.getD (v5_2.toNat) (0, (0, 0))).2)).getD (v5_2.toNat) (0, (0, 0))).2.2))).set (v5_2.toNat) ((((v0_2.set (v5_2.toNat) (v1_2, (v0_2.getD (v5_2.toNat) (0, (0, 0))).2)).set (v5_2.toNat) (((v0_2.set (v5_2.toNat) (v1_2, (v0_2.getD (v5_2.toNat) (0, (0, 0))).2)).getD (v5_2.toNat) (0, (0, 0))).1, (w64 (v1_2 + 1), ((v0_2.set (v5_2.toNat) (v1_2, (v0_2.getD (v5_2.toNat) (0, (0, 0))).2)).getD (v5_2.toNat) (0, (0, 0))).2.2))).getD (v5_2.toNat) (0, (0, 0))).1, ((((v0_2.set (v5_2.toNat) (v1_2, (v0_2.getD (v5_2.toNat) (0, (0, 0))).2)).set (v5_2.toNat) (((v0_2.set (v5_2.toNat) (v1_2, (v0_2.getD (v5_2.toNat) (0, (0, 0))).2)).getD (v5_2.toNat) (0, (0, 0))).1, (w64 (v1_2 + 1), ((v0_2.set (v5_2.toNat) (v1_2, (v0_2.getD (v5_2.toNat) (0, (0, 0))).2)).getD (v5_2.toNat) (0, (0, 0))).2.2))).getD (v5_2.toNat) (0, (0, 0))).2.1, w64 ((w64 (v1_2 + 1)) + 1)))) (w64 ((w64 ((w64 (v1_2 + 1)) + 1)) + 1)) (w64 (v5_2 + 1))
 else
  some (v1_2, v0_2)) := by kernel_rfl
theorem z2 (k : Nat) (v0_2 : y0) (v1_2 v5_2 : Int) : l2 k 0 v0_2 v1_2 v5_2 = none := by kernel_rfl
theorem s (k : Nat) (p0 : y0) (p1 : Int) : f k p0 p1 =
 (l2 k k p0 p1 0) := by kernel_rfl
theorem ok (k : Nat) : Ok Tryz.prog 60 (sem k) := Fd.ok (cx_ok trivial) ⟨Tryz.func60, rfl, by kernel_rfl⟩ rfl
attribute [irreducible] f l2
end laws_markVarS
/-! loop.example/wholecheck/laws.markTermS -/
namespace laws_markTermS
noncomputable def D : Fd := ⟨Tryz.f31, 1, I, .sh, [.loan (.ow (.ag (.pr .sh (.pr .sh (.pr .sh .sh))))), .sh], h7, h8⟩
noncomputable def C (k : Nat) : Ctx := cx [] [] [(2, [(0, none), (1, none), (5, none)])] [0] [] [] []
noncomputable def sem (k : Nat) : Sem := D.sem (D.ev (C k) k)
noncomputable def f (k : Nat) (p0 : y2) (p1 : Int) : Option (Int × y2) := D.ev (C k) k (p0, p1, ())
noncomputable def l2 (k : Nat) (n : Nat) (v0_2 : y2) (v1_2 v5_2 : Int) : Option (Int × y2) :=
 D.lp (C k) k 2 [1, 0, 1, 0] [] n [(5, vI v5_2), (1, vI v1_2), (0, vO h7 v0_2)]
theorem s2 (k : Nat) (n : Nat) (v0_2 : y2) (v1_2 v5_2 : Int) : l2 k (n + 1) v0_2 v1_2 v5_2 =
 (if (decide (v5_2 < ((v0_2.length : Int)))) = true then
  gd ((0 : Int) ≤ v5_2) <| gd (v5_2 < (v0_2.length : Int)) <| gd ((0 : Int) ≤ v5_2) <| gd (v5_2 < ((v0_2.set (v5_2.toNat) (v1_2, (v0_2.getD (v5_2.toNat) (0, (0, (0, 0)))).2)).length : Int)) <| gd ((0 : Int) ≤ v5_2) <| gd (v5_2 < (((v0_2.set (v5_2.toNat) (v1_2, (v0_2.getD (v5_2.toNat) (0, (0, (0, 0)))).2)).set (v5_2.toNat) (((v0_2.set (v5_2.toNat) (v1_2, (v0_2.getD (v5_2.toNat) (0, (0, (0, 0)))).2)).getD (v5_2.toNat) (0, (0, (0, 0)))).1, (w64 (v1_2 + 1), ((v0_2.set (v5_2.toNat) (v1_2, (v0_2.getD (v5_2.toNat) (0, (0, (0, 0)))).2)).getD (v5_2.toNat) (0, (0, (0, 0)))).2.2))).length : Int)) <| gd ((0 : Int) ≤ v5_2) <| gd (v5_2 < ((((v0_2.set (v5_2.toNat) (v1_2, (v0_2.getD (v5_2.toNat) (0, (0, (0, 0)))).2)).set (v5_2.toNat) (((v0_2.set (v5_2.toNat) (v1_2, (v0_2.getD (v5_2.toNat) (0, (0, (0, 0)))).2)).getD (v5_2.toNat) (0, (0, (0, 0)))).1, (w64 (v1_2 + 1), ((v0_2.set (v5_2.toNat) (v1_2, (v0_2.getD (v5_2.toNat) (0, (0, (0, 0)))).2)).getD (v5_2.toNat) (0, (0, (0, 0)))).2.2))).set (v5_2.toNat) ((((v0_2.set (v5_2.toNat) (v1_2, (v0_2.getD (v5_2.toNat) (0, (0, (0, 0)))).2)).set (v5_2.toNat) (((v0_2.set (v5_2.toNat) (v1_2, (v0_2.getD (v5_2.toNat) (0, (0, (0, 0)))).2)).getD (v5_2.toNat) (0, (0, (0, 0)))).1, (w64 (v1_2 + 1), ((v0_2.set (v5_2.toNat) (v1_2, (v0_2.getD (v5_2.toNat) (0, (0, (0, 0)))).2)).getD (v5_2.toNat) (0, (0, (0, 0)))).2.2))).getD (v5_2.toNat) (0, (0, (0, 0)))).1, ((((v0_2.set (v5_2.toNat) (v1_2, (v0_2.getD (v5_2.toNat) (0, (0, (0, 0)))).2)).set (v5_2.toNat) (((v0_2.set (v5_2.toNat) (v1_2, (v0_2.getD (v5_2.toNat) (0, (0, (0, 0)))).2)).getD (v5_2.toNat) (0, (0, (0, 0)))).1, (w64 (v1_2 + 1), ((v0_2.set (v5_2.toNat) (v1_2, (v0_2.getD (v5_2.toNat) (0, (0, (0, 0)))).2)).getD (v5_2.toNat) (0, (0, (0, 0)))).2.2))).getD (v5_2.toNat) (0, (0, (0, 0)))).2.1, (w64 ((w64 (v1_2 + 1)) + 1), (((v0_2.set (v5_2.toNat) (v1_2, (v0_2.getD (v5_2.toNat) (0, (0, (0, 0)))).2)).set (v5_2.toNat) (((v0_2.set (v5_2.toNat) (v1_2, (v0_2.getD (v5_2.toNat) (0, (0, (0, 0)))).2)).getD (v5_2.toNat) (0, (0, (0, 0)))).1, (w64 (v1_2 + 1), ((v0_2.set (v5_2.toNat) (v1_2, (v0_2.getD (v5_2.toNat) (0, (0, (0, 0)))).2)).getD (v5_2.toNat) (0, (0, (0, 0)))).2.2))).getD (v5_2.toNat) (0, (0, (0, 0)))).2.2.2)))).length : Int)) <| l2 k n ((((v0_2.set (v5_2.toNat) (v1_2, (v0_2.getD (v5_2.toNat) (0, (0, (0, 0)))).2)).set (v5_2.toNat) (((v0_2.set (v5_2.toNat) (v1_2, (v0_2.getD (v5_2.toNat) (0, (0, (0, 0)))).2)).getD (v5_2.toNat) (0, (0, (0, 0)))).1, (w64 (v1_2 + 1), ((v0_2.set (v5_2.toNat) (v1_2, (v0_2.getD (v5_2.toNat) (0, (0, (0, 0)))).2)).getD (v5_2.toNat) (0, (0, (0, 0)))).2.2))).set (v5_2.toNat) ((((v0_2.set (v5_2.toNat) (v1_2, (v0_2.getD (v5_2.toNat) (0, (0, (0, 0)))).2)).set (v5_2.toNat) (((v0_2.set (v5_2.toNat) (v1_2, (v0_2.getD (v5_2.toNat) (0, (0, (0, 0)))).2)).getD (v5_2.toNat) (0, (0, (0, 0)))).1, (w64 (v1_2 + 1), ((v0_2.set (v5_2.toNat) (v1_2, (v0_2.getD (v5_2.toNat) (0, (0, (0, 0)))).2)).getD (v5_2.toNat) (0, (0, (0, 0)))).2.2))).getD (v5_2.toNat) (0, (0, (0, 0)))).1, ((((v0_2.set (v5_2.toNat) (v1_2, (v0_2.getD (v5_2.toNat) (0, (0, (0, 0)))).2)).set (v5_2.toNat) (((v0_2.set (v5_2.toNat) (v1_2, (v0_2.getD (v5_2.toNat) (0, (0, (0, 0)))).2)).getD (v5_2.toNat) (0, (0, (0, 0)))).1, (w64 (v1_2 + 1), ((v0_2.set (v5_2.toNat) (v1_2, (v0_2.getD (v5_2.toNat) (0, (0, (0, 0)))).2)).getD (v5_2.toNat) (0, (0, (0, 0)))).2.2))).getD (v5_2.toNat) (0, (0, (0, 0)))).2.1, (w64 ((w64 (v1_2 + 1)) + 1), (((v0_2.set (v5_2.toNat) (v1_2, (v0_2.getD (v5_2.toNat) (0, (0, (0, 0)))).2)).set (v5_2.toNat) (((v0_2.set (v5_2.toNat) (v1_2, (v0_2.getD (v5_2.toNat) (0, (0, (0, 0)))).2)).getD (v5_2.toNat) (0, (0, (0, 0)))).1, (w64 (v1_2 + 1), ((v0_2.set (v5_2.toNat) (v1_2, (v0_2.getD (v5_2.toNat) (0, (0, (0, 0)))).2)).getD (v5_2.toNat) (0, (0, (0, 0)))).2.2))).getD (v5_2.toNat) (0, (0, (0, 0)))).2.2.2)))).set (v5_2.toNat) (((((v0_2.set (v5_2.toNat) (v1_2, (v0_2.getD (v5_2.toNat) (0, (0, (0, 0)))).2)).set (v5_2.toNat) (((v0_2.set (v5_2.toNat) (v1_2, (v0_2.getD (v5_2.toNat) (0, (0, (0, 0)))).2)).getD (v5_2.toNat) (0, (0, (0, 0)))).1, (w64 (v1_2 + 1), ((v0_2.set (v5_2.toNat) (v1_2, (v0_2.getD (v5_2.toNat) (0, (0, (0, 0)))).2)).getD (v5_2.toNat) (0, (0, (0, 0)))).2.2))).set (v5_2.toNat) ((((v0_2.set (v5_2.toNat) (v1_2, (v0_2.getD (v5_2.toNat) (0, (0, (0, 0)))).2)).set (v5_2.toNat) (((v0_2.set (v5_2.toNat) (v1_2, (v0_2.getD (v5_2.toNat) (0, (0, (0, 0)))).2)).getD (v5_2.toNat) (0, (0, (0, 0)))).1, (w64 (v1_2 + 1), ((v0_2.set (v5_2.toNat) (v1_2, (v0_2.getD (v5_2.toNat) (0, (0, (0, 0)))).2)).getD (v5_2.toNat) (0, (0, (0, 0)))).2.2))).getD (v5_2.toNat) (0, (0, (0, 0)))).1, ((((v0_2.set (v5_2.toNat) (v1_2, (v0_2.getD (v5_2.toNat) (0, (0, (0, 0)))).2)).set (v5_2.toNat) (((v0_2.set (v5_2.toNat) (v1_2, (v0_2.getD (v5_2.toNat) (0, (0, (0, 0)))).2)).getD (v5_2.toNat) (0, (0, (0, 0)))).1, (w64 (v1_2 + 1), ((v0_2.set (v5_2.toNat) (v1_2, (v0_2.getD (v5_2.toNat) (0, (0, (0, 0)))).2)).getD (v5_2.toNat) (0, (0, (0, 0)))).2.2))).getD (v5_2.toNat) (0, (0, (0, 0)))).2.1, (w64 ((w64 (v1_2 + 1)) + 1), (((v0_2.set (v5_2.toNat) (v1_2, (v0_2.getD (v5_2.toNat) (0, (0, (0, 0)))).2)).set (v5_2.toNat) (((v0_2.set (v5_2.toNat) (v1_2, (v0_2.getD (v5_2.toNat) (0, (0, (0, 0)))).2)).getD (v5_2.toNat) (0, (0, (0, 0)))).1, (w64 (v1_2 + 1), ((v0_2.set (v5_2.toNat) (v1_2, (v0_2.getD (v5_2.toNat) (0, (0, (0, 0)))).2)).getD (v5_2.toNat) (0, (0, (0, 0)))).2.2))).getD (v5_2.toNat) (0, (0, (0, 0)))).2.2.2)))).getD (v5_2.toNat) (0, (0, (0, 0)))).1, (((((v0_2.set (v5_2.toNat) (v1_2, (v0_2.getD (v5_2.toNat) (0, (0, (0, 0)))).2)).set (v5_2.toNat) (((v0_2.set (v5_2.toNat) (v1_2, (v0_2.getD (v5_2.toNat) (0, (0, (0, 0)))).2)).getD (v5_2.toNat) (0, (0, (0, 0)))).1, (w64 (v1_2 + 1), ((v0_2.set (v5_2.toNat) (v1_2, (v0_2.getD (v5_2.toNat) (0, (0, (0, 0)))).2)).getD (v5_2.toNat) (0, (0, (0, 0)))).2.2))).set (v5_2.toNat) ((((v0_2.set (v5_2.toNat) (v1_2, (v0_2.getD (v5_2.toNat) (0, (0, (0, 0)))).2)).set (v5_2.toNat) (((v0_2.set (v5_2.toNat) (v1_2, (v0_2.getD (v5_2.toNat) (0, (0, (0, 0)))).2)).getD (v5_2.toNat) (0, (0, (0, 0)))).1, (w64 (v1_2 + 1), ((v0_2.set (v5_2.toNat) (v1_2, (v0_2.getD (v5_2.toNat) (0, (0, (0, 0)))).2)).getD (v5_2.toNat) (0, (0, (0, 0)))).2.2))).getD (v5_2.toNat) (0, (0, (0, 0)))).1, ((((v0_2.set (v5_2.toNat) (v1_2, (v0_2.getD (v5_2.toNat) (0, (0, (0, 0)))).2)).set (v5_2.toNat) (((v0_2.set (v5_2.toNat) (v1_2, (v0_2.getD (v5_2.toNat) (0, (0, (0, 0)))).2)).getD (v5_2.toNat) (0, (0, (0, 0)))).1, (w64 (v1_2 + 1), ((v0_2.set (v5_2.toNat) (v1_2, (v0_2.getD (v5_2.toNat) (0, (0, (0, 0)))).2)).getD (v5_2.toNat) (0, (0, (0, 0)))).2.2))).getD (v5_2.toNat) (0, (0, (0, 0)))).2.1, (w64 ((w64 (v1_2 + 1)) + 1), (((v0_2.set (v5_2.toNat) (v1_2, (v0_2.getD (v5_2.toNat) (0, (0, (0, 0)))).2)).set (v5_2.toNat) (((v0_2.set (v5_2.toNat) (v1_2, (v0_2.getD (v5_2.toNat) (0, (0, (0, 0)))).2)).getD (v5_2.toNat) (0, (0, (0, 0)))).1, (w64 (v1_2 + 1), ((v0_2.set (v5_2.toNat) (v1_2, (v0_2.getD (v5_2.toNat) (0, (0, (0, 0)))).2)).getD (v5_2.toNat) (0, (0, (0, 0)))).2.2))).getD (v5_2.toNat) (0, (0, (0, 0)))).2.2.2)))).getD (v5_2.toNat) (0, (0, (0, 0)))).2.1, (((((v0_2.set (v5_2.toNat) (v1_2, (v0_2.getD (v5_2.toNat) (0, (0, (0, 0)))).2)).set (v5_2.toNat) (((v0_2.set (v5_2.toNat) (v1_2, (v0_2.getD (v5_2.toNat) (0, (0, (0, 0)))).2)).getD (v5_2.toNat) (0, (0, (0, 0)))).1, (w64 (v1_2 + 1), ((v0_2.set (v5_2.toNat) (v1_2, (v0_2.getD (v5_2.toNat) (0, (0, (0, 0)))).2)).getD (v5_2.toNat) (0, (0, (0, 0)))).2.2))).set (v5_2.toNat) ((((v0_2.set (v5_2.toNat) (v1_2, (v0_2.getD (v5_2.toNat) (0, (0, (0, 0)))).2)).set (v5_2.toNat) (((v0_2.set (v5_2.toNat) (v1_2, (v0_2.getD (v5_2.toNat) (0, (0, (0, 0)))).2)).getD (v5_2.toNat) (0, (0, (0, 0)))).1, (w64 (v1_2 + 1), ((v0_2.set (v5_2.toNat) (v1_2, (v0_2.getD (v5_2.toNat) (0, (0, (0, 0)))).2)).getD (v5_2.toNat) (0, (0, (0, 0)))).2.2))).getD (v5_2.toNat) (0, (0, (0, 0)))).1, ((((v0_2.set (v5_2.toNat) (v1_2, (v0_2.getD (v5_2.toNat) (0, (0, (0, 0)))).2)).set (v5_2.toNat) (((v0_2.set (v5_2.toNat) (v1_2, (v0_2.getD (v5_2.toNat) (0, (0, (0, 0)))).2)).getD (v5_2.toNat) (0, (0, (0, 0)))).1, (w64 (v1_2 + 1), ((v0_2.set (v5_2.toNat) (v1_2, (v0_2.getD (v5_2.toNat) (0, (0, (0, 0)))).2)).getD (v5_2.toNat) (0, (0, (0, 0)))).2.2))).getD (v5_2.toNat) (0, (0, (0, 0)))).2.1, (w64 ((w64 (v1_2 + 1)) + 1), (((v0_2.set (v5_2.toNat) (v1_2, (v0_2.getD (v5_2.toNat) (0, (0, (0, 0)))).2)).set (v5_2.toNat) (((v0_2.set (v5_2.toNat) (v1_2, (v0_2.getD (v5_2.toNat) (0, (0, (0, 0)))).2)).getD (v5_2.toNat) (0, (0, (0, 0)))).1, (w64 (v1_2 + 1), ((v0_2.set (v5_2.toNat) (v1_2, (v0_2.getD (v5_2.toNat) (0, (0, (0, 0)))).2)).getD (v5_2.toNat) (0, (0, (0, 0)))).2.2))).getD (v5_2.toNat) (0, (0, (0, 0)))).2.2.2)))).getD (v5_2.toNat) (0, (0, (0, 0)))).2.2.1, w64 ((w64 ((w64 (v1_2 + 1)) + 1)) + 1))))) (w64 ((w64 ((w64 ((w64 (v1_2 + 1)) + 1)) + 1)) + 1)) (w64 (v5_2 + 1))
 else
  some (v1_2, v0_2)) := by kernel_rfl
theorem z2 (k : Nat) (v0_2 : y2) (v1_2 v5_2 : Int) : l2 k 0 v0_2 v1_2 v5_2 = none := by kernel_rfl
theorem s (k : Nat) (p0 : y2) (p1 : Int) : f k p0 p1 =
 (l2 k k p0 p1 0) := by kernel_rfl
theorem ok (k : Nat) : Ok Tryz.prog 31 (sem k) := Fd.ok (cx_ok trivial) ⟨Tryz.func31, rfl, by kernel_rfl⟩ rfl
attribute [irreducible] f l2
end laws_markTermS
/-! loop.example/wholecheck/laws.markIntS -/
namespace laws_markIntS
noncomputable def D : Fd := ⟨Tryz.f23, 1, I, .sh, [.loan (.ow .sh), .sh], h9, h10⟩
noncomputable def C (k : Nat) : Ctx := cx [] [] [(2, [(0, none), (1, none), (5, none)])] [0] [] [] []
noncomputable def sem (k : Nat) : Sem := D.sem (D.ev (C k) k)
noncomputable def f (k : Nat) (p0 : (List Int)) (p1 : Int) : Option (Int × (List Int)) := D.ev (C k) k (p0, p1, ())
noncomputable def l2 (k : Nat) (n : Nat) (v0_2 : (List Int)) (v1_2 v5_2 : Int) : Option (Int × (List Int)) :=
 D.lp (C k) k 2 [1, 0, 1, 0] [] n [(5, vI v5_2), (1, vI v1_2), (0, vO h9 v0_2)]
theorem s2 (k : Nat) (n : Nat) (v0_2 : (List Int)) (v1_2 v5_2 : Int) : l2 k (n + 1) v0_2 v1_2 v5_2 =
 (if (decide (v5_2 < ((v0_2.length : Int)))) = true then
  gd ((0 : Int) ≤ v5_2) <| gd (v5_2 < (v0_2.length : Int)) <| l2 k n (v0_2.set (v5_2.toNat) v1_2) (w64 (v1_2 + 1)) (w64 (v5_2 + 1))
 else
  some (v1_2, v0_2)) := by kernel_rfl
theorem z2 (k : Nat) (v0_2 : (List Int)) (v1_2 v5_2 : Int) : l2 k 0 v0_2 v1_2 v5_2 = none := by kernel_rfl
theorem s (k : Nat) (p0 : (List Int)) (p1 : Int) : f k p0 p1 =
 (l2 k k p0 p1 0) := by kernel_rfl
theorem ok (k : Nat) : Ok Tryz.prog 23 (sem k) := Fd.ok (cx_ok trivial) ⟨Tryz.func23, rfl, by kernel_rfl⟩ rfl
attribute [irreducible] f l2
end laws_markIntS
/-! loop.example/wholecheck/laws.markTermSS -/
namespace laws_markTermSS
noncomputable def D : Fd := ⟨Tryz.f118, 1, I, .sh, [.loan (.ow (.ow (.ag (.pr .sh (.pr .sh (.pr .sh .sh)))))), .sh], h11, h12⟩
noncomputable def C (k : Nat) : Ctx := cx [(31, laws_markTermS.sem k)] [] [(2, [(0, none), (1, none), (5, none)])] [0] [] [] []
noncomputable def sem (k : Nat) : Sem := D.sem (D.ev (C k) k)
noncomputable def f (k : Nat) (p0 : y3) (p1 : Int) : Option (Int × y3) := D.ev (C k) k (p0, p1, ())
noncomputable def l2 (k : Nat) (n : Nat) (v0_2 : y3) (v1_2 v5_2 : Int) : Option (Int × y3) :=
 D.lp (C k) k 2 [1, 0, 1, 0] [] n [(5, vI v5_2), (1, vI v1_2), (0, vO h11 v0_2)]
theorem s2 (k : Nat) (n : Nat) (v0_2 : y3) (v1_2 v5_2 : Int) : l2 k (n + 1) v0_2 v1_2 v5_2 =
 (if (decide (v5_2 < ((v0_2.length : Int)))) = true then
  gd ((0 : Int) ≤ v5_2) <| gd (v5_2 < (v0_2.length : Int)) <| (laws_markTermS.f k (v0_2.getD (v5_2.toNat) []) v1_2).bind fun r1 =>
  l2 k n (v0_2.set (v5_2.toNat) r1.2) r1.1 (w64 (v5_2 + 1))
 else
  some (v1_2, v0_2)) := by kernel_rfl
theorem z2 (k : Nat) (v0_2 : y3) (v1_2 v5_2 : Int) : l2 k 0 v0_2 v1_2 v5_2 = none := by kernel_rfl
theorem s (k : Nat) (p0 : y3) (p1 : Int) : f k p0 p1 =
 (l2 k k p0 p1 0) := by kernel_rfl
theorem ok (k : Nat) : Ok Tryz.prog 118 (sem k) := Fd.ok (cx_ok ⟨laws_markTermS.ok k, trivial⟩) ⟨Tryz.func118, rfl, by kernel_rfl⟩ rfl
attribute [irreducible] f l2
end laws_markTermSS
/-! loop.example/wholecheck/laws.markRuleS -/
namespace laws_markRuleS
noncomputable def D : Fd := ⟨Tryz.f61, 1, I, .sh, [.loan (.ow (.ag (.pr (.ow (.ag (.pr .sh (.pr .sh (.pr .sh .sh))))) (.pr (.ow .sh) (.ow (.ow (.ag (.pr .sh (.pr .sh (.pr .sh .sh)))))))))), .sh], h17, h18⟩
noncomputable def C (k : Nat) : Ctx := cx [(31, laws_markTermS.sem k), (23, laws_markIntS.sem k), (118, laws_markTermSS.sem k)] [] [(2, [(0, none), (1, none), (5, none)])] [0] [] [] []
noncomputable def sem (k : Nat) : Sem := D.sem (D.ev (C k) k)
noncomputable def f (k : Nat) (p0 : y6) (p1 : Int) : Option (Int × y6) := D.ev (C k) k (p0, p1, ())
noncomputable def l2 (k : Nat) (n : Nat) (v0_2 : y6) (v1_2 v5_2 : Int) : Option (Int × y6) :=
 D.lp (C k) k 2 [1, 0, 1, 0] [] n [(5, vI v5_2), (1, vI v1_2), (0, vO h17 v0_2)]
theorem s2 (k : Nat) (n : Nat) (v0_2 : y6) (v1_2 v5_2 : Int) : l2 k (n + 1) v0_2 v1_2 v5_2 =
 (if (decide (v5_2 < ((v0_2.length : Int)))) = true then
  gd ((0 : Int) ≤ v5_2) <| gd (v5_2 < (v0_2.length : Int)) <| (laws_markTermS.f k (v0_2.getD (v5_2.toNat) ([], ([], []))).1 v1_2).bind fun r1 =>
  gd ((0 : Int) ≤ v5_2) <| gd (v5_2 < ((v0_2.set (v5_2.toNat) (r1.2, (v0_2.getD (v5_2.toNat) ([], ([], []))).2)).length : Int)) <| (laws_markIntS.f k ((v0_2.set (v5_2.toNat) (r1.2, (v0_2.getD (v5_2.toNat) ([], ([], []))).2)).getD (v5_2.toNat) ([], ([], []))).2.1 r1.1).bind fun r2 =>
  gd ((0 : Int) ≤ v5_2) <| gd (v5_2 < (((v0_2.set (v5_2.toNat) (r1.2, (v0_2.getD (v5_2.toNat) ([], ([], []))).2)).set (v5_2.toNat) (((v0_2.set (v5_2.toNat) (r1.2, (v0_2.getD (v5_2.toNat) ([], ([], []))).2)).getD (v5_2.toNat) ([], ([], []))).1, (r2.2, ((v0_2.set (v5_2.toNat) (r1.2, (v0_2.getD (v5_2.toNat) ([], ([], []))).2)).getD (v5_2.toNat) ([], ([], []))).2.2))).length : Int)) <| (laws_markTermSS.f k (((v0_2.set (v5_2.toNat) (r1.2, (v0_2.getD (v5_2.toNat) ([], ([], []))).2)).set (v5_2.toNat) (((v0_2.set (v5_2.toNat) (r1.2, (v0_2.getD (v5_2.toNat) ([], ([], []))).2)).getD (v5_2.toNat) ([], ([], []))).1, (r2.2, ((v0_2.set (v5_2.toNat) (r1.2, (v0_2.getD (v5_2.toNat) ([], ([], []))).2)).getD (v5_2.toNat) ([], ([], []))).2.2))).getD (v5_2.toNat) ([], ([], []))).2.2 r2.1).bind fun r3 =>
  l2 k n (((v0_2.set (v5_2.toNat) (r1.2, (v0_2.getD (v5_2.toNat) ([], ([], []))).2)).set (v5_2.toNat) (((v0_2.set (v5_2.toNat) (r1.2, (v0_2.getD (v5_2.toNat) ([], ([], []))).2)).getD (v5_2.toNat) ([], ([], []))).1, (r2.2, ((v0_2.set (v5_2.toNat) (r1.2, (v0_2.getD (v5_2.toNat) ([], ([], []))).2)).getD (v5_2.toNat) ([], ([], []))).2.2))).set (v5_2.toNat) ((((v0_2.set (v5_2.toNat) (r1.2, (v0_2.getD (v5_2.toNat) ([], ([], []))).2)).set (v5_2.toNat) (((v0_2.set (v5_2.toNat) (r1.2, (v0_2.getD (v5_2.toNat) ([], ([], []))).2)).getD (v5_2.toNat) ([], ([], []))).1, (r2.2, ((v0_2.set (v5_2.toNat) (r1.2, (v0_2.getD (v5_2.toNat) ([], ([], []))).2)).getD (v5_2.toNat) ([], ([], []))).2.2))).getD (v5_2.toNat) ([], ([], []))).1, ((((v0_2.set (v5_2.toNat) (r1.2, (v0_2.getD (v5_2.toNat) ([], ([], []))).2)).set (v5_2.toNat) (((v0_2.set (v5_2.toNat) (r1.2, (v0_2.getD (v5_2.toNat) ([], ([], []))).2)).getD (v5_2.toNat) ([], ([], []))).1, (r2.2, ((v0_2.set (v5_2.toNat) (r1.2, (v0_2.getD (v5_2.toNat) ([], ([], []))).2)).getD (v5_2.toNat) ([], ([], []))).2.2))).getD (v5_2.toNat) ([], ([], []))).2.1, r3.2))) r3.1 (w64 (v5_2 + 1))
 else
  some (v1_2, v0_2)) := by kernel_rfl
theorem z2 (k : Nat) (v0_2 : y6) (v1_2 v5_2 : Int) : l2 k 0 v0_2 v1_2 v5_2 = none := by kernel_rfl
theorem s (k : Nat) (p0 : y6) (p1 : Int) : f k p0 p1 =
 (l2 k k p0 p1 0) := by kernel_rfl
theorem ok (k : Nat) : Ok Tryz.prog 61 (sem k) := Fd.ok (cx_ok ⟨laws_markTermS.ok k, laws_markIntS.ok k, laws_markTermSS.ok k, trivial⟩) ⟨Tryz.func61, rfl, by kernel_rfl⟩ rfl
attribute [irreducible] f l2
end laws_markRuleS
/-! loop.example/wholecheck/laws.markSystem -/
namespace laws_markSystem
noncomputable def D : Fd := ⟨Tryz.f21, 1, I, .sh, [.loan (.ag (.pr (.ow (.ag (.pr .sh (.pr .sh .sh)))) (.ow (.ag (.pr (.ow (.ag (.pr .sh (.pr .sh (.pr .sh .sh))))) (.pr (.ow .sh) (.ow (.ow (.ag (.pr .sh (.pr .sh (.pr .sh .sh)))))))))))), .sh], h20, h21⟩
noncomputable def C (k : Nat) : Ctx := cx [(60, laws_markVarS.sem k), (61, laws_markRuleS.sem k)] [] [] [0] [] [] []
noncomputable def sem (k : Nat) : Sem := D.sem (D.ev (C k) k)
noncomputable def f (k : Nat) (p0 : y7) (p1 : Int) : Option (Int × y7) := D.ev (C k) k (p0, p1, ())
theorem s (k : Nat) (p0 : y7) (p1 : Int) : f k p0 p1 =
 ((laws_markVarS.f k p0.1 p1).bind fun r1 =>
 (laws_markRuleS.f k p0.2 r1.1).bind fun r2 =>
 some (r2.1, (r1.2, r2.2))) := by kernel_rfl
theorem ok (k : Nat) : Ok Tryz.prog 21 (sem k) := Fd.ok (cx_ok ⟨laws_markVarS.ok k, laws_markRuleS.ok k, trivial⟩) ⟨Tryz.func21, rfl, by kernel_rfl⟩ rfl
attribute [irreducible] f
end laws_markSystem
/-! loop.example/wholecheck/laws.markBlocks -/
namespace laws_markBlocks
noncomputable def D : Fd := ⟨Tryz.f22, 1, I, .sh, [.loan (.ag (.ow .sh)), .sh], h22, h23⟩
noncomputable def C (k : Nat) : Ctx := cx [(23, laws_markIntS.sem k)] [] [] [0] [] [] []
noncomputable def sem (k : Nat) : Sem := D.sem (D.ev (C k) k)
noncomputable def f (k : Nat) (p0 : (List Int)) (p1 : Int) : Option (Int × (List Int)) := D.ev (C k) k (p0, p1, ())
theorem s (k : Nat) (p0 : (List Int)) (p1 : Int) : f k p0 p1 =
 ((laws_markIntS.f k p0 p1).bind fun r1 =>
 some (r1.1, r1.2)) := by kernel_rfl
theorem ok (k : Nat) : Ok Tryz.prog 22 (sem k) := Fd.ok (cx_ok ⟨laws_markIntS.ok k, trivial⟩) ⟨Tryz.func22, rfl, by kernel_rfl⟩ rfl
attribute [irreducible] f
end laws_markBlocks
/-! loop.example/wholecheck/laws.heldIntS -/
namespace laws_heldIntS
noncomputable def D : Fd := ⟨Tryz.f44, 1, I, .sh, [.sh, .sh], .unit, h10⟩
noncomputable def C (k : Nat) : Ctx := cx [] [] [(2, [(0, none), (1, none), (5, none)])] [] [] [] []
noncomputable def sem (k : Nat) : Sem := D.sem (D.ev (C k) k)
noncomputable def f (k : Nat) (p0 : (List Int)) (p1 : Int) : Option (Int × Unit) := D.ev (C k) k (p0, p1, ())
noncomputable def l2 (k : Nat) (p0 : (List Int)) (n : Nat) (v1_2 v5_2 : Int) : Option (Int × Unit) :=
 D.lp (C k) k 2 [1, 0, 1, 0] [] n [(5, vI v5_2), (1, vI v1_2), (0, vS h9 p0)]
theorem s2 (k : Nat) (p0 : (List Int)) (n : Nat) (v1_2 v5_2 : Int) : l2 k p0 (n + 1) v1_2 v5_2 =
 (if (decide (v5_2 < ((p0.length : Int)))) = true then
  gd ((0 : Int) ≤ v5_2) <| gd (v5_2 < (p0.length : Int)) <| if ((p0.getD (v5_2.toNat) 0) != v1_2) = true then
   some ((-1), ())
  else
   l2 k p0 n (w64 (v1_2 + 1)) (w64 (v5_2 + 1))
 else
  some (v1_2, ())) := by kernel_rfl
theorem z2 (k : Nat) (p0 : (List Int)) (v1_2 v5_2 : Int) : l2 k p0 0 v1_2 v5_2 = none := by kernel_rfl
theorem s (k : Nat) (p0 : (List Int)) (p1 : Int) : f k p0 p1 =
 (l2 k p0 k p1 0) := by kernel_rfl
theorem ok (k : Nat) : Ok Tryz.prog 44 (sem k) := Fd.ok (cx_ok trivial) ⟨Tryz.func44, rfl, by kernel_rfl⟩ rfl
attribute [irreducible] f l2
end laws_heldIntS
/-! loop.example/wholecheck/laws.heldBlocks -/
namespace laws_heldBlocks
noncomputable def D : Fd := ⟨Tryz.f32, 1, I, .sh, [.sh, .sh], .unit, h23⟩
noncomputable def C (k : Nat) : Ctx := cx [(44, laws_heldIntS.sem k)] [] [] [] [] [] []
noncomputable def sem (k : Nat) : Sem := D.sem (D.ev (C k) k)
noncomputable def f (k : Nat) (p0 : (List Int)) (p1 : Int) : Option (Int × Unit) := D.ev (C k) k (p0, p1, ())
theorem s (k : Nat) (p0 : (List Int)) (p1 : Int) : f k p0 p1 =
 ((laws_heldIntS.f k p0 p1).bind fun r1 =>
 if (decide (r1.1 < 0)) = true then
  some ((-1), ())
 else
  some (r1.1, ())) := by kernel_rfl
theorem ok (k : Nat) : Ok Tryz.prog 32 (sem k) := Fd.ok (cx_ok ⟨laws_heldIntS.ok k, trivial⟩) ⟨Tryz.func32, rfl, by kernel_rfl⟩ rfl
attribute [irreducible] f
end laws_heldBlocks
/-! loop.example/wholecheck/laws.FnExactSplitFor -/
namespace laws_FnExactSplitFor
noncomputable def D : Fd := ⟨Tryz.f4, 1, .bool, .sh, [.sh, .sh, .sh, .sh], .unit, h47⟩
noncomputable def C (k : Nat) : Ctx := cx [(10, laws_szSystem.sem k), (11, laws_szBlocks.sem k), (26, laws_szTermS.sem k), (13, laws_toSystem.sem k), (14, laws_toBlocks.sem k), (15, laws_toIntS.sem k), (28, laws_toTermS.sem k), (27, spec_SplitFor.sem k), (29, impl_SplitFor.sem k), (19, laws_eqBlocks.sem k), (18, laws_eqSystem.sem k), (20, laws_eqIntS.sem k), (30, laws_eqTermS.sem k), (21, laws_markSystem.sem k), (22, laws_markBlocks.sem k), (23, laws_markIntS.sem k), (31, laws_markTermS.sem k), (32, laws_heldBlocks.sem k)] [] [] [] [(13, [0, 2, 4, 6, 1, 3, 5, 7, 8, 9, 10, 11, 12, 13, 14]), (21, [0, 1, 2, 3, 4]), (23, [0, 1, 2, 3, 4]), (44, [0, 2, 4, 6, 1, 3, 5, 7, 8, 9, 10, 11, 12, 13, 14])] [((13, 1), [5]), ((21, 2), [12]), ((23, 2), [13]), ((44, 1), [5])] []
noncomputable def sem (k : Nat) : Sem := D.sem (D.ev (C k) k)
noncomputable def f (k : Nat) (p0 : y7) (p1 p2 : (List Int)) (p3 : y2) : Option (Bool × Unit) := D.ev (C k) k (p0, p1, p2, p3, ())
theorem s (k : Nat) (p0 : y7) (p1 p2 : (List Int)) (p3 : y2) : f k p0 p1 p2 p3 =
 (if (decide (((p2.length : Int)) > 1048576)) = true then
  some (true, ())
 else
  (laws_szSystem.f k p0 1048576).bind fun r1 =>
  if (decide (r1.1 < 0)) = true then
   some (true, ())
  else
   (laws_szBlocks.f k p1 r1.1).bind fun r2 =>
   if (decide (r2.1 < 0)) = true then
    some (true, ())
   else
    (laws_szTermS.f k p3 r2.1).bind fun r3 =>
    if (decide (r3.1 < 0)) = true then
     some (true, ())
    else
     (laws_toSystem.f k p0).bind fun r4 =>
     (laws_toBlocks.f k p1).bind fun r5 =>
     (laws_toIntS.f k p2).bind fun r6 =>
     (laws_toTermS.f k p3).bind fun r7 =>
     (spec_SplitFor.f k r4.1 r5.1 r6.1 r7.1).bind fun r8 =>
     (laws_toSystem.f k p0).bind fun r9 =>
     (laws_toBlocks.f k p1).bind fun r10 =>
     (laws_toIntS.f k p2).bind fun r11 =>
     (laws_toTermS.f k p3).bind fun r12 =>
     (impl_SplitFor.f k r9.1 r10.1 r11.1 r12.1).bind fun r13 =>
     (laws_eqBlocks.f k r13.1.1 r8.1.1).bind fun r14 =>
     if (!r14.1) = true then
      some (false, ())
     else
      if (r13.1.2 != r8.1.2) = true then
       some (false, ())
      else
       (laws_toSystem.f k p0).bind fun r15 =>
       (laws_eqSystem.f k r9.1 r15.1).bind fun r16 =>
       if (!r16.1) = true then
        some (false, ())
       else
        (laws_toBlocks.f k p1).bind fun r17 =>
        (laws_eqBlocks.f k r10.1 r17.1).bind fun r18 =>
        if (!r18.1) = true then
         some (false, ())
        else
         (laws_toIntS.f k p2).bind fun r19 =>
         (laws_eqIntS.f k r11.1 r19.1).bind fun r20 =>
         if (!r20.1) = true then
          some (false, ())
         else
          (laws_toTermS.f k p3).bind fun r21 =>
          (laws_eqTermS.f k r12.1 r21.1).bind fun r22 =>
          if (!r22.1) = true then
           some (false, ())
          else
           (laws_markSystem.f k r9.1 1).bind fun r23 =>
           (laws_markBlocks.f k r10.1 r23.1).bind fun r24 =>
           (laws_markIntS.f k r11.1 r24.1).bind fun r25 =>
           (laws_markTermS.f k r12.1 r25.1).bind fun r26 =>
           if (decide (r26.1 < 0)) = true then
            some (false, ())
           else
            (laws_eqBlocks.f k r13.1.1 r8.1.1).bind fun r27 =>
            if (!r27.1) = true then
             some (false, ())
            else
             if (r13.1.2 != r8.1.2) = true then
              some (false, ())
             else
              (laws_markBlocks.f k r13.1.1 1).bind fun r28 =>
              (laws_heldBlocks.f k r28.2 1).bind fun r29 =>
              if (decide (r29.1 < 0)) = true then
               some (false, ())
              else
               if (r29.1 != r28.1) = true then
                some (false, ())
               else
                (laws_toSystem.f k p0).bind fun r30 =>
                (laws_toBlocks.f k p1).bind fun r31 =>
                (laws_toIntS.f k p2).bind fun r32 =>
                (laws_toTermS.f k p3).bind fun r33 =>
                (impl_SplitFor.f k r30.1 r31.1 r32.1 r33.1).bind fun r34 =>
                (laws_eqBlocks.f k r34.1.1 r8.1.1).bind fun r35 =>
                if (!r35.1) = true then
                 some (false, ())
                else
                 if (r34.1.2 != r8.1.2) = true then
                  some (false, ())
                 else
                  (laws_heldBlocks.f k r28.2 1).bind fun r36 =>
                  if (decide (r36.1 < 0)) = true then
                   some (false, ())
                  else
                   if (r36.1 != r28.1) = true then
                    some (false, ())
                   else
                    some (true, ())) := by kernel_rfl
theorem ok (k : Nat) : Ok Tryz.prog 4 (sem k) := Fd.ok (cx_ok ⟨laws_szSystem.ok k, laws_szBlocks.ok k, laws_szTermS.ok k, laws_toSystem.ok k, laws_toBlocks.ok k, laws_toIntS.ok k, laws_toTermS.ok k, spec_SplitFor.ok k, impl_SplitFor.ok k, laws_eqBlocks.ok k, laws_eqSystem.ok k, laws_eqIntS.ok k, laws_eqTermS.ok k, laws_markSystem.ok k, laws_markBlocks.ok k, laws_markIntS.ok k, laws_markTermS.ok k, laws_heldBlocks.ok k, trivial⟩) ⟨Tryz.func4, rfl, by kernel_rfl⟩ rfl
attribute [irreducible] f
end laws_FnExactSplitFor
end Go.Ev
