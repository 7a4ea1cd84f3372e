/- What the functions of the program compute, as plain functions, with the proof that they do. -/
import Derived.Test.YtphlehimeekgoaaGreatEv4
import Derived.Test.YtphlehimeekgoaaGreatGiv
import Derived.Test.YtphlehimeekgoaaGreatProg
import Derived.KernelRfl
set_option maxRecDepth 100000
set_option linter.unusedVariables false
set_option autoImplicit false
noncomputable section
namespace Go.Ev
open Go.Proofs
abbrev y0 : Type := List (Int × (Int × Int))
abbrev h0 : S := .pair I (.pair I I)
abbrev h1 : S := .agg h0
abbrev h2 : S := .slice false h1
abbrev h3 : S := .pair I .unit
abbrev h4 : S := .pair h2 h3
abbrev y1 : Type := Int × (Int × (Int × Int))
abbrev y2 : Type := List y1
abbrev h5 : S := .pair I h0
abbrev h6 : S := .agg h5
abbrev h7 : S := .slice false h6
abbrev h8 : S := .pair h7 h3
abbrev h9 : S := .slice false I
abbrev h10 : S := .pair h9 h3
abbrev y3 : Type := List y2
abbrev h11 : S := .slice false h7
abbrev h12 : S := .pair h11 h3
abbrev y4 : Type := (List Int) × y3
abbrev y5 : Type := y2 × y4
abbrev h13 : S := .pair h9 h11
abbrev h14 : S := .pair h7 h13
abbrev h15 : S := .agg h14
abbrev h16 : S := .pair h15 h3
abbrev y6 : Type := List y5
abbrev h17 : S := .slice false h15
abbrev h18 : S := .pair h17 h3
abbrev y7 : Type := y0 × y6
abbrev h19 : S := .pair h2 h17
abbrev h20 : S := .agg h19
abbrev h21 : S := .pair h20 h3
abbrev h22 : S := .agg h9
abbrev h23 : S := .pair h22 h3
abbrev h24 : S := .pair h1 .unit
abbrev h25 : S := .pair h2 .unit
abbrev h26 : S := .pair h6 .unit
abbrev h27 : S := .pair h7 .unit
abbrev h28 : S := .pair h9 .unit
abbrev h29 : S := .pair h11 .unit
abbrev h30 : S := .pair h15 .unit
abbrev h31 : S := .pair h17 .unit
abbrev h32 : S := .pair h20 .unit
abbrev h33 : S := .pair h22 .unit
abbrev h34 : S := .pair I h3
abbrev h35 : S := .pair I h34
abbrev h36 : S := .pair h6 h10
abbrev h37 : S := .ptr h6
abbrev h38 : S := .pair h7 h34
abbrev h39 : S := .ptr h15
abbrev h40 : S := .ptr h20
abbrev h41 : S := .pair h20 h33
abbrev h42 : S := .ptr h22
abbrev h43 : S := .pair .bool .unit
abbrev h44 : S := .pair h7 h28
abbrev h45 : S := .pair h20 h27
abbrev h46 : S := .slice false .bool
abbrev h47 : S := .pair h20 h28
abbrev h48 : S := .pair h20 h10
abbrev h49 : S := .pair h9 h28
abbrev h50 : S := .slice false h9
abbrev h51 : S := .pair h50 h28
abbrev h52 : S := .pair h46 .unit
abbrev h53 : S := .pair h50 h52
abbrev h54 : S := .pair h9 h52
abbrev h55 : S := .pair h50 h10
abbrev h56 : S := .pair h9 .bool
abbrev h57 : S := .pair h22 h27
abbrev h58 : S := .pair h20 h57
abbrev y8 : Type := (Int × (Int × Int)) → Option Bool
abbrev h59 : S := .func h1 .bool
abbrev h60 : S := .pair h59 .unit
abbrev h61 : S := .pair h2 h60
abbrev h62 : S := .slice true I
abbrev h63 : S := .pair h40 .unit
abbrev h64 : S := .pair h15 h63
abbrev y9 : Type := y5 → Option Bool
abbrev h65 : S := .func h15 .bool
abbrev h66 : S := .pair h65 .unit
abbrev h67 : S := .pair h17 h66
abbrev h68 : S := .pair h46 .bool
abbrev y10 : Type := (List Int) × ((List Int) × Unit)
abbrev y11 : Type := y10 → Option Int
abbrev h69 : S := .pair I .bool
abbrev h70 : S := .func h49 I
abbrev h71 : S := .pair h70 .unit
abbrev h72 : S := .pair h9 h71
abbrev h73 : S := .pair h50 h72
abbrev h74 : S := .pair h50 .unit
abbrev h75 : S := .pair h50 h3
abbrev h76 : S := .ptr h9
abbrev h77 : S := .pair (.ptr I) .unit
abbrev h78 : S := .pair h76 h77
abbrev h79 : S := .pair I h78
abbrev h80 : S := .func I .bool
abbrev h81 : S := .pair h80 .unit
abbrev h82 : S := .pair h9 h81
abbrev h83 : S := .pair h22 h52
abbrev h84 : S := .pair h20 h83
abbrev h85 : S := .pair h1 h24
abbrev h86 : S := .pair h2 h25
abbrev h87 : S := .pair h6 h26
abbrev h88 : S := .pair h7 h27
abbrev h89 : S := .pair h11 h29
abbrev h90 : S := .pair h15 h30
abbrev h91 : S := .pair h17 h31
abbrev h92 : S := .pair h20 h32
abbrev h93 : S := .pair h22 h33
noncomputable def tys : List (Nat × S) := [(3, I), (4, .bool), (22, h2), (23, h17), (25, h20), (26, h9), (28, h22), (31, h50), (33, h2), (34, h17), (36, h20), (38, h22), (50, h7), (54, h7), (88, h6), (90, h6), (91, h46), (115, h11), (117, h15), (124, h1), (126, h1), (127, h11), (129, h15), (133, h80), (158, h59), (161, h65), (171, (.int .u64)), (181, h70)]
theorem tys_ok : tysB Tryz.prog tys = true := by kernel_rfl
theorem mix : Tryz.prog.follows .mixedOrders = true := by kernel_rfl
abbrev HD : Type := List (Nat × List (Nat × Option (S × M)))
noncomputable def cx (e : List (Nat × Sem)) (h : List ((Nat × Nat) × Nat)) (d : HD) (x : List Nat) (o : List (Nat × List Nat)) (i : List ((Nat × Nat) × List Nat)) (j : HD) : Ctx := mkC tys e (hintOf h) (headOf d) x (ordOf o) (hidOf i) (jnOf j)
theorem cx_ok {e : List (Nat × Sem)} {h : List ((Nat × Nat) × Nat)} {d : HD} {x : List Nat} {o : List (Nat × List Nat)} {i : List ((Nat × Nat) × List Nat)} {j : HD} (w : EnvOk Tryz.prog e) : CtxOk Tryz.prog (cx e h d x o i j) := mkC_ok tys_ok w mix
/-! loop.example/wholecheck/laws.szVarS -/
namespace laws_szVarS
noncomputable def D : Fd := ⟨Tryz.f47, 1, I, .sh, [.sh, .sh], .unit, h4⟩
noncomputable def C (k : Nat) : Ctx := cx [] [] [] [] [] [] []
noncomputable def sem (k : Nat) : Sem := D.sem (D.ev (C k) k)
noncomputable def f (k : Nat) (p0 : y0) (p1 : Int) : Option (Int × Unit) := D.ev (C k) k (p0, p1, ())
theorem s (k : Nat) (p0 : y0) (p1 : Int) : f k p0 p1 =
 (if (decide ((w64 (p1 - ((p0.length : Int)))) < 0)) = true then
  some ((-1), ())
 else
  some (w64 (p1 - ((p0.length : Int))), ())) := by kernel_rfl
theorem ok (k : Nat) : Ok Tryz.prog 47 (sem k) := Fd.ok (cx_ok trivial) ⟨Tryz.func47, rfl, by kernel_rfl⟩ rfl
attribute [irreducible] f
end laws_szVarS
/-! loop.example/wholecheck/laws.szTermS -/
namespace laws_szTermS
noncomputable def D : Fd := ⟨Tryz.f26, 1, I, .sh, [.sh, .sh], .unit, h8⟩
noncomputable def C (k : Nat) : Ctx := cx [] [] [] [] [] [] []
noncomputable def sem (k : Nat) : Sem := D.sem (D.ev (C k) k)
noncomputable def f (k : Nat) (p0 : y2) (p1 : Int) : Option (Int × Unit) := D.ev (C k) k (p0, p1, ())
theorem s (k : Nat) (p0 : y2) (p1 : Int) : f k p0 p1 =
 (if (decide ((w64 (p1 - ((p0.length : Int)))) < 0)) = true then
  some ((-1), ())
 else
  some (w64 (p1 - ((p0.length : Int))), ())) := by kernel_rfl
theorem ok (k : Nat) : Ok Tryz.prog 26 (sem k) := Fd.ok (cx_ok trivial) ⟨Tryz.func26, rfl, by kernel_rfl⟩ rfl
attribute [irreducible] f
end laws_szTermS
/-! loop.example/wholecheck/laws.szIntS -/
namespace laws_szIntS
noncomputable def D : Fd := ⟨Tryz.f49, 1, I, .sh, [.sh, .sh], .unit, h10⟩
noncomputable def C (k : Nat) : Ctx := cx [] [] [] [] [] [] []
noncomputable def sem (k : Nat) : Sem := D.sem (D.ev (C k) k)
noncomputable def f (k : Nat) (p0 : (List Int)) (p1 : Int) : Option (Int × Unit) := D.ev (C k) k (p0, p1, ())
theorem s (k : Nat) (p0 : (List Int)) (p1 : Int) : f k p0 p1 =
 (if (decide ((w64 (p1 - ((p0.length : Int)))) < 0)) = true then
  some ((-1), ())
 else
  some (w64 (p1 - ((p0.length : Int))), ())) := by kernel_rfl
theorem ok (k : Nat) : Ok Tryz.prog 49 (sem k) := Fd.ok (cx_ok trivial) ⟨Tryz.func49, rfl, by kernel_rfl⟩ rfl
attribute [irreducible] f
end laws_szIntS
/-! loop.example/wholecheck/laws.szTermSS -/
namespace laws_szTermSS
noncomputable def D : Fd := ⟨Tryz.f149, 1, I, .sh, [.sh, .sh], .unit, h12⟩
noncomputable def C (k : Nat) : Ctx := cx [(26, laws_szTermS.sem k)] [] [(5, [(0, none), (1, none), (5, none)])] [] [] [] []
noncomputable def sem (k : Nat) : Sem := D.sem (D.ev (C k) k)
noncomputable def f (k : Nat) (p0 : y3) (p1 : Int) : Option (Int × Unit) := D.ev (C k) k (p0, p1, ())
noncomputable def l5 (k : Nat) (p0 : y3) (n : Nat) (v1_5 v5_5 : Int) : Option (Int × Unit) :=
 D.lp (C k) k 5 [1, 1, 1, 0, 1, 0] [] n [(5, vI v5_5), (1, vI v1_5), (0, vS h11 p0)]
theorem s5 (k : Nat) (p0 : y3) (n : Nat) (v1_5 v5_5 : Int) : l5 k p0 (n + 1) v1_5 v5_5 =
 (if (decide (v5_5 < ((p0.length : Int)))) = true then
  gd ((0 : Int) ≤ v5_5) <| gd (v5_5 < (p0.length : Int)) <| (laws_szTermS.f k (p0.getD (v5_5.toNat) []) v1_5).bind fun r1 =>
  if (decide (r1.1 < 0)) = true then
   some ((-1), ())
  else
   l5 k p0 n r1.1 (w64 (v5_5 + 1))
 else
  some (v1_5, ())) := by kernel_rfl
theorem z5 (k : Nat) (p0 : y3) (v1_5 v5_5 : Int) : l5 k p0 0 v1_5 v5_5 = none := by kernel_rfl
theorem s (k : Nat) (p0 : y3) (p1 : Int) : f k p0 p1 =
 (if (decide ((w64 (p1 - ((p0.length : Int)))) < 0)) = true then
  some ((-1), ())
 else
  l5 k p0 k (w64 (p1 - ((p0.length : Int)))) 0) := by kernel_rfl
theorem ok (k : Nat) : Ok Tryz.prog 149 (sem k) := Fd.ok (cx_ok ⟨laws_szTermS.ok k, trivial⟩) ⟨Tryz.func149, rfl, by kernel_rfl⟩ rfl
attribute [irreducible] f l5
end laws_szTermSS
/-! loop.example/wholecheck/laws.szRule -/
namespace laws_szRule
noncomputable def D : Fd := ⟨Tryz.f95, 1, I, .sh, [.sh, .sh], .unit, h16⟩
noncomputable def C (k : Nat) : Ctx := cx [(26, laws_szTermS.sem k), (49, laws_szIntS.sem k), (149, laws_szTermSS.sem k)] [] [] [] [] [] []
noncomputable def sem (k : Nat) : Sem := D.sem (D.ev (C k) k)
noncomputable def f (k : Nat) (p0 : y5) (p1 : Int) : Option (Int × Unit) := D.ev (C k) k (p0, p1, ())
theorem s (k : Nat) (p0 : y5) (p1 : Int) : f k p0 p1 =
 ((laws_szTermS.f k p0.1 p1).bind fun r1 =>
 if (decide (r1.1 < 0)) = true then
  some ((-1), ())
 else
  (laws_szIntS.f k p0.2.1 r1.1).bind fun r2 =>
  if (decide (r2.1 < 0)) = true then
   some ((-1), ())
  else
   (laws_szTermSS.f k p0.2.2 r2.1).bind fun r3 =>
   if (decide (r3.1 < 0)) = true then
    some ((-1), ())
   else
    some (r3.1, ())) := by kernel_rfl
theorem ok (k : Nat) : Ok Tryz.prog 95 (sem k) := Fd.ok (cx_ok ⟨laws_szTermS.ok k, laws_szIntS.ok k, laws_szTermSS.ok k, trivial⟩) ⟨Tryz.func95, rfl, by kernel_rfl⟩ rfl
attribute [irreducible] f
end laws_szRule
/-! loop.example/wholecheck/laws.szRuleS -/
namespace laws_szRuleS
noncomputable def D : Fd := ⟨Tryz.f48, 1, I, .sh, [.sh, .sh], .unit, h18⟩
noncomputable def C (k : Nat) : Ctx := cx [(95, laws_szRule.sem k)] [] [(5, [(0, none), (1, none), (5, none)])] [] [] [] []
noncomputable def sem (k : Nat) : Sem := D.sem (D.ev (C k) k)
noncomputable def f (k : Nat) (p0 : y6) (p1 : Int) : Option (Int × Unit) := D.ev (C k) k (p0, p1, ())
noncomputable def l5 (k : Nat) (p0 : y6) (n : Nat) (v1_5 v5_5 : Int) : Option (Int × Unit) :=
 D.lp (C k) k 5 [1, 1, 1, 0, 1, 0] [] n [(5, vI v5_5), (1, vI v1_5), (0, vS h17 p0)]
theorem s5 (k : Nat) (p0 : y6) (n : Nat) (v1_5 v5_5 : Int) : l5 k p0 (n + 1) v1_5 v5_5 =
 (if (decide (v5_5 < ((p0.length : Int)))) = true then
  gd ((0 : Int) ≤ v5_5) <| gd (v5_5 < (p0.length : Int)) <| (laws_szRule.f k (p0.getD (v5_5.toNat) ([], ([], []))) v1_5).bind fun r1 =>
  if (decide (r1.1 < 0)) = true then
   some ((-1), ())
  else
   l5 k p0 n r1.1 (w64 (v5_5 + 1))
 else
  some (v1_5, ())) := by kernel_rfl
theorem z5 (k : Nat) (p0 : y6) (v1_5 v5_5 : Int) : l5 k p0 0 v1_5 v5_5 = none := by kernel_rfl
theorem s (k : Nat) (p0 : y6) (p1 : Int) : f k p0 p1 =
 (if (decide ((w64 (p1 - ((p0.length : Int)))) < 0)) = true then
  some ((-1), ())
 else
  l5 k p0 k (w64 (p1 - ((p0.length : Int)))) 0) := by kernel_rfl
theorem ok (k : Nat) : Ok Tryz.prog 48 (sem k) := Fd.ok (cx_ok ⟨laws_szRule.ok k, trivial⟩) ⟨Tryz.func48, rfl, by kernel_rfl⟩ rfl
attribute [irreducible] f l5
end laws_szRuleS
/-! loop.example/wholecheck/laws.szSystem -/
namespace laws_szSystem
noncomputable def D : Fd := ⟨Tryz.f10, 1, I, .sh, [.sh, .sh], .unit, h21⟩
noncomputable def C (k : Nat) : Ctx := cx [(47, laws_szVarS.sem k), (48, laws_szRuleS.sem k)] [] [] [] [] [] []
noncomputable def sem (k : Nat) : Sem := D.sem (D.ev (C k) k)
noncomputable def f (k : Nat) (p0 : y7) (p1 : Int) : Option (Int × Unit) := D.ev (C k) k (p0, p1, ())
theorem s (k : Nat) (p0 : y7) (p1 : Int) : f k p0 p1 =
 ((laws_szVarS.f k p0.1 p1).bind fun r1 =>
 if (decide (r1.1 < 0)) = true then
  some ((-1), ())
 else
  (laws_szRuleS.f k p0.2 r1.1).bind fun r2 =>
  if (decide (r2.1 < 0)) = true then
   some ((-1), ())
  else
   some (r2.1, ())) := by kernel_rfl
theorem ok (k : Nat) : Ok Tryz.prog 10 (sem k) := Fd.ok (cx_ok ⟨laws_szVarS.ok k, laws_szRuleS.ok k, trivial⟩) ⟨Tryz.func10, rfl, by kernel_rfl⟩ rfl
attribute [irreducible] f
end laws_szSystem
/-! loop.example/wholecheck/laws.szBlocks -/
namespace laws_szBlocks
noncomputable def D : Fd := ⟨Tryz.f11, 1, I, .sh, [.sh, .sh], .unit, h23⟩
noncomputable def C (k : Nat) : Ctx := cx [(49, laws_szIntS.sem k)] [] [] [] [] [] []
noncomputable def sem (k : Nat) : Sem := D.sem (D.ev (C k) k)
noncomputable def f (k : Nat) (p0 : (List Int)) (p1 : Int) : Option (Int × Unit) := D.ev (C k) k (p0, p1, ())
theorem s (k : Nat) (p0 : (List Int)) (p1 : Int) : f k p0 p1 =
 ((laws_szIntS.f k p0 p1).bind fun r1 =>
 if (decide (r1.1 < 0)) = true then
  some ((-1), ())
 else
  some (r1.1, ())) := by kernel_rfl
theorem ok (k : Nat) : Ok Tryz.prog 11 (sem k) := Fd.ok (cx_ok ⟨laws_szIntS.ok k, trivial⟩) ⟨Tryz.func11, rfl, by kernel_rfl⟩ rfl
attribute [irreducible] f
end laws_szBlocks
/-! loop.example/wholecheck/laws.toVar -/
namespace laws_toVar
noncomputable def D : Fd := ⟨Tryz.f103, 1, h1, .sh, [.sh], .unit, h24⟩
noncomputable def C (k : Nat) : Ctx := cx [] [] [] [] [] [] []
noncomputable def sem (k : Nat) : Sem := D.sem (D.ev (C k) k)
noncomputable def f (k : Nat) (p0 : (Int × (Int × Int))) : Option ((Int × (Int × Int)) × Unit) := D.ev (C k) k (p0, ())
theorem s (k : Nat) (p0 : (Int × (Int × Int))) : f k p0 =
 (some (p0, ())) := by kernel_rfl
theorem ok (k : Nat) : Ok Tryz.prog 103 (sem k) := Fd.ok (cx_ok trivial) ⟨Tryz.func103, rfl, by kernel_rfl⟩ rfl
attribute [irreducible] f
end laws_toVar
/-! loop.example/wholecheck/laws.toVarS -/
namespace laws_toVarS
noncomputable def D : Fd := ⟨Tryz.f53, 1, h2, (.ow (.ag (.pr .sh (.pr .sh .sh)))), [.sh], .unit, h25⟩
noncomputable def C (k : Nat) : Ctx := cx [(103, laws_toVar.sem k)] [] [(3, [(0, none), (3, some (h2, (.ow (.ag (.pr .sh (.pr .sh .sh)))))), (4, none)])] [] [] [] []
noncomputable def sem (k : Nat) : Sem := D.sem (D.ev (C k) k)
noncomputable def f (k : Nat) (p0 : y0) : Option (y0 × Unit) := D.ev (C k) k (p0, ())
noncomputable def l3 (k : Nat) (p0 : y0) (n : Nat) (v3_3 : y0) (v4_3 : Int) : Option (y0 × Unit) :=
 D.lp (C k) k 3 [1, 1, 0, 1, 0] [] n [(4, vI v4_3), (3, vO h2 v3_3), (0, vS h2 p0)]
theorem s3 (k : Nat) (p0 : y0) (n : Nat) (v3_3 : y0) (v4_3 : Int) : l3 k p0 (n + 1) v3_3 v4_3 =
 (if (decide (v4_3 < ((p0.length : Int)))) = true then
  gd ((0 : Int) ≤ v4_3) <| gd (v4_3 < (p0.length : Int)) <| (laws_toVar.f k (p0.getD (v4_3.toNat) (0, (0, 0)))).bind fun r1 =>
  gd ((0 : Int) ≤ v4_3) <| gd (v4_3 < (v3_3.length : Int)) <| l3 k p0 n (v3_3.set (v4_3.toNat) r1.1) (w64 (v4_3 + 1))
 else
  some (v3_3, ())) := by kernel_rfl
theorem z3 (k : Nat) (p0 : y0) (v3_3 : y0) (v4_3 : Int) : l3 k p0 0 v3_3 v4_3 = none := by kernel_rfl
theorem s (k : Nat) (p0 : y0) : f k p0 =
 (gd ((0 : Int) ≤ ((p0.length : Int))) <| gd ((((p0.length : Int)) : Int) ≤ 1099511627776) <| l3 k p0 k ((List.replicate ((p0.length : Int)).toNat (0, (0, 0)) : (List (Int × (Int × Int))))) 0) := by kernel_rfl
theorem ok (k : Nat) : Ok Tryz.prog 53 (sem k) := Fd.ok (cx_ok ⟨laws_toVar.ok k, trivial⟩) ⟨Tryz.func53, rfl, by kernel_rfl⟩ rfl
attribute [irreducible] f l3
end laws_toVarS
/-! loop.example/wholecheck/laws.toTerm -/
namespace laws_toTerm
noncomputable def D : Fd := ⟨Tryz.f66, 1, h6, .sh, [.sh], .unit, h26⟩
noncomputable def C (k : Nat) : Ctx := cx [] [] [] [] [] [] []
noncomputable def sem (k : Nat) : Sem := D.sem (D.ev (C k) k)
noncomputable def f (k : Nat) (p0 : y1) : Option (y1 × Unit) := D.ev (C k) k (p0, ())
theorem s (k : Nat) (p0 : y1) : f k p0 =
 (some (p0, ())) := by kernel_rfl
theorem ok (k : Nat) : Ok Tryz.prog 66 (sem k) := Fd.ok (cx_ok trivial) ⟨Tryz.func66, rfl, by kernel_rfl⟩ rfl
attribute [irreducible] f
end laws_toTerm
/-! loop.example/wholecheck/laws.toTermS -/
namespace laws_toTermS
noncomputable def D : Fd := ⟨Tryz.f28, 1, h7, (.ow (.ag (.pr .sh (.pr .sh (.pr .sh .sh))))), [.sh], .unit, h27⟩
noncomputable def C (k : Nat) : Ctx := cx [(66, laws_toTerm.sem k)] [] [(3, [(0, none), (3, some (h7, (.ow (.ag (.pr .sh (.pr .sh (.pr .sh .sh))))))), (4, none)])] [] [] [] []
noncomputable def sem (k : Nat) : Sem := D.sem (D.ev (C k) k)
noncomputable def f (k : Nat) (p0 : y2) : Option (y2 × Unit) := D.ev (C k) k (p0, ())
noncomputable def l3 (k : Nat) (p0 : y2) (n : Nat) (v3_3 : y2) (v4_3 : Int) : Option (y2 × Unit) :=
 D.lp (C k) k 3 [1, 1, 0, 1, 0] [] n [(4, vI v4_3), (3, vO h7 v3_3), (0, vS h7 p0)]
theorem s3 (k : Nat) (p0 : y2) (n : Nat) (v3_3 : y2) (v4_3 : Int) : l3 k p0 (n + 1) v3_3 v4_3 =
 (if (decide (v4_3 < ((p0.length : Int)))) = true then
  gd ((0 : Int) ≤ v4_3) <| gd (v4_3 < (p0.length : Int)) <| (laws_toTerm.f k (p0.getD (v4_3.toNat) (0, (0, (0, 0))))).bind fun r1 =>
  gd ((0 : Int) ≤ v4_3) <| gd (v4_3 < (v3_3.length : Int)) <| l3 k p0 n (v3_3.set (v4_3.toNat) r1.1) (w64 (v4_3 + 1))
 else
  some (v3_3, ())) := by kernel_rfl
theorem z3 (k : Nat) (p0 : y2) (v3_3 : y2) (v4_3 : Int) : l3 k p0 0 v3_3 v4_3 = none := by kernel_rfl
theorem s (k : Nat) (p0 : y2) : f k p0 =
 (gd ((0 : Int) ≤ ((p0.length : Int))) <| gd ((((p0.length : Int)) : Int) ≤ 1099511627776) <| l3 k p0 k ((List.replicate ((p0.length : Int)).toNat (0, (0, (0, 0))) : (List (Int × (Int × (Int × Int)))))) 0) := by kernel_rfl
theorem ok (k : Nat) : Ok Tryz.prog 28 (sem k) := Fd.ok (cx_ok ⟨laws_toTerm.ok k, trivial⟩) ⟨Tryz.func28, rfl, by kernel_rfl⟩ rfl
attribute [irreducible] f l3
end laws_toTermS
/-! loop.example/wholecheck/laws.toIntS -/
namespace laws_toIntS
noncomputable def D : Fd := ⟨Tryz.f15, 1, h9, (.ow .sh), [.sh], .unit, h28⟩
noncomputable def C (k : Nat) : Ctx := cx [] [] [(3, [(0, none), (3, none), (4, none)])] [] [] [] []
noncomputable def sem (k : Nat) : Sem := D.sem (D.ev (C k) k)
noncomputable def f (k : Nat) (p0 : (List Int)) : Option ((List Int) × Unit) := D.ev (C k) k (p0, ())
noncomputable def l3 (k : Nat) (p0 : (List Int)) (n : Nat) (v3_3 : (List Int)) (v4_3 : Int) : Option ((List Int) × Unit) :=
 D.lp (C k) k 3 [1, 1, 0, 1, 0] [] n [(4, vI v4_3), (3, vO h9 v3_3), (0, vS h9 p0)]
theorem s3 (k : Nat) (p0 : (List Int)) (n : Nat) (v3_3 : (List Int)) (v4_3 : Int) : l3 k p0 (n + 1) v3_3 v4_3 =
 (if (decide (v4_3 < ((p0.length : Int)))) = true then
  gd ((0 : Int) ≤ v4_3) <| gd (v4_3 < (p0.length : Int)) <| gd ((0 : Int) ≤ v4_3) <| gd (v4_3 < (v3_3.length : Int)) <| l3 k p0 n (v3_3.set (v4_3.toNat) (p0.getD (v4_3.toNat) 0)) (w64 (v4_3 + 1))
 else
  some (v3_3, ())) := by kernel_rfl
theorem z3 (k : Nat) (p0 : (List Int)) (v3_3 : (List Int)) (v4_3 : Int) : l3 k p0 0 v3_3 v4_3 = none := by kernel_rfl
theorem s (k : Nat) (p0 : (List Int)) : f k p0 =
 (gd ((0 : Int) ≤ ((p0.length : Int))) <| gd ((((p0.length : Int)) : Int) ≤ 1099511627776) <| l3 k p0 k ((List.replicate ((p0.length : Int)).toNat 0 : (List Int))) 0) := by kernel_rfl
theorem ok (k : Nat) : Ok Tryz.prog 15 (sem k) := Fd.ok (cx_ok trivial) ⟨Tryz.func15, rfl, by kernel_rfl⟩ rfl
attribute [irreducible] f l3
end laws_toIntS
/-! loop.example/wholecheck/laws.toTermSS -/
namespace laws_toTermSS
noncomputable def D : Fd := ⟨Tryz.f150, 1, h11, (.ow (.ow (.ag (.pr .sh (.pr .sh (.pr .sh .sh)))))), [.sh], .unit, h29⟩
noncomputable def C (k : Nat) : Ctx := cx [(28, laws_toTermS.sem k)] [] [(3, [(0, none), (3, none), (4, none)])] [] [] [] []
noncomputable def sem (k : Nat) : Sem := D.sem (D.ev (C k) k)
noncomputable def f (k : Nat) (p0 : y3) : Option (y3 × Unit) := D.ev (C k) k (p0, ())
noncomputable def l3 (k : Nat) (p0 : y3) (n : Nat) (v3_3 : y3) (v4_3 : Int) : Option (y3 × Unit) :=
 D.lp (C k) k 3 [1, 1, 0, 1, 0] [] n [(4, vI v4_3), (3, vO h11 v3_3), (0, vS h11 p0)]
theorem s3 (k : Nat) (p0 : y3) (n : Nat) (v3_3 : y3) (v4_3 : Int) : l3 k p0 (n + 1) v3_3 v4_3 =
 (if (decide (v4_3 < ((p0.length : Int)))) = true then
  gd ((0 : Int) ≤ v4_3) <| gd (v4_3 < (p0.length : Int)) <| (laws_toTermS.f k (p0.getD (v4_3.toNat) [])).bind fun r1 =>
  gd ((0 : Int) ≤ v4_3) <| gd (v4_3 < (v3_3.length : Int)) <| l3 k p0 n (v3_3.set (v4_3.toNat) r1.1) (w64 (v4_3 + 1))
 else
  some (v3_3, ())) := by kernel_rfl
theorem z3 (k : Nat) (p0 : y3) (v3_3 : y3) (v4_3 : Int) : l3 k p0 0 v3_3 v4_3 = none := by kernel_rfl
theorem s (k : Nat) (p0 : y3) : f k p0 =
 (gd ((0 : Int) ≤ ((p0.length : Int))) <| gd ((((p0.length : Int)) : Int) ≤ 1099511627776) <| l3 k p0 k ((List.replicate ((p0.length : Int)).toNat [] : (List (List (Int × (Int × (Int × Int))))))) 0) := by kernel_rfl
theorem ok (k : Nat) : Ok Tryz.prog 150 (sem k) := Fd.ok (cx_ok ⟨laws_toTermS.ok k, trivial⟩) ⟨Tryz.func150, rfl, by kernel_rfl⟩ rfl
attribute [irreducible] f l3
end laws_toTermSS
/-! loop.example/wholecheck/laws.toRule -/
namespace laws_toRule
noncomputable def D : Fd := ⟨Tryz.f104, 1, h15, (.ag (.pr (.ow (.ag (.pr .sh (.pr .sh (.pr .sh .sh))))) (.pr (.ow .sh) (.ow (.ow (.ag (.pr .sh (.pr .sh (.pr .sh .sh))))))))), [.sh], .unit, h30⟩
noncomputable def C (k : Nat) : Ctx := cx [(28, laws_toTermS.sem k), (15, laws_toIntS.sem k), (150, laws_toTermSS.sem k)] [] [] [] [] [] []
noncomputable def sem (k : Nat) : Sem := D.sem (D.ev (C k) k)
noncomputable def f (k : Nat) (p0 : y5) : Option (y5 × Unit) := D.ev (C k) k (p0, ())
theorem s (k : Nat) (p0 : y5) : f k p0 =
 ((laws_toTermS.f k p0.1).bind fun r1 =>
 (laws_toIntS.f k p0.2.1).bind fun r2 =>
 (laws_toTermSS.f k p0.2.2).bind fun r3 =>
 some ((r1.1, (r2.1, r3.1)), ())) := by kernel_rfl
theorem ok (k : Nat) : Ok Tryz.prog 104 (sem k) := Fd.ok (cx_ok ⟨laws_toTermS.ok k, laws_toIntS.ok k, laws_toTermSS.ok k, trivial⟩) ⟨Tryz.func104, rfl, by kernel_rfl⟩ rfl
attribute [irreducible] f
end laws_toRule
/-! loop.example/wholecheck/laws.toRuleS -/
namespace laws_toRuleS
noncomputable def D : Fd := ⟨Tryz.f54, 1, h17, (.ow (.ag (.pr (.ow (.ag (.pr .sh (.pr .sh (.pr .sh .sh))))) (.pr (.ow .sh) (.ow (.ow (.ag (.pr .sh (.pr .sh (.pr .sh .sh)))))))))), [.sh], .unit, h31⟩
noncomputable def C (k : Nat) : Ctx := cx [(104, laws_toRule.sem k)] [] [(3, [(0, none), (3, none), (4, none)])] [] [] [] []
noncomputable def sem (k : Nat) : Sem := D.sem (D.ev (C k) k)
noncomputable def f (k : Nat) (p0 : y6) : Option (y6 × Unit) := D.ev (C k) k (p0, ())
noncomputable def l3 (k : Nat) (p0 : y6) (n : Nat) (v3_3 : y6) (v4_3 : Int) : Option (y6 × Unit) :=
 D.lp (C k) k 3 [1, 1, 0, 1, 0] [] n [(4, vI v4_3), (3, vO h17 v3_3), (0, vS h17 p0)]
theorem s3 (k : Nat) (p0 : y6) (n : Nat) (v3_3 : y6) (v4_3 : Int) : l3 k p0 (n + 1) v3_3 v4_3 =
 (if (decide (v4_3 < ((p0.length : Int)))) = true then
  gd ((0 : Int) ≤ v4_3) <| gd (v4_3 < (p0.length : Int)) <| (laws_toRule.f k (p0.getD (v4_3.toNat) ([], ([], [])))).bind fun r1 =>
  gd ((0 : Int) ≤ v4_3) <| gd (v4_3 < (v3_3.length : Int)) <| l3 k p0 n (v3_3.set (v4_3.toNat) r1.1) (w64 (v4_3 + 1))
 else
  some (v3_3, ())) := by kernel_rfl
theorem z3 (k : Nat) (p0 : y6) (v3_3 : y6) (v4_3 : Int) : l3 k p0 0 v3_3 v4_3 = none := by kernel_rfl
theorem s (k : Nat) (p0 : y6) : f k p0 =
 (gd ((0 : Int) ≤ ((p0.length : Int))) <| gd ((((p0.length : Int)) : Int) ≤ 1099511627776) <| l3 k p0 k ((List.replicate ((p0.length : Int)).toNat ([], ([], [])) : (List ((List (Int × (Int × (Int × Int)))) × ((List Int) × (List (List (Int × (Int × (Int × Int)))))))))) 0) := by kernel_rfl
theorem ok (k : Nat) : Ok Tryz.prog 54 (sem k) := Fd.ok (cx_ok ⟨laws_toRule.ok k, trivial⟩) ⟨Tryz.func54, rfl, by kernel_rfl⟩ rfl
attribute [irreducible] f l3
end laws_toRuleS
/-! loop.example/wholecheck/laws.toSystem -/
namespace laws_toSystem
noncomputable def D : Fd := ⟨Tryz.f13, 1, h20, (.ag (.pr (.ow (.ag (.pr .sh (.pr .sh .sh)))) (.ow (.ag (.pr (.ow (.ag (.pr .sh (.pr .sh (.pr .sh .sh))))) (.pr (.ow .sh) (.ow (.ow (.ag (.pr .sh (.pr .sh (.pr .sh .sh)))))))))))), [.sh], .unit, h32⟩
noncomputable def C (k : Nat) : Ctx := cx [(53, laws_toVarS.sem k), (54, laws_toRuleS.sem k)] [] [] [] [] [] []
noncomputable def sem (k : Nat) : Sem := D.sem (D.ev (C k) k)
noncomputable def f (k : Nat) (p0 : y7) : Option (y7 × Unit) := D.ev (C k) k (p0, ())
theorem s (k : Nat) (p0 : y7) : f k p0 =
 ((laws_toVarS.f k p0.1).bind fun r1 =>
 (laws_toRuleS.f k p0.2).bind fun r2 =>
 some ((r1.1, r2.1), ())) := by kernel_rfl
theorem ok (k : Nat) : Ok Tryz.prog 13 (sem k) := Fd.ok (cx_ok ⟨laws_toVarS.ok k, laws_toRuleS.ok k, trivial⟩) ⟨Tryz.func13, rfl, by kernel_rfl⟩ rfl
attribute [irreducible] f
end laws_toSystem
/-! loop.example/wholecheck/laws.toBlocks -/
namespace laws_toBlocks
noncomputable def D : Fd := ⟨Tryz.f14, 1, h22, (.ag (.ow .sh)), [.sh], .unit, h33⟩
noncomputable def C (k : Nat) : Ctx := cx [(15, laws_toIntS.sem k)] [] [] [] [] [] []
noncomputable def sem (k : Nat) : Sem := D.sem (D.ev (C k) k)
noncomputable def f (k : Nat) (p0 : (List Int)) : Option ((List Int) × Unit) := D.ev (C k) k (p0, ())
theorem s (k : Nat) (p0 : (List Int)) : f k p0 =
 ((laws_toIntS.f k p0).bind fun r1 =>
 some (r1.1, ())) := by kernel_rfl
theorem ok (k : Nat) : Ok Tryz.prog 14 (sem k) := Fd.ok (cx_ok ⟨laws_toIntS.ok k, trivial⟩) ⟨Tryz.func14, rfl, by kernel_rfl⟩ rfl
attribute [irreducible] f
end laws_toBlocks
/-! loop.example/wholecheck/spec.l1In -/
namespace spec_l1In
noncomputable def D : Fd := ⟨Tryz.f96, 1, .bool, .sh, [.sh, .sh, .sh], .unit, h35⟩
noncomputable def C (k : Nat) : Ctx := cx [] [] [] [] [] [] []
noncomputable def sem (k : Nat) : Sem := D.sem (D.ev (C k) k)
noncomputable def f (k : Nat) (p0 p1 p2 : Int) : Option (Bool × Unit) := D.ev (C k) k (p0, p1, p2, ())
theorem s (k : Nat) (p0 p1 p2 : Int) : f k p0 p1 p2 =
 (if (decide (p0 ≥ p1)) = true then
  some (decide (p0 ≤ p2), ())
 else
  some (false, ())) := by kernel_rfl
theorem ok (k : Nat) : Ok Tryz.prog 96 (sem k) := Fd.ok (cx_ok trivial) ⟨Tryz.func96, rfl, by kernel_rfl⟩ rfl
attribute [irreducible] f
end spec_l1In
/-! loop.example/wholecheck/spec.l2Var -/
namespace spec_l2Var
noncomputable def D : Fd := ⟨Tryz.f176, 1, .bool, .sh, [.sh], .unit, h24⟩
noncomputable def C (k : Nat) : Ctx := cx [(96, spec_l1In.sem k)] [] [] [] [] [] []
noncomputable def sem (k : Nat) : Sem := D.sem (D.ev (C k) k)
noncomputable def f (k : Nat) (p0 : (Int × (Int × Int))) : Option (Bool × Unit) := D.ev (C k) k (p0, ())
theorem s (k : Nat) (p0 : (Int × (Int × Int))) : f k p0 =
 ((spec_l1In.f k p0.1 (-9999) 9999).bind fun r1 =>
 if r1.1 = true then
  (spec_l1In.f k p0.2.1 p0.1 9999).bind fun r2 =>
  if r2.1 = true then
   if (decide ((w64 (p0.2.1 - p0.1)) < 20)) = true then
    (spec_l1In.f k p0.2.2 p0.1 p0.2.1).bind fun r3 =>
    some (r3.1, ())
   else
    some (false, ())
  else
   some (false, ())
 else
  some (false, ())) := by kernel_rfl
theorem ok (k : Nat) : Ok Tryz.prog 176 (sem k) := Fd.ok (cx_ok ⟨spec_l1In.ok k, trivial⟩) ⟨Tryz.func176, rfl, by kernel_rfl⟩ rfl
attribute [irreducible] f
end spec_l2Var
/-! loop.example/wholecheck/spec.l1One -/
namespace spec_l1One
noncomputable def D : Fd := ⟨Tryz.f203, 1, .bool, .sh, [.sh], .unit, h3⟩
noncomputable def C (k : Nat) : Ctx := cx [] [] [] [] [] [] []
noncomputable def sem (k : Nat) : Sem := D.sem (D.ev (C k) k)
noncomputable def f (k : Nat) (p0 : Int) : Option (Bool × Unit) := D.ev (C k) k (p0, ())
theorem s (k : Nat) (p0 : Int) : f k p0 =
 (some (p0 == 7, ())) := by kernel_rfl
theorem ok (k : Nat) : Ok Tryz.prog 203 (sem k) := Fd.ok (cx_ok trivial) ⟨Tryz.func203, rfl, by kernel_rfl⟩ rfl
attribute [irreducible] f
end spec_l1One
/-! loop.example/wholecheck/spec.l1Kind -/
namespace spec_l1Kind
noncomputable def D : Fd := ⟨Tryz.f174, 1, I, .sh, [.sh, .sh, .sh], .unit, h36⟩
noncomputable def C (k : Nat) : Ctx := cx [(96, spec_l1In.sem k), (203, spec_l1One.sem k)] [] [] [] [] [] [(3, [(1, none), (2, none), (3, none)]), (5, [(1, none), (3, none)]), (10, [(1, none), (3, none), (7, none)])]
noncomputable def sem (k : Nat) : Sem := D.sem (D.ev (C k) k)
noncomputable def f (k : Nat) (p0 : y1) (p1 : (List Int)) (p2 : Int) : Option (Int × Unit) := D.ev (C k) k (p0, p1, p2, ())
noncomputable def lj3 (k : Nat) (p0 : y1) (p1 : (List Int)) (p2 : Int) (n : Nat) : Option (Int × Unit) :=
 D.jn (C k) k 3 [1] [] n [(3, .val h37 (.ow .sh) p0), (2, vI p2), (1, vS h9 p1)]
noncomputable def lj5 (k : Nat) (p0 : y1) (p1 : (List Int)) (n : Nat) : Option (Int × Unit) :=
 D.jn (C k) k 5 [1, 1] [] n [(3, .val h37 (.ow .sh) p0), (1, vS h9 p1)]
noncomputable def lj10 (k : Nat) (p0 : y1) (p1 : (List Int)) (n : Nat) (v7_j10 : Int) : Option (Int × Unit) :=
 D.jn (C k) k 10 [1, 1, 1, 1, 1] [] n [(7, vI v7_j10), (3, .val h37 (.ow .sh) p0), (1, vS h9 p1)]
theorem sj10 (k : Nat) (p0 : y1) (p1 : (List Int)) (n : Nat) (v7_j10 : Int) : lj10 k p0 p1 (n + 1) v7_j10 =
 (gd ((0 : Int) ≤ p0.2.2.1) <| gd (p0.2.2.1 < (p1.length : Int)) <| if ((p1.getD (p0.2.2.1.toNat) 0) != v7_j10) = true then
  some (0, ())
 else
  gd ((0 : Int) ≤ p0.2.2.2) <| gd (p0.2.2.2 < (p1.length : Int)) <| if ((p1.getD (p0.2.2.2.toNat) 0) != v7_j10) = true then
   some (0, ())
  else
   (spec_l1One.f k p0.1).bind fun r6 =>
   if r6.1 = true then
    if (p0.2.2.2 != p0.2.2.1) = true then
     some (0, ())
    else
     if (decide (p0.1 ≥ 5)) = true then
      some (2, ())
     else
      some (1, ())
   else
    if (decide (p0.1 ≥ 5)) = true then
     some (2, ())
    else
     some (1, ())) := by kernel_rfl
theorem zj10 (k : Nat) (p0 : y1) (p1 : (List Int)) (v7_j10 : Int) : lj10 k p0 p1 0 v7_j10 = none := by kernel_rfl
theorem sj5 (k : Nat) (p0 : y1) (p1 : (List Int)) (n : Nat) : lj5 k p0 p1 (n + 1) =
 ((spec_l1In.f k p0.1 2 9).bind fun r3 =>
 if (!r3.1) = true then
  some (0, ())
 else
  if (p0.2.1 != 0) = true then
   some (0, ())
  else
   (spec_l1In.f k p0.2.2.1 0 (w64 (((p1.length : Int)) - 1))).bind fun r4 =>
   if (!r4.1) = true then
    some (0, ())
   else
    (spec_l1In.f k p0.2.2.2 0 (w64 (((p1.length : Int)) - 1))).bind fun r5 =>
    if (!r5.1) = true then
     some (0, ())
    else
     if (decide (p0.1 ≥ 7)) = true then
      lj10 k p0 p1 k 2
     else
      lj10 k p0 p1 k 1) := by kernel_rfl
theorem zj5 (k : Nat) (p0 : y1) (p1 : (List Int)) : lj5 k p0 p1 0 = none := by kernel_rfl
theorem sj3 (k : Nat) (p0 : y1) (p1 : (List Int)) (p2 : Int) (n : Nat) : lj3 k p0 p1 p2 (n + 1) =
 (if (p0.1 == 1) = true then
  (spec_l1In.f k p0.2.1 0 (w64 (p2 - 1))).bind fun r2 =>
  if r2.1 = true then
   if (p0.2.2.1 == 0) = true then
    if (p0.2.2.2 == 0) = true then
     some (1, ())
    else
     lj5 k p0 p1 k
   else
    lj5 k p0 p1 k
  else
   lj5 k p0 p1 k
 else
  lj5 k p0 p1 k) := by kernel_rfl
theorem zj3 (k : Nat) (p0 : y1) (p1 : (List Int)) (p2 : Int) : lj3 k p0 p1 p2 0 = none := by kernel_rfl
theorem s (k : Nat) (p0 : y1) (p1 : (List Int)) (p2 : Int) : f k p0 p1 p2 =
 (if (p0.1 == 0) = true then
  (spec_l1In.f k p0.2.1 (-9999) 9999).bind fun r1 =>
  if r1.1 = true then
   if (p0.2.2.1 == 0) = true then
    if (p0.2.2.2 == 0) = true then
     some (1, ())
    else
     lj3 k p0 p1 p2 k
   else
    lj3 k p0 p1 p2 k
  else
   lj3 k p0 p1 p2 k
 else
  lj3 k p0 p1 p2 k) := by kernel_rfl
theorem ok (k : Nat) : Ok Tryz.prog 174 (sem k) := Fd.ok (cx_ok ⟨spec_l1In.ok k, spec_l1One.ok k, trivial⟩) ⟨Tryz.func174, rfl, by kernel_rfl⟩ rfl
attribute [irreducible] f lj3 lj5 lj10
end spec_l1Kind
/-! loop.example/wholecheck/spec.KindsOf -/
namespace spec_KindsOf
noncomputable def D : Fd := ⟨Tryz.f140, 1, h9, (.ow .sh), [.sh, .sh], .unit, h8⟩
noncomputable def C (k : Nat) : Ctx := cx [(96, spec_l1In.sem k), (174, spec_l1Kind.sem k)] [] [(5, [(0, none), (1, none), (5, none), (6, none)])] [] [] [] []
noncomputable def sem (k : Nat) : Sem := D.sem (D.ev (C k) k)
noncomputable def f (k : Nat) (p0 : y2) (p1 : Int) : Option ((List Int) × Unit) := D.ev (C k) k (p0, p1, ())
noncomputable def l5 (k : Nat) (p0 : y2) (p1 : Int) (n : Nat) (v5_5 : (List Int)) (v6_5 : Int) : Option ((List Int) × Unit) :=
 D.lp (C k) k 5 [1, 1, 1, 0, 1, 0] [] n [(6, vI v6_5), (5, vO h9 v5_5), (1, vI p1), (0, vS h7 p0)]
theorem s5 (k : Nat) (p0 : y2) (p1 : Int) (n : Nat) (v5_5 : (List Int)) (v6_5 : Int) : l5 k p0 p1 (n + 1) v5_5 v6_5 =
 (if (decide (v6_5 < ((p0.length : Int)))) = true then
  gd ((0 : Int) ≤ v6_5) <| gd (v6_5 < (p0.length : Int)) <| (spec_l1Kind.f k (p0.getD (v6_5.toNat) (0, (0, (0, 0)))) v5_5 p1).bind fun r3 =>
  if (r3.1 == 0) = true then
   some ([], ())
  else
   gd ((v5_5.length : Int) + ([r3.1].length : Int) ≤ 1099511627776) <| l5 k p0 p1 n (v5_5 ++ [r3.1]) (w64 (v6_5 + 1))
 else
  some (v5_5, ())) := by kernel_rfl
theorem z5 (k : Nat) (p0 : y2) (p1 : Int) (v5_5 : (List Int)) (v6_5 : Int) : l5 k p0 p1 0 v5_5 v6_5 = none := by kernel_rfl
theorem s (k : Nat) (p0 : y2) (p1 : Int) : f k p0 p1 =
 ((spec_l1In.f k p1 0 5).bind fun r1 =>
 if (!r1.1) = true then
  some ([], ())
 else
  (spec_l1In.f k ((p0.length : Int)) 1 40).bind fun r2 =>
  if (!r2.1) = true then
   some ([], ())
  else
   l5 k p0 p1 k [] 0) := by kernel_rfl
theorem ok (k : Nat) : Ok Tryz.prog 140 (sem k) := Fd.ok (cx_ok ⟨spec_l1In.ok k, spec_l1Kind.ok k, trivial⟩) ⟨Tryz.func140, rfl, by kernel_rfl⟩ rfl
attribute [irreducible] f l5
end spec_KindsOf
/-! loop.example/wholecheck/spec.l2Is -/
namespace spec_l2Is
noncomputable def D : Fd := ⟨Tryz.f80, 1, .bool, .sh, [.sh, .sh, .sh], .unit, h38⟩
noncomputable def C (k : Nat) : Ctx := cx [(140, spec_KindsOf.sem k)] [] [] [] [] [] []
noncomputable def sem (k : Nat) : Sem := D.sem (D.ev (C k) k)
noncomputable def f (k : Nat) (p0 : y2) (p1 p2 : Int) : Option (Bool × Unit) := D.ev (C k) k (p0, p1, p2, ())
theorem s (k : Nat) (p0 : y2) (p1 p2 : Int) : f k p0 p1 p2 =
 ((spec_KindsOf.f k p0 p1).bind fun r1 =>
 if (decide (((r1.1.length : Int)) > 0)) = true then
  gd ((0 : Int) ≤ (w64 (((r1.1.length : Int)) - 1))) <| gd ((w64 (((r1.1.length : Int)) - 1)) < (r1.1.length : Int)) <| some ((r1.1.getD ((w64 (((r1.1.length : Int)) - 1)).toNat) 0) == p2, ())
 else
  some (false, ())) := by kernel_rfl
theorem ok (k : Nat) : Ok Tryz.prog 80 (sem k) := Fd.ok (cx_ok ⟨spec_KindsOf.ok k, trivial⟩) ⟨Tryz.func80, rfl, by kernel_rfl⟩ rfl
attribute [irreducible] f
end spec_l2Is
/-! loop.example/wholecheck/spec.l2Rule -/
namespace spec_l2Rule
noncomputable def D : Fd := ⟨Tryz.f177, 1, .bool, .sh, [.sh, .sh], .unit, h16⟩
noncomputable def C (k : Nat) : Ctx := cx [(80, spec_l2Is.sem k), (96, spec_l1In.sem k)] [] [(4, [(1, none), (2, none), (5, none)])] [] [(6, [0, 1, 2, 3, 4, 5, 6, 7, 8, 9, 10, 11, 12, 13, 14, 15, 16, 17, 18, 19, 20, 21, 22, 23, 24, 25, 26, 27, 28, 29, 30, 31, 32, 33, 34, 35, 36])] [] []
noncomputable def sem (k : Nat) : Sem := D.sem (D.ev (C k) k)
noncomputable def f (k : Nat) (p0 : y5) (p1 : Int) : Option (Bool × Unit) := D.ev (C k) k (p0, p1, ())
noncomputable def l4 (k : Nat) (p0 : y5) (p1 : Int) (n : Nat) (v5_4 : Int) : Option (Bool × Unit) :=
 D.lp (C k) k 4 [1, 1, 0, 1, 0] [] n [(5, vI v5_4), (2, .val h39 (.ow .sh) p0), (1, vI p1)]
theorem s4 (k : Nat) (p0 : y5) (p1 : Int) (n : Nat) (v5_4 : Int) : l4 k p0 p1 (n + 1) v5_4 =
 (if (decide (v5_4 < ((p0.2.1.length : Int)))) = true then
  gd ((0 : Int) ≤ v5_4) <| gd (v5_4 < (p0.2.1.length : Int)) <| (spec_l1In.f k (p0.2.1.getD (v5_4.toNat) 0) 0 (w64 (p1 - 1))).bind fun r2 =>
  if (!r2.1) = true then
   some (false, ())
  else
   if (decide (v5_4 > 0)) = true then
    gd ((0 : Int) ≤ v5_4) <| gd (v5_4 < (p0.2.1.length : Int)) <| gd ((0 : Int) ≤ (w64 (v5_4 - 1))) <| gd ((w64 (v5_4 - 1)) < (p0.2.1.length : Int)) <| if (decide ((p0.2.1.getD (v5_4.toNat) 0) ≤ (p0.2.1.getD ((w64 (v5_4 - 1)).toNat) 0))) = true then
     some (false, ())
    else
     gd ((0 : Int) ≤ v5_4) <| gd (v5_4 < (p0.2.2.length : Int)) <| (spec_l2Is.f k (p0.2.2.getD (v5_4.toNat) []) p1 1).bind fun r3 =>
     if (!r3.1) = true then
      some (false, ())
     else
      l4 k p0 p1 n (w64 (v5_4 + 1))
   else
    gd ((0 : Int) ≤ v5_4) <| gd (v5_4 < (p0.2.2.length : Int)) <| (spec_l2Is.f k (p0.2.2.getD (v5_4.toNat) []) p1 1).bind fun r4 =>
    if (!r4.1) = true then
     some (false, ())
    else
     l4 k p0 p1 n (w64 (v5_4 + 1))
 else
  some (true, ())) := by kernel_rfl
theorem z4 (k : Nat) (p0 : y5) (p1 : Int) (v5_4 : Int) : l4 k p0 p1 0 v5_4 = none := by kernel_rfl
theorem s (k : Nat) (p0 : y5) (p1 : Int) : f k p0 p1 =
 ((spec_l2Is.f k p0.1 p1 2).bind fun r1 =>
 if (!r1.1) = true then
  some (false, ())
 else
  if (((p0.2.1.length : Int)) != ((p0.2.2.length : Int))) = true then
   some (false, ())
  else
   if (decide (((p0.2.1.length : Int)) > p1)) = true then
    some (false, ())
   else
    l4 k p0 p1 k 0) := by kernel_rfl
theorem ok (k : Nat) : Ok Tryz.prog 177 (sem k) := Fd.ok (cx_ok ⟨spec_l2Is.ok k, spec_l1In.ok k, trivial⟩) ⟨Tryz.func177, rfl, by kernel_rfl⟩ rfl
attribute [irreducible] f l4
end spec_l2Rule
/-! loop.example/wholecheck/spec.SystemValid -/
namespace spec_SystemValid
noncomputable def D : Fd := ⟨Tryz.f142, 1, .bool, .sh, [.sh], .unit, h32⟩
noncomputable def C (k : Nat) : Ctx := cx [(96, spec_l1In.sem k), (176, spec_l2Var.sem k), (177, spec_l2Rule.sem k)] [((9, 16), 3)] [(5, [(1, none), (3, none), (4, none)]), (11, [(1, none), (3, none), (5, none)])] [] [(9, [0, 1, 2, 3, 4, 5, 6, 7, 8, 9, 10, 11, 12, 13, 14, 15, 16]), (13, [0, 1, 2, 3, 4, 5, 6, 7, 8, 9])] [] []
noncomputable def sem (k : Nat) : Sem := D.sem (D.ev (C k) k)
noncomputable def f (k : Nat) (p0 : y7) : Option (Bool × Unit) := D.ev (C k) k (p0, ())
noncomputable def l5 (k : Nat) (p0 : y7) (n : Nat) (v3_5 v4_5 : Int) : Option (Bool × Unit) :=
 D.lp (C k) k 5 [1, 1, 1, 0, 1, 0] [] n [(4, vI v4_5), (3, vI v3_5), (1, .val h40 (.ow .sh) p0)]
noncomputable def l11 (k : Nat) (p0 : y7) (v3_5 : Int) (n : Nat) (v5_11 : Int) : Option (Bool × Unit) :=
 D.lp (C k) k 11 [1, 1, 1, 1, 0, 1, 0] [] n [(5, vI v5_11), (3, vI v3_5), (1, .val h40 (.ow .sh) p0)]
theorem s11 (k : Nat) (p0 : y7) (v3_5 : Int) (n : Nat) (v5_11 : Int) : l11 k p0 v3_5 (n + 1) v5_11 =
 (if (decide (v5_11 < ((p0.2.length : Int)))) = true then
  gd ((0 : Int) ≤ v5_11) <| gd (v5_11 < (p0.2.length : Int)) <| (spec_l2Rule.f k (p0.2.getD (v5_11.toNat) ([], ([], []))) ((p0.1.length : Int))).bind fun r3 =>
  if (!r3.1) = true then
   some (false, ())
  else
   l11 k p0 v3_5 n (w64 (v5_11 + 1))
 else
  some (decide (v3_5 ≤ 400), ())) := by kernel_rfl
theorem z11 (k : Nat) (p0 : y7) (v3_5 : Int) (v5_11 : Int) : l11 k p0 v3_5 0 v5_11 = none := by kernel_rfl
theorem s5 (k : Nat) (p0 : y7) (n : Nat) (v3_5 v4_5 : Int) : l5 k p0 (n + 1) v3_5 v4_5 =
 (if (decide (v4_5 < ((p0.1.length : Int)))) = true then
  gd ((0 : Int) ≤ v4_5) <| gd (v4_5 < (p0.1.length : Int)) <| (spec_l2Var.f k (p0.1.getD (v4_5.toNat) (0, (0, 0)))).bind fun r2 =>
  if (!r2.1) = true then
   some (false, ())
  else
   gd ((0 : Int) ≤ v4_5) <| gd (v4_5 < (p0.1.length : Int)) <| gd ((0 : Int) ≤ v4_5) <| gd (v4_5 < (p0.1.length : Int)) <| l5 k p0 n (w64 (v3_5 * (w64 ((w64 ((p0.1.getD (v4_5.toNat) (0, (0, 0))).2.1 - (p0.1.getD (v4_5.toNat) (0, (0, 0))).1)) + 1)))) (w64 (v4_5 + 1))
 else
  l11 k p0 v3_5 k 0) := by kernel_rfl
theorem z5 (k : Nat) (p0 : y7) (v3_5 v4_5 : Int) : l5 k p0 0 v3_5 v4_5 = none := by kernel_rfl
theorem s (k : Nat) (p0 : y7) : f k p0 =
 ((spec_l1In.f k ((p0.1.length : Int)) 1 5).bind fun r1 =>
 if (!r1.1) = true then
  some (false, ())
 else
  if (decide (((p0.2.length : Int)) > 8)) = true then
   some (false, ())
  else
   l5 k p0 k 1 0) := by kernel_rfl
theorem ok (k : Nat) : Ok Tryz.prog 142 (sem k) := Fd.ok (cx_ok ⟨spec_l1In.ok k, spec_l2Var.ok k, spec_l2Rule.ok k, trivial⟩) ⟨Tryz.func142, rfl, by kernel_rfl⟩ rfl
attribute [irreducible] f l5 l11
end spec_SystemValid
/-! loop.example/wholecheck/spec.SizeOf -/
namespace spec_SizeOf
noncomputable def D : Fd := ⟨Tryz.f127, 1, I, .sh, [.sh], .unit, h32⟩
noncomputable def C (k : Nat) : Ctx := cx [(142, spec_SystemValid.sem k)] [((7, 16), 3)] [(5, [(1, none), (3, none), (4, none)])] [] [(7, [0, 1, 2, 3, 4, 5, 6, 7, 8, 9, 10, 11, 12, 13, 14, 15, 16])] [] []
noncomputable def sem (k : Nat) : Sem := D.sem (D.ev (C k) k)
noncomputable def f (k : Nat) (p0 : y7) : Option (Int × Unit) := D.ev (C k) k (p0, ())
noncomputable def l5 (k : Nat) (p0 : y7) (n : Nat) (v3_5 v4_5 : Int) : Option (Int × Unit) :=
 D.lp (C k) k 5 [1, 1, 1, 0, 1, 0] [] n [(4, vI v4_5), (3, vI v3_5), (1, .val h40 (.ow .sh) p0)]
theorem s5 (k : Nat) (p0 : y7) (n : Nat) (v3_5 v4_5 : Int) : l5 k p0 (n + 1) v3_5 v4_5 =
 (if (decide (v4_5 < ((p0.1.length : Int)))) = true then
  gd ((0 : Int) ≤ v4_5) <| gd (v4_5 < (p0.1.length : Int)) <| gd ((0 : Int) ≤ v4_5) <| gd (v4_5 < (p0.1.length : Int)) <| l5 k p0 n (w64 (v3_5 * (w64 ((w64 ((p0.1.getD (v4_5.toNat) (0, (0, 0))).2.1 - (p0.1.getD (v4_5.toNat) (0, (0, 0))).1)) + 1)))) (w64 (v4_5 + 1))
 else
  some (v3_5, ())) := by kernel_rfl
theorem z5 (k : Nat) (p0 : y7) (v3_5 v4_5 : Int) : l5 k p0 0 v3_5 v4_5 = none := by kernel_rfl
theorem s (k : Nat) (p0 : y7) : f k p0 =
 ((spec_SystemValid.f k p0).bind fun r1 =>
 if (!r1.1) = true then
  some (0, ())
 else
  l5 k p0 k 1 0) := by kernel_rfl
theorem ok (k : Nat) : Ok Tryz.prog 127 (sem k) := Fd.ok (cx_ok ⟨spec_SystemValid.ok k, trivial⟩) ⟨Tryz.func127, rfl, by kernel_rfl⟩ rfl
attribute [irreducible] f l5
end spec_SizeOf
/-! loop.example/wholecheck/spec.BlocksValid -/
namespace spec_BlocksValid
noncomputable def D : Fd := ⟨Tryz.f76, 1, .bool, .sh, [.sh, .sh], .unit, h41⟩
noncomputable def C (k : Nat) : Ctx := cx [(127, spec_SizeOf.sem k), (96, spec_l1In.sem k)] [] [(4, [(3, none), (5, none)])] [] [(1, [0, 1, 2, 3, 4, 5, 6, 7, 8, 9, 10, 11]), (6, [0, 1, 2, 3, 4, 5, 6, 7, 8, 9, 10, 11, 12, 13, 14, 15, 16, 17, 18, 19, 20, 21, 22, 23, 24])] [((1, 4), [3])] []
noncomputable def sem (k : Nat) : Sem := D.sem (D.ev (C k) k)
noncomputable def f (k : Nat) (p0 : y7) (p1 : (List Int)) : Option (Bool × Unit) := D.ev (C k) k (p0, p1, ())
noncomputable def l4 (k : Nat) (p1 : (List Int)) (n : Nat) (v5_4 : Int) : Option (Bool × Unit) :=
 D.lp (C k) k 4 [1, 1, 0, 1, 0] [] n [(5, vI v5_4), (3, .val h42 (.ow .sh) p1)]
theorem s4 (k : Nat) (p1 : (List Int)) (n : Nat) (v5_4 : Int) : l4 k p1 (n + 1) v5_4 =
 (if (decide (v5_4 < ((p1.length : Int)))) = true then
  gd ((0 : Int) ≤ v5_4) <| gd (v5_4 < (p1.length : Int)) <| (spec_l1In.f k (p1.getD (v5_4.toNat) 0) 0 v5_4).bind fun r2 =>
  if (!r2.1) = true then
   some (false, ())
  else
   gd ((0 : Int) ≤ v5_4) <| gd (v5_4 < (p1.length : Int)) <| gd ((0 : Int) ≤ (p1.getD (v5_4.toNat) 0)) <| gd ((p1.getD (v5_4.toNat) 0) < (p1.length : Int)) <| gd ((0 : Int) ≤ v5_4) <| gd (v5_4 < (p1.length : Int)) <| if ((p1.getD ((p1.getD (v5_4.toNat) 0).toNat) 0) != (p1.getD (v5_4.toNat) 0)) = true then
    some (false, ())
   else
    l4 k p1 n (w64 (v5_4 + 1))
 else
  some (true, ())) := by kernel_rfl
theorem z4 (k : Nat) (p1 : (List Int)) (v5_4 : Int) : l4 k p1 0 v5_4 = none := by kernel_rfl
theorem s (k : Nat) (p0 : y7) (p1 : (List Int)) : f k p0 p1 =
 ((spec_SizeOf.f k p0).bind fun r1 =>
 if (((p1.length : Int)) != r1.1) = true then
  some (false, ())
 else
  if (((p1.length : Int)) == 0) = true then
   some (false, ())
  else
   l4 k p1 k 0) := by kernel_rfl
theorem ok (k : Nat) : Ok Tryz.prog 76 (sem k) := Fd.ok (cx_ok ⟨spec_SizeOf.ok k, spec_l1In.ok k, trivial⟩) ⟨Tryz.func76, rfl, by kernel_rfl⟩ rfl
attribute [irreducible] f l4
end spec_BlocksValid
/-! loop.example/wholecheck/spec.FirstState -/
namespace spec_FirstState
noncomputable def D : Fd := ⟨Tryz.f98, 1, h9, (.ow .sh), [.sh], .unit, h32⟩
noncomputable def C (k : Nat) : Ctx := cx [(142, spec_SystemValid.sem k)] [] [(3, [(1, none), (3, none), (4, none)])] [] [] [] []
noncomputable def sem (k : Nat) : Sem := D.sem (D.ev (C k) k)
noncomputable def f (k : Nat) (p0 : y7) : Option ((List Int) × Unit) := D.ev (C k) k (p0, ())
noncomputable def l3 (k : Nat) (p0 : y7) (n : Nat) (v3_3 : (List Int)) (v4_3 : Int) : Option ((List Int) × Unit) :=
 D.lp (C k) k 3 [1, 1, 0, 1, 0] [] n [(4, vI v4_3), (3, vO h9 v3_3), (1, .val h40 (.ow .sh) p0)]
theorem s3 (k : Nat) (p0 : y7) (n : Nat) (v3_3 : (List Int)) (v4_3 : Int) : l3 k p0 (n + 1) v3_3 v4_3 =
 (if (decide (v4_3 < ((p0.1.length : Int)))) = true then
  (spec_SystemValid.f k p0).bind fun r1 =>
  if r1.1 = true then
   gd ((0 : Int) ≤ v4_3) <| gd (v4_3 < (p0.1.length : Int)) <| gd ((v3_3.length : Int) + ([(p0.1.getD (v4_3.toNat) (0, (0, 0))).2.2].length : Int) ≤ 1099511627776) <| l3 k p0 n (v3_3 ++ [(p0.1.getD (v4_3.toNat) (0, (0, 0))).2.2]) (w64 (v4_3 + 1))
  else
   some (v3_3, ())
 else
  some (v3_3, ())) := by kernel_rfl
theorem z3 (k : Nat) (p0 : y7) (v3_3 : (List Int)) (v4_3 : Int) : l3 k p0 0 v3_3 v4_3 = none := by kernel_rfl
theorem s (k : Nat) (p0 : y7) : f k p0 =
 (l3 k p0 k [] 0) := by kernel_rfl
theorem ok (k : Nat) : Ok Tryz.prog 98 (sem k) := Fd.ok (cx_ok ⟨spec_SystemValid.ok k, trivial⟩) ⟨Tryz.func98, rfl, by kernel_rfl⟩ rfl
attribute [irreducible] f l3
end spec_FirstState
/-! loop.example/wholecheck/spec.l3Copy -/
namespace spec_l3Copy
noncomputable def D : Fd := ⟨Tryz.f52, 1, h9, (.ow .sh), [.sh], .unit, h28⟩
noncomputable def C (k : Nat) : Ctx := cx [] [] [(3, [(0, none), (3, none), (4, none)])] [] [] [] []
noncomputable def sem (k : Nat) : Sem := D.sem (D.ev (C k) k)
noncomputable def f (k : Nat) (p0 : (List Int)) : Option ((List Int) × Unit) := D.ev (C k) k (p0, ())
noncomputable def l3 (k : Nat) (p0 : (List Int)) (n : Nat) (v3_3 : (List Int)) (v4_3 : Int) : Option ((List Int) × Unit) :=
 D.lp (C k) k 3 [1, 1, 0, 1, 0] [] n [(4, vI v4_3), (3, vO h9 v3_3), (0, vS h9 p0)]
theorem s3 (k : Nat) (p0 : (List Int)) (n : Nat) (v3_3 : (List Int)) (v4_3 : Int) : l3 k p0 (n + 1) v3_3 v4_3 =
 (if (decide (v4_3 < ((p0.length : Int)))) = true then
  gd ((0 : Int) ≤ v4_3) <| gd (v4_3 < (p0.length : Int)) <| gd ((v3_3.length : Int) + ([(p0.getD (v4_3.toNat) 0)].length : Int) ≤ 1099511627776) <| l3 k p0 n (v3_3 ++ [(p0.getD (v4_3.toNat) 0)]) (w64 (v4_3 + 1))
 else
  some (v3_3, ())) := by kernel_rfl
theorem z3 (k : Nat) (p0 : (List Int)) (v3_3 : (List Int)) (v4_3 : Int) : l3 k p0 0 v3_3 v4_3 = none := by kernel_rfl
theorem s (k : Nat) (p0 : (List Int)) : f k p0 =
 (l3 k p0 k [] 0) := by kernel_rfl
theorem ok (k : Nat) : Ok Tryz.prog 52 (sem k) := Fd.ok (cx_ok trivial) ⟨Tryz.func52, rfl, by kernel_rfl⟩ rfl
attribute [irreducible] f l3
end spec_l3Copy
/-! loop.example/wholecheck/spec.l4State -/
namespace spec_l4State
noncomputable def D : Fd := ⟨Tryz.f129, 1, h9, (.ow .sh), [.sh, .sh], .unit, h21⟩
noncomputable def C (k : Nat) : Ctx := cx [(98, spec_FirstState.sem k), (52, spec_l3Copy.sem k)] [] [(3, [(1, none), (2, none), (5, none), (6, none)])] [] [(5, [0, 1, 2, 3, 4, 5, 6, 7, 8, 9, 10, 11, 12, 13, 14]), (6, [0, 1, 2, 3, 4, 5, 6, 7, 8, 9, 10, 11, 12, 13])] [] []
noncomputable def sem (k : Nat) : Sem := D.sem (D.ev (C k) k)
noncomputable def f (k : Nat) (p0 : y7) (p1 : Int) : Option ((List Int) × Unit) := D.ev (C k) k (p0, p1, ())
noncomputable def l3 (k : Nat) (p0 : y7) (n : Nat) (v1_3 : Int) (v5_3 : (List Int)) (v6_3 : Int) : Option ((List Int) × Unit) :=
 D.lp (C k) k 3 [1, 1, 0, 1, 0] [] n [(6, vI v6_3), (5, vO h9 v5_3), (2, .val h40 (.ow .sh) p0), (1, vI v1_3)]
theorem s3 (k : Nat) (p0 : y7) (n : Nat) (v1_3 : Int) (v5_3 : (List Int)) (v6_3 : Int) : l3 k p0 (n + 1) v1_3 v5_3 v6_3 =
 (if (decide (v6_3 ≥ 0)) = true then
  gd ((0 : Int) ≤ v6_3) <| gd (v6_3 < (p0.1.length : Int)) <| gd ((0 : Int) ≤ v6_3) <| gd (v6_3 < (p0.1.length : Int)) <| gd ((0 : Int) ≤ v6_3) <| gd (v6_3 < (p0.1.length : Int)) <| gd (((w64 ((w64 ((p0.1.getD (v6_3.toNat) (0, (0, 0))).2.1 - (p0.1.getD (v6_3.toNat) (0, (0, 0))).1)) + 1)) : Int) ≠ 0) <| gd ((0 : Int) ≤ v6_3) <| gd (v6_3 < (v5_3.length : Int)) <| gd (((w64 ((w64 ((p0.1.getD (v6_3.toNat) (0, (0, 0))).2.1 - (p0.1.getD (v6_3.toNat) (0, (0, 0))).1)) + 1)) : Int) ≠ 0) <| l3 k p0 n (w64 (v1_3.tdiv (w64 ((w64 ((p0.1.getD (v6_3.toNat) (0, (0, 0))).2.1 - (p0.1.getD (v6_3.toNat) (0, (0, 0))).1)) + 1)))) (v5_3.set (v6_3.toNat) (w64 ((p0.1.getD (v6_3.toNat) (0, (0, 0))).1 + (v1_3.tmod (w64 ((w64 ((p0.1.getD (v6_3.toNat) (0, (0, 0))).2.1 - (p0.1.getD (v6_3.toNat) (0, (0, 0))).1)) + 1)))))) (w64 (v6_3 - 1))
 else
  some (v5_3, ())) := by kernel_rfl
theorem z3 (k : Nat) (p0 : y7) (v1_3 : Int) (v5_3 : (List Int)) (v6_3 : Int) : l3 k p0 0 v1_3 v5_3 v6_3 = none := by kernel_rfl
theorem s (k : Nat) (p0 : y7) (p1 : Int) : f k p0 p1 =
 ((spec_FirstState.f k p0).bind fun r1 =>
 (spec_l3Copy.f k r1.1).bind fun r2 =>
 l3 k p0 k p1 r2.1 (w64 (((p0.1.length : Int)) - 1))) := by kernel_rfl
theorem ok (k : Nat) : Ok Tryz.prog 129 (sem k) := Fd.ok (cx_ok ⟨spec_FirstState.ok k, spec_l3Copy.ok k, trivial⟩) ⟨Tryz.func129, rfl, by kernel_rfl⟩ rfl
attribute [irreducible] f l3
end spec_l4State
/-! loop.example/wholecheck/spec.l1Held -/
namespace spec_l1Held
noncomputable def D : Fd := ⟨Tryz.f217, 1, I, .sh, [.sh], .unit, h3⟩
noncomputable def C (k : Nat) : Ctx := cx [] [] [] [] [] [] []
noncomputable def sem (k : Nat) : Sem := D.sem (D.ev (C k) k)
noncomputable def f (k : Nat) (p0 : Int) : Option (Int × Unit) := D.ev (C k) k (p0, ())
theorem s (k : Nat) (p0 : Int) : f k p0 =
 (if (decide (p0 > 9999)) = true then
  some (9999, ())
 else
  if (decide (p0 < (-9999))) = true then
   some ((-9999), ())
  else
   some (p0, ())) := by kernel_rfl
theorem ok (k : Nat) : Ok Tryz.prog 217 (sem k) := Fd.ok (cx_ok trivial) ⟨Tryz.func217, rfl, by kernel_rfl⟩ rfl
attribute [irreducible] f
end spec_l1Held
/-! loop.example/wholecheck/spec.l1Truth -/
namespace spec_l1Truth
noncomputable def D : Fd := ⟨Tryz.f120, 1, I, .sh, [.sh], .unit, h43⟩
noncomputable def C (k : Nat) : Ctx := cx [] [] [] [] [] [] []
noncomputable def sem (k : Nat) : Sem := D.sem (D.ev (C k) k)
noncomputable def f (k : Nat) (p0 : Bool) : Option (Int × Unit) := D.ev (C k) k (p0, ())
theorem s (k : Nat) (p0 : Bool) : f k p0 =
 (if p0 = true then
  some (1, ())
 else
  some (0, ())) := by kernel_rfl
theorem ok (k : Nat) : Ok Tryz.prog 120 (sem k) := Fd.ok (cx_ok trivial) ⟨Tryz.func120, rfl, by kernel_rfl⟩ rfl
attribute [irreducible] f
end spec_l1Truth
/-! loop.example/wholecheck/spec.l1Do -/
namespace spec_l1Do
noncomputable def D : Fd := ⟨Tryz.f204, 1, I, .sh, [.sh, .sh, .sh], .unit, h35⟩
noncomputable def C (k : Nat) : Ctx := cx [(217, spec_l1Held.sem k), (120, spec_l1Truth.sem k)] [] [] [] [] [] []
noncomputable def sem (k : Nat) : Sem := D.sem (D.ev (C k) k)
noncomputable def f (k : Nat) (p0 p1 p2 : Int) : Option (Int × Unit) := D.ev (C k) k (p0, p1, p2, ())
theorem s (k : Nat) (p0 p1 p2 : Int) : f k p0 p1 p2 =
 (if (p0 == 2) = true then
  (spec_l1Held.f k (w64 (p1 + p2))).bind fun r1 =>
  some (r1.1, ())
 else
  if (p0 == 3) = true then
   (spec_l1Held.f k (w64 (p1 - p2))).bind fun r2 =>
   some (r2.1, ())
  else
   if (p0 == 4) = true then
    (spec_l1Held.f k (w64 (p1 * p2))).bind fun r3 =>
    some (r3.1, ())
   else
    if (p0 == 5) = true then
     (spec_l1Truth.f k (decide (p1 < p2))).bind fun r4 =>
     some (r4.1, ())
    else
     if (p0 == 6) = true then
      (spec_l1Truth.f k (p1 == p2)).bind fun r5 =>
      some (r5.1, ())
     else
      if (p0 == 7) = true then
       some (w64 (1 - p1), ())
      else
       if (p0 == 8) = true then
        some (w64 (p1 * p2), ())
       else
        (spec_l1Truth.f k (decide ((w64 (p1 + p2)) > 0))).bind fun r6 =>
        some (r6.1, ())) := by kernel_rfl
theorem ok (k : Nat) : Ok Tryz.prog 204 (sem k) := Fd.ok (cx_ok ⟨spec_l1Held.ok k, spec_l1Truth.ok k, trivial⟩) ⟨Tryz.func204, rfl, by kernel_rfl⟩ rfl
attribute [irreducible] f
end spec_l1Do
/-! loop.example/wholecheck/spec.l1Values -/
namespace spec_l1Values
noncomputable def D : Fd := ⟨Tryz.f178, 1, h9, (.ow .sh), [.sh, .sh], .unit, h44⟩
noncomputable def C (k : Nat) : Ctx := cx [(204, spec_l1Do.sem k)] [((10, 16), 3)] [(3, [(0, none), (1, none), (5, none), (6, none)])] [] [(10, [0, 1, 2, 3, 4, 5, 6, 7, 8, 9, 10, 11, 12, 13, 14, 15, 16])] [] []
noncomputable def sem (k : Nat) : Sem := D.sem (D.ev (C k) k)
noncomputable def f (k : Nat) (p0 : y2) (p1 : (List Int)) : Option ((List Int) × Unit) := D.ev (C k) k (p0, p1, ())
noncomputable def l3 (k : Nat) (p0 : y2) (p1 : (List Int)) (n : Nat) (v5_3 : (List Int)) (v6_3 : Int) : Option ((List Int) × Unit) :=
 D.lp (C k) k 3 [1, 1, 0, 1, 0] [] n [(6, vI v6_3), (5, vO h9 v5_3), (1, vS h9 p1), (0, vS h7 p0)]
theorem s3 (k : Nat) (p0 : y2) (p1 : (List Int)) (n : Nat) (v5_3 : (List Int)) (v6_3 : Int) : l3 k p0 p1 (n + 1) v5_3 v6_3 =
 (if (decide (v6_3 < ((p0.length : Int)))) = true then
  gd ((0 : Int) ≤ v6_3) <| gd (v6_3 < (p0.length : Int)) <| if ((p0.getD (v6_3.toNat) (0, (0, (0, 0)))).1 == 0) = true then
   gd ((v5_3.length : Int) + ([(p0.getD (v6_3.toNat) (0, (0, (0, 0)))).2.1].length : Int) ≤ 1099511627776) <| l3 k p0 p1 n (v5_3 ++ [(p0.getD (v6_3.toNat) (0, (0, (0, 0)))).2.1]) (w64 (v6_3 + 1))
  else
   if ((p0.getD (v6_3.toNat) (0, (0, (0, 0)))).1 == 1) = true then
    gd ((0 : Int) ≤ (p0.getD (v6_3.toNat) (0, (0, (0, 0)))).2.1) <| gd ((p0.getD (v6_3.toNat) (0, (0, (0, 0)))).2.1 < (p1.length : Int)) <| gd ((v5_3.length : Int) + ([(p1.getD ((p0.getD (v6_3.toNat) (0, (0, (0, 0)))).2.1.toNat) 0)].length : Int) ≤ 1099511627776) <| l3 k p0 p1 n (v5_3 ++ [(p1.getD ((p0.getD (v6_3.toNat) (0, (0, (0, 0)))).2.1.toNat) 0)]) (w64 (v6_3 + 1))
   else
    gd ((0 : Int) ≤ (p0.getD (v6_3.toNat) (0, (0, (0, 0)))).2.2.1) <| gd ((p0.getD (v6_3.toNat) (0, (0, (0, 0)))).2.2.1 < (v5_3.length : Int)) <| gd ((0 : Int) ≤ (p0.getD (v6_3.toNat) (0, (0, (0, 0)))).2.2.2) <| gd ((p0.getD (v6_3.toNat) (0, (0, (0, 0)))).2.2.2 < (v5_3.length : Int)) <| (spec_l1Do.f k (p0.getD (v6_3.toNat) (0, (0, (0, 0)))).1 (v5_3.getD ((p0.getD (v6_3.toNat) (0, (0, (0, 0)))).2.2.1.toNat) 0) (v5_3.getD ((p0.getD (v6_3.toNat) (0, (0, (0, 0)))).2.2.2.toNat) 0)).bind fun r1 =>
    gd ((v5_3.length : Int) + ([r1.1].length : Int) ≤ 1099511627776) <| l3 k p0 p1 n (v5_3 ++ [r1.1]) (w64 (v6_3 + 1))
 else
  some (v5_3, ())) := by kernel_rfl
theorem z3 (k : Nat) (p0 : y2) (p1 : (List Int)) (v5_3 : (List Int)) (v6_3 : Int) : l3 k p0 p1 0 v5_3 v6_3 = none := by kernel_rfl
theorem s (k : Nat) (p0 : y2) (p1 : (List Int)) : f k p0 p1 =
 (l3 k p0 p1 k [] 0) := by kernel_rfl
theorem ok (k : Nat) : Ok Tryz.prog 178 (sem k) := Fd.ok (cx_ok ⟨spec_l1Do.ok k, trivial⟩) ⟨Tryz.func178, rfl, by kernel_rfl⟩ rfl
attribute [irreducible] f l3
end spec_l1Values
/-! loop.example/wholecheck/spec.l2Last -/
namespace spec_l2Last
noncomputable def D : Fd := ⟨Tryz.f143, 1, I, .sh, [.sh, .sh], .unit, h44⟩
noncomputable def C (k : Nat) : Ctx := cx [(178, spec_l1Values.sem k)] [] [] [] [] [] []
noncomputable def sem (k : Nat) : Sem := D.sem (D.ev (C k) k)
noncomputable def f (k : Nat) (p0 : y2) (p1 : (List Int)) : Option (Int × Unit) := D.ev (C k) k (p0, p1, ())
theorem s (k : Nat) (p0 : y2) (p1 : (List Int)) : f k p0 p1 =
 ((spec_l1Values.f k p0 p1).bind fun r1 =>
 gd ((0 : Int) ≤ (w64 (((p0.length : Int)) - 1))) <| gd ((w64 (((p0.length : Int)) - 1)) < (r1.1.length : Int)) <| some (r1.1.getD ((w64 (((p0.length : Int)) - 1)).toNat) 0, ())) := by kernel_rfl
theorem ok (k : Nat) : Ok Tryz.prog 143 (sem k) := Fd.ok (cx_ok ⟨spec_l1Values.ok k, trivial⟩) ⟨Tryz.func143, rfl, by kernel_rfl⟩ rfl
attribute [irreducible] f
end spec_l2Last
/-! loop.example/wholecheck/spec.StatesWhere -/
namespace spec_StatesWhere
noncomputable def D : Fd := ⟨Tryz.f82, 1, h9, (.ow .sh), [.sh, .sh], .unit, h45⟩
noncomputable def C (k : Nat) : Ctx := cx [(142, spec_SystemValid.sem k), (80, spec_l2Is.sem k), (127, spec_SizeOf.sem k), (129, spec_l4State.sem k), (143, spec_l2Last.sem k)] [] [(5, [(1, none), (2, none), (5, none), (6, none)])] [] [] [] []
noncomputable def sem (k : Nat) : Sem := D.sem (D.ev (C k) k)
noncomputable def f (k : Nat) (p0 : y7) (p1 : y2) : Option ((List Int) × Unit) := D.ev (C k) k (p0, p1, ())
noncomputable def l5 (k : Nat) (p0 : y7) (p1 : y2) (n : Nat) (v5_5 : (List Int)) (v6_5 : Int) : Option ((List Int) × Unit) :=
 D.lp (C k) k 5 [1, 1, 1, 0, 1, 0] [] n [(6, vI v6_5), (5, vO h9 v5_5), (2, .val h40 (.ow .sh) p0), (1, vS h7 p1)]
theorem s5 (k : Nat) (p0 : y7) (p1 : y2) (n : Nat) (v5_5 : (List Int)) (v6_5 : Int) : l5 k p0 p1 (n + 1) v5_5 v6_5 =
 ((spec_SizeOf.f k p0).bind fun r3 =>
 if (decide (v6_5 < r3.1)) = true then
  (spec_l4State.f k p0 v6_5).bind fun r4 =>
  (spec_l2Last.f k p1 r4.1).bind fun r5 =>
  if (r5.1 == 1) = true then
   gd ((v5_5.length : Int) + ([v6_5].length : Int) ≤ 1099511627776) <| l5 k p0 p1 n (v5_5 ++ [v6_5]) (w64 (v6_5 + 1))
  else
   l5 k p0 p1 n v5_5 (w64 (v6_5 + 1))
 else
  some (v5_5, ())) := by kernel_rfl
theorem z5 (k : Nat) (p0 : y7) (p1 : y2) (v5_5 : (List Int)) (v6_5 : Int) : l5 k p0 p1 0 v5_5 v6_5 = none := by kernel_rfl
theorem s (k : Nat) (p0 : y7) (p1 : y2) : f k p0 p1 =
 ((spec_SystemValid.f k p0).bind fun r1 =>
 if (!r1.1) = true then
  some ([], ())
 else
  (spec_l2Is.f k p1 ((p0.1.length : Int)) 2).bind fun r2 =>
  if (!r2.1) = true then
   some ([], ())
  else
   l5 k p0 p1 k [] 0) := by kernel_rfl
theorem ok (k : Nat) : Ok Tryz.prog 82 (sem k) := Fd.ok (cx_ok ⟨spec_SystemValid.ok k, spec_l2Is.ok k, spec_SizeOf.ok k, spec_l4State.ok k, spec_l2Last.ok k, trivial⟩) ⟨Tryz.func82, rfl, by kernel_rfl⟩ rfl
attribute [irreducible] f l5
end spec_StatesWhere
/-! loop.example/wholecheck/spec.l4Marks -/
namespace spec_l4Marks
noncomputable def D : Fd := ⟨Tryz.f102, 1, h46, (.ow .sh), [.sh, .sh], .unit, h10⟩
noncomputable def C (k : Nat) : Ctx := cx [] [] [(3, [(0, none), (5, none), (6, none)])] [] [] [] []
noncomputable def sem (k : Nat) : Sem := D.sem (D.ev (C k) k)
noncomputable def f (k : Nat) (p0 : (List Int)) (p1 : Int) : Option ((List Bool) × Unit) := D.ev (C k) k (p0, p1, ())
noncomputable def l3 (k : Nat) (p0 : (List Int)) (n : Nat) (v5_3 : (List Bool)) (v6_3 : Int) : Option ((List Bool) × Unit) :=
 D.lp (C k) k 3 [1, 1, 0, 1, 0] [] n [(6, vI v6_3), (5, vO h46 v5_3), (0, vS h9 p0)]
theorem s3 (k : Nat) (p0 : (List Int)) (n : Nat) (v5_3 : (List Bool)) (v6_3 : Int) : l3 k p0 (n + 1) v5_3 v6_3 =
 (if (decide (v6_3 < ((p0.length : Int)))) = true then
  gd ((0 : Int) ≤ v6_3) <| gd (v6_3 < (p0.length : Int)) <| gd ((0 : Int) ≤ (p0.getD (v6_3.toNat) 0)) <| gd ((p0.getD (v6_3.toNat) 0) < (v5_3.length : Int)) <| l3 k p0 n (v5_3.set ((p0.getD (v6_3.toNat) 0).toNat) true) (w64 (v6_3 + 1))
 else
  some (v5_3, ())) := by kernel_rfl
theorem z3 (k : Nat) (p0 : (List Int)) (v5_3 : (List Bool)) (v6_3 : Int) : l3 k p0 0 v5_3 v6_3 = none := by kernel_rfl
theorem s (k : Nat) (p0 : (List Int)) (p1 : Int) : f k p0 p1 =
 (gd ((0 : Int) ≤ p1) <| gd ((p1 : Int) ≤ 1099511627776) <| l3 k p0 k ((List.replicate p1.toNat false : (List Bool))) 0) := by kernel_rfl
theorem ok (k : Nat) : Ok Tryz.prog 102 (sem k) := Fd.ok (cx_ok trivial) ⟨Tryz.func102, rfl, by kernel_rfl⟩ rfl
attribute [irreducible] f l3
end spec_l4Marks
/-! loop.example/wholecheck/spec.l15Good -/
namespace spec_l15Good
noncomputable def D : Fd := ⟨Tryz.f90, 1, h46, (.ow .sh), [.sh, .sh], .unit, h45⟩
noncomputable def C (k : Nat) : Ctx := cx [(82, spec_StatesWhere.sem k), (127, spec_SizeOf.sem k), (102, spec_l4Marks.sem k)] [] [] [] [(1, [0, 1, 3, 2, 4, 5, 6])] [((1, 2), [2])] []
noncomputable def sem (k : Nat) : Sem := D.sem (D.ev (C k) k)
noncomputable def f (k : Nat) (p0 : y7) (p1 : y2) : Option ((List Bool) × Unit) := D.ev (C k) k (p0, p1, ())
theorem s (k : Nat) (p0 : y7) (p1 : y2) : f k p0 p1 =
 ((spec_StatesWhere.f k p0 p1).bind fun r1 =>
 (spec_SizeOf.f k p0).bind fun r2 =>
 (spec_l4Marks.f k r1.1 r2.1).bind fun r3 =>
 some (r3.1, ())) := by kernel_rfl
theorem ok (k : Nat) : Ok Tryz.prog 90 (sem k) := Fd.ok (cx_ok ⟨spec_StatesWhere.ok k, spec_SizeOf.ok k, spec_l4Marks.ok k, trivial⟩) ⟨Tryz.func90, rfl, by kernel_rfl⟩ rfl
attribute [irreducible] f
end spec_l15Good
/-! loop.example/wholecheck/spec.l2In -/
namespace spec_l2In
noncomputable def D : Fd := ⟨Tryz.f166, 1, .bool, .sh, [.sh, .sh], .unit, h47⟩
noncomputable def C (k : Nat) : Ctx := cx [(96, spec_l1In.sem k)] [] [(4, [(1, none), (2, none), (5, none)])] [] [(6, [0, 1, 2, 3, 4, 5, 6, 7, 8, 9, 10, 11, 12, 13, 14, 15, 16, 17])] [] []
noncomputable def sem (k : Nat) : Sem := D.sem (D.ev (C k) k)
noncomputable def f (k : Nat) (p0 : y7) (p1 : (List Int)) : Option (Bool × Unit) := D.ev (C k) k (p0, p1, ())
noncomputable def l4 (k : Nat) (p0 : y7) (p1 : (List Int)) (n : Nat) (v5_4 : Int) : Option (Bool × Unit) :=
 D.lp (C k) k 4 [1, 1, 0, 1, 0] [] n [(5, vI v5_4), (2, .val h40 (.ow .sh) p0), (1, vS h9 p1)]
theorem s4 (k : Nat) (p0 : y7) (p1 : (List Int)) (n : Nat) (v5_4 : Int) : l4 k p0 p1 (n + 1) v5_4 =
 (if (decide (v5_4 < ((p1.length : Int)))) = true then
  gd ((0 : Int) ≤ v5_4) <| gd (v5_4 < (p1.length : Int)) <| gd ((0 : Int) ≤ v5_4) <| gd (v5_4 < (p0.1.length : Int)) <| gd ((0 : Int) ≤ v5_4) <| gd (v5_4 < (p0.1.length : Int)) <| (spec_l1In.f k (p1.getD (v5_4.toNat) 0) (p0.1.getD (v5_4.toNat) (0, (0, 0))).1 (p0.1.getD (v5_4.toNat) (0, (0, 0))).2.1).bind fun r1 =>
  if (!r1.1) = true then
   some (false, ())
  else
   l4 k p0 p1 n (w64 (v5_4 + 1))
 else
  some (true, ())) := by kernel_rfl
theorem z4 (k : Nat) (p0 : y7) (p1 : (List Int)) (v5_4 : Int) : l4 k p0 p1 0 v5_4 = none := by kernel_rfl
theorem s (k : Nat) (p0 : y7) (p1 : (List Int)) : f k p0 p1 =
 (if (((p1.length : Int)) != ((p0.1.length : Int))) = true then
  some (false, ())
 else
  l4 k p0 p1 k 0) := by kernel_rfl
theorem ok (k : Nat) : Ok Tryz.prog 166 (sem k) := Fd.ok (cx_ok ⟨spec_l1In.ok k, trivial⟩) ⟨Tryz.func166, rfl, by kernel_rfl⟩ rfl
attribute [irreducible] f l4
end spec_l2In
/-! loop.example/wholecheck/spec.l2Use -/
namespace spec_l2Use
noncomputable def D : Fd := ⟨Tryz.f164, 1, h9, (.ow .sh), [.sh, .sh, .sh], .unit, h48⟩
noncomputable def C (k : Nat) : Ctx := cx [(143, spec_l2Last.sem k), (166, spec_l2In.sem k)] [] [(6, [(1, none), (3, none), (7, none), (8, none), (9, none)]), (10, [(1, none), (3, none), (7, none), (8, none), (10, none)])] [] [(12, [0, 1, 2, 3, 4, 5, 6, 7, 8, 9, 10, 11, 12, 13, 14])] [((12, 12), [7])] []
noncomputable def sem (k : Nat) : Sem := D.sem (D.ev (C k) k)
noncomputable def f (k : Nat) (p0 : y7) (p1 : (List Int)) (p2 : Int) : Option ((List Int) × Unit) := D.ev (C k) k (p0, p1, p2, ())
noncomputable def l6 (k : Nat) (p0 : y7) (p1 : (List Int)) (p2 : Int) (n : Nat) (v8_6 : (List Int)) (v9_6 : Int) : Option ((List Int) × Unit) :=
 D.lp (C k) k 6 [1, 1, 1, 1, 0, 1, 0] [] n [(9, vI v9_6), (8, vO h9 v8_6), (7, .val h39 (.ow .sh) (p0.2.getD (p2.toNat) ([], ([], [])))), (3, .val h40 (.ow .sh) p0), (1, vS h9 p1)]
noncomputable def l10 (k : Nat) (p0 : y7) (p1 : (List Int)) (p2 : Int) (n : Nat) (v8_10 : (List Int)) (v10_10 : Int) : Option ((List Int) × Unit) :=
 D.lp (C k) k 10 [1, 1, 1, 1, 1, 0, 1, 0] [] n [(10, vI v10_10), (8, vO h9 v8_10), (7, .val h39 (.ow .sh) (p0.2.getD (p2.toNat) ([], ([], [])))), (3, .val h40 (.ow .sh) p0), (1, vS h9 p1)]
theorem s10 (k : Nat) (p0 : y7) (p1 : (List Int)) (p2 : Int) (n : Nat) (v8_10 : (List Int)) (v10_10 : Int) : l10 k p0 p1 p2 (n + 1) v8_10 v10_10 =
 (if (decide (v10_10 < (((p0.2.getD (p2.toNat) ([], ([], []))).2.1.length : Int)))) = true then
  gd ((0 : Int) ≤ v10_10) <| gd (v10_10 < ((p0.2.getD (p2.toNat) ([], ([], []))).2.1.length : Int)) <| gd ((0 : Int) ≤ v10_10) <| gd (v10_10 < ((p0.2.getD (p2.toNat) ([], ([], []))).2.2.length : Int)) <| (spec_l2Last.f k ((p0.2.getD (p2.toNat) ([], ([], []))).2.2.getD (v10_10.toNat) []) p1).bind fun r2 =>
  gd ((0 : Int) ≤ ((p0.2.getD (p2.toNat) ([], ([], []))).2.1.getD (v10_10.toNat) 0)) <| gd (((p0.2.getD (p2.toNat) ([], ([], []))).2.1.getD (v10_10.toNat) 0) < (v8_10.length : Int)) <| l10 k p0 p1 p2 n (v8_10.set (((p0.2.getD (p2.toNat) ([], ([], []))).2.1.getD (v10_10.toNat) 0).toNat) r2.1) (w64 (v10_10 + 1))
 else
  (spec_l2In.f k p0 v8_10).bind fun r3 =>
  if (!r3.1) = true then
   some ([], ())
  else
   some (v8_10, ())) := by kernel_rfl
theorem z10 (k : Nat) (p0 : y7) (p1 : (List Int)) (p2 : Int) (v8_10 : (List Int)) (v10_10 : Int) : l10 k p0 p1 p2 0 v8_10 v10_10 = none := by kernel_rfl
theorem s6 (k : Nat) (p0 : y7) (p1 : (List Int)) (p2 : Int) (n : Nat) (v8_6 : (List Int)) (v9_6 : Int) : l6 k p0 p1 p2 (n + 1) v8_6 v9_6 =
 (if (decide (v9_6 < ((p1.length : Int)))) = true then
  gd ((0 : Int) ≤ v9_6) <| gd (v9_6 < (p1.length : Int)) <| gd ((v8_6.length : Int) + ([(p1.getD (v9_6.toNat) 0)].length : Int) ≤ 1099511627776) <| l6 k p0 p1 p2 n (v8_6 ++ [(p1.getD (v9_6.toNat) 0)]) (w64 (v9_6 + 1))
 else
  l10 k p0 p1 p2 k v8_6 0) := by kernel_rfl
theorem z6 (k : Nat) (p0 : y7) (p1 : (List Int)) (p2 : Int) (v8_6 : (List Int)) (v9_6 : Int) : l6 k p0 p1 p2 0 v8_6 v9_6 = none := by kernel_rfl
theorem s (k : Nat) (p0 : y7) (p1 : (List Int)) (p2 : Int) : f k p0 p1 p2 =
 (gd ((0 : Int) ≤ p2) <| gd (p2 < (p0.2.length : Int)) <| (spec_l2Last.f k (p0.2.getD (p2.toNat) ([], ([], []))).1 p1).bind fun r1 =>
 if (r1.1 == 0) = true then
  some ([], ())
 else
  l6 k p0 p1 p2 k [] 0) := by kernel_rfl
theorem ok (k : Nat) : Ok Tryz.prog 164 (sem k) := Fd.ok (cx_ok ⟨spec_l2Last.ok k, spec_l2In.ok k, trivial⟩) ⟨Tryz.func164, rfl, by kernel_rfl⟩ rfl
attribute [irreducible] f l6 l10
end spec_l2Use
/-! loop.example/wholecheck/spec.l2Same -/
namespace spec_l2Same
noncomputable def D : Fd := ⟨Tryz.f159, 1, .bool, .sh, [.sh, .sh], .unit, h49⟩
noncomputable def C (k : Nat) : Ctx := cx [] [] [(4, [(0, none), (1, none), (5, none)])] [] [(6, [0, 1, 2, 3, 4, 5, 6, 7, 8])] [] []
noncomputable def sem (k : Nat) : Sem := D.sem (D.ev (C k) k)
noncomputable def f (k : Nat) (p0 p1 : (List Int)) : Option (Bool × Unit) := D.ev (C k) k (p0, p1, ())
noncomputable def l4 (k : Nat) (p0 p1 : (List Int)) (n : Nat) (v5_4 : Int) : Option (Bool × Unit) :=
 D.lp (C k) k 4 [1, 1, 0, 1, 0] [] n [(5, vI v5_4), (1, vS h9 p1), (0, vS h9 p0)]
theorem s4 (k : Nat) (p0 p1 : (List Int)) (n : Nat) (v5_4 : Int) : l4 k p0 p1 (n + 1) v5_4 =
 (if (decide (v5_4 < ((p0.length : Int)))) = true then
  gd ((0 : Int) ≤ v5_4) <| gd (v5_4 < (p0.length : Int)) <| gd ((0 : Int) ≤ v5_4) <| gd (v5_4 < (p1.length : Int)) <| if ((p0.getD (v5_4.toNat) 0) != (p1.getD (v5_4.toNat) 0)) = true then
   some (false, ())
  else
   l4 k p0 p1 n (w64 (v5_4 + 1))
 else
  some (true, ())) := by kernel_rfl
theorem z4 (k : Nat) (p0 p1 : (List Int)) (v5_4 : Int) : l4 k p0 p1 0 v5_4 = none := by kernel_rfl
theorem s (k : Nat) (p0 p1 : (List Int)) : f k p0 p1 =
 (if (((p0.length : Int)) != ((p1.length : Int))) = true then
  some (false, ())
 else
  l4 k p0 p1 k 0) := by kernel_rfl
theorem ok (k : Nat) : Ok Tryz.prog 159 (sem k) := Fd.ok (cx_ok trivial) ⟨Tryz.func159, rfl, by kernel_rfl⟩ rfl
attribute [irreducible] f l4
end spec_l2Same
/-! loop.example/wholecheck/spec.l2Less -/
namespace spec_l2Less
noncomputable def D : Fd := ⟨Tryz.f188, 1, .bool, .sh, [.sh, .sh], .unit, h49⟩
noncomputable def C (k : Nat) : Ctx := cx [] [] [(2, [(0, none), (1, none), (5, none)])] [] [(4, [0, 1, 2, 3, 4, 5, 6, 7, 8]), (5, [0, 1, 2, 3, 4, 5, 6, 7, 8, 9])] [] []
noncomputable def sem (k : Nat) : Sem := D.sem (D.ev (C k) k)
noncomputable def f (k : Nat) (p0 p1 : (List Int)) : Option (Bool × Unit) := D.ev (C k) k (p0, p1, ())
noncomputable def l2 (k : Nat) (p0 p1 : (List Int)) (n : Nat) (v5_2 : Int) : Option (Bool × Unit) :=
 D.lp (C k) k 2 [1, 0, 1, 0] [] n [(5, vI v5_2), (1, vS h9 p1), (0, vS h9 p0)]
theorem s2 (k : Nat) (p0 p1 : (List Int)) (n : Nat) (v5_2 : Int) : l2 k p0 p1 (n + 1) v5_2 =
 (if (decide (v5_2 < ((p0.length : Int)))) = true then
  if (decide (v5_2 < ((p1.length : Int)))) = true then
   gd ((0 : Int) ≤ v5_2) <| gd (v5_2 < (p0.length : Int)) <| gd ((0 : Int) ≤ v5_2) <| gd (v5_2 < (p1.length : Int)) <| if ((p0.getD (v5_2.toNat) 0) != (p1.getD (v5_2.toNat) 0)) = true then
    gd ((0 : Int) ≤ v5_2) <| gd (v5_2 < (p0.length : Int)) <| gd ((0 : Int) ≤ v5_2) <| gd (v5_2 < (p1.length : Int)) <| some (decide ((p0.getD (v5_2.toNat) 0) < (p1.getD (v5_2.toNat) 0)), ())
   else
    l2 k p0 p1 n (w64 (v5_2 + 1))
  else
   some (decide (((p0.length : Int)) < ((p1.length : Int))), ())
 else
  some (decide (((p0.length : Int)) < ((p1.length : Int))), ())) := by kernel_rfl
theorem z2 (k : Nat) (p0 p1 : (List Int)) (v5_2 : Int) : l2 k p0 p1 0 v5_2 = none := by kernel_rfl
theorem s (k : Nat) (p0 p1 : (List Int)) : f k p0 p1 =
 (l2 k p0 p1 k 0) := by kernel_rfl
theorem ok (k : Nat) : Ok Tryz.prog 188 (sem k) := Fd.ok (cx_ok trivial) ⟨Tryz.func188, rfl, by kernel_rfl⟩ rfl
attribute [irreducible] f l2
end spec_l2Less
/-! loop.example/wholecheck/spec.l2Put -/
namespace spec_l2Put
noncomputable def D : Fd := ⟨Tryz.f165, 1, h50, (.ow .sh), [.sh, .sh], .unit, h51⟩
noncomputable def C (k : Nat) : Ctx := cx [(159, spec_l2Same.sem k), (188, spec_l2Less.sem k)] [] [(4, [(0, none), (1, none), (5, some (h50, (.ow .sh))), (6, none), (7, none)])] [] [] [] [(8, [(0, none), (1, none), (5, none), (6, none), (7, none)])]
noncomputable def sem (k : Nat) : Sem := D.sem (D.ev (C k) k)
noncomputable def f (k : Nat) (p0 : (List (List Int))) (p1 : (List Int)) : Option ((List (List Int)) × Unit) := D.ev (C k) k (p0, p1, ())
noncomputable def l4 (k : Nat) (p0 : (List (List Int))) (p1 : (List Int)) (n : Nat) (v5_4 : (List (List Int))) (v6_4 : Bool) (v7_4 : Int) : Option ((List (List Int)) × Unit) :=
 D.lp (C k) k 4 [1, 1, 1, 0, 1, 0] [] n [(7, vI v7_4), (6, vB v6_4), (5, .val h50 (.ow .sh) v5_4), (1, vS h9 p1), (0, vS h50 p0)]
noncomputable def lj8 (k n4 : Nat) (p0 : (List (List Int))) (p1 : (List Int)) (v5_4 : (List (List Int))) (v7_4 : Int) (n : Nat) (v6_j8 : Bool) : Option ((List (List Int)) × Unit) :=
 D.jn (C k) k 8 [1, 1, 1, 0, 1, 0, 0, 1, 0, 0] [n4] n [(7, vI v7_4), (6, vB v6_j8), (5, .val h50 (.ow .sh) v5_4), (1, vS h9 p1), (0, vS h50 p0)]
theorem sj8 (k n4 : Nat) (p0 : (List (List Int))) (p1 : (List Int)) (v5_4 : (List (List Int))) (v7_4 : Int) (n : Nat) (v6_j8 : Bool) : lj8 k n4 p0 p1 v5_4 v7_4 (n + 1) v6_j8 =
 (if (!v6_j8) = true then
  gd ((0 : Int) ≤ v7_4) <| gd (v7_4 < (p0.length : Int)) <| (spec_l2Less.f k p1 (p0.getD (v7_4.toNat) [])).bind fun r2 =>
  if r2.1 = true then
   gd ((v5_4.length : Int) + ([p1].length : Int) ≤ 1099511627776) <| gd ((0 : Int) ≤ v7_4) <| gd (v7_4 < (p0.length : Int)) <| gd (((v5_4 ++ [p1]).length : Int) + ([(p0.getD (v7_4.toNat) [])].length : Int) ≤ 1099511627776) <| l4 k p0 p1 n4 ((v5_4 ++ [p1]) ++ [(p0.getD (v7_4.toNat) [])]) true (w64 (v7_4 + 1))
  else
   gd ((0 : Int) ≤ v7_4) <| gd (v7_4 < (p0.length : Int)) <| gd ((v5_4.length : Int) + ([(p0.getD (v7_4.toNat) [])].length : Int) ≤ 1099511627776) <| l4 k p0 p1 n4 (v5_4 ++ [(p0.getD (v7_4.toNat) [])]) v6_j8 (w64 (v7_4 + 1))
 else
  gd ((0 : Int) ≤ v7_4) <| gd (v7_4 < (p0.length : Int)) <| gd ((v5_4.length : Int) + ([(p0.getD (v7_4.toNat) [])].length : Int) ≤ 1099511627776) <| l4 k p0 p1 n4 (v5_4 ++ [(p0.getD (v7_4.toNat) [])]) v6_j8 (w64 (v7_4 + 1))) := by kernel_rfl
theorem zj8 (k n4 : Nat) (p0 : (List (List Int))) (p1 : (List Int)) (v5_4 : (List (List Int))) (v7_4 : Int) (v6_j8 : Bool) : lj8 k n4 p0 p1 v5_4 v7_4 0 v6_j8 = none := by kernel_rfl
theorem s4 (k : Nat) (p0 : (List (List Int))) (p1 : (List Int)) (n : Nat) (v5_4 : (List (List Int))) (v6_4 : Bool) (v7_4 : Int) : l4 k p0 p1 (n + 1) v5_4 v6_4 v7_4 =
 (if (decide (v7_4 < ((p0.length : Int)))) = true then
  if (!v6_4) = true then
   gd ((0 : Int) ≤ v7_4) <| gd (v7_4 < (p0.length : Int)) <| (spec_l2Same.f k (p0.getD (v7_4.toNat) []) p1).bind fun r1 =>
   if r1.1 = true then
    lj8 k n p0 p1 v5_4 v7_4 k true
   else
    lj8 k n p0 p1 v5_4 v7_4 k v6_4
  else
   lj8 k n p0 p1 v5_4 v7_4 k v6_4
 else
  if (!v6_4) = true then
   gd ((v5_4.length : Int) + ([p1].length : Int) ≤ 1099511627776) <| some (v5_4 ++ [p1], ())
  else
   some (v5_4, ())) := by kernel_rfl
theorem z4 (k : Nat) (p0 : (List (List Int))) (p1 : (List Int)) (v5_4 : (List (List Int))) (v6_4 : Bool) (v7_4 : Int) : l4 k p0 p1 0 v5_4 v6_4 v7_4 = none := by kernel_rfl
theorem s (k : Nat) (p0 : (List (List Int))) (p1 : (List Int)) : f k p0 p1 =
 (l4 k p0 p1 k [] false 0) := by kernel_rfl
theorem ok (k : Nat) : Ok Tryz.prog 165 (sem k) := Fd.ok (cx_ok ⟨spec_l2Same.ok k, spec_l2Less.ok k, trivial⟩) ⟨Tryz.func165, rfl, by kernel_rfl⟩ rfl
attribute [irreducible] f l4 lj8
end spec_l2Put
/-! loop.example/wholecheck/spec.l2Next -/
namespace spec_l2Next
noncomputable def D : Fd := ⟨Tryz.f128, 1, h50, (.ow .sh), [.sh, .sh], .unit, h47⟩
noncomputable def C (k : Nat) : Ctx := cx [(164, spec_l2Use.sem k), (165, spec_l2Put.sem k)] [] [(3, [(1, none), (2, none), (5, some (h50, (.ow .sh))), (6, none)])] [] [] [] []
noncomputable def sem (k : Nat) : Sem := D.sem (D.ev (C k) k)
noncomputable def f (k : Nat) (p0 : y7) (p1 : (List Int)) : Option ((List (List Int)) × Unit) := D.ev (C k) k (p0, p1, ())
noncomputable def l3 (k : Nat) (p0 : y7) (p1 : (List Int)) (n : Nat) (v5_3 : (List (List Int))) (v6_3 : Int) : Option ((List (List Int)) × Unit) :=
 D.lp (C k) k 3 [1, 1, 0, 1, 0] [] n [(6, vI v6_3), (5, .val h50 (.ow .sh) v5_3), (2, .val h40 (.ow .sh) p0), (1, vS h9 p1)]
theorem s3 (k : Nat) (p0 : y7) (p1 : (List Int)) (n : Nat) (v5_3 : (List (List Int))) (v6_3 : Int) : l3 k p0 p1 (n + 1) v5_3 v6_3 =
 (if (decide (v6_3 < ((p0.2.length : Int)))) = true then
  (spec_l2Use.f k p0 p1 v6_3).bind fun r1 =>
  if (decide (((r1.1.length : Int)) > 0)) = true then
   (spec_l2Put.f k v5_3 r1.1).bind fun r2 =>
   l3 k p0 p1 n r2.1 (w64 (v6_3 + 1))
  else
   l3 k p0 p1 n v5_3 (w64 (v6_3 + 1))
 else
  some (v5_3, ())) := by kernel_rfl
theorem z3 (k : Nat) (p0 : y7) (p1 : (List Int)) (v5_3 : (List (List Int))) (v6_3 : Int) : l3 k p0 p1 0 v5_3 v6_3 = none := by kernel_rfl
theorem s (k : Nat) (p0 : y7) (p1 : (List Int)) : f k p0 p1 =
 (l3 k p0 p1 k [] 0) := by kernel_rfl
theorem ok (k : Nat) : Ok Tryz.prog 128 (sem k) := Fd.ok (cx_ok ⟨spec_l2Use.ok k, spec_l2Put.ok k, trivial⟩) ⟨Tryz.func128, rfl, by kernel_rfl⟩ rfl
attribute [irreducible] f l3
end spec_l2Next
/-! loop.example/wholecheck/spec.l4Number -/
namespace spec_l4Number
noncomputable def D : Fd := ⟨Tryz.f97, 1, I, .sh, [.sh, .sh], .unit, h47⟩
noncomputable def C (k : Nat) : Ctx := cx [] [((5, 28), 3)] [(3, [(1, none), (2, none), (5, none), (6, none)])] [] [(5, [0, 1, 2, 3, 4, 5, 6, 7, 8, 9, 10, 11, 12, 13, 14, 15, 16, 17, 18, 19, 20, 21, 22, 23, 24, 25, 26, 27, 28])] [] []
noncomputable def sem (k : Nat) : Sem := D.sem (D.ev (C k) k)
noncomputable def f (k : Nat) (p0 : y7) (p1 : (List Int)) : Option (Int × Unit) := D.ev (C k) k (p0, p1, ())
noncomputable def l3 (k : Nat) (p0 : y7) (p1 : (List Int)) (n : Nat) (v5_3 v6_3 : Int) : Option (Int × Unit) :=
 D.lp (C k) k 3 [1, 1, 0, 1, 0] [] n [(6, vI v6_3), (5, vI v5_3), (2, .val h40 (.ow .sh) p0), (1, vS h9 p1)]
theorem s3 (k : Nat) (p0 : y7) (p1 : (List Int)) (n : Nat) (v5_3 v6_3 : Int) : l3 k p0 p1 (n + 1) v5_3 v6_3 =
 (if (decide (v6_3 < ((p1.length : Int)))) = true then
  gd ((0 : Int) ≤ v6_3) <| gd (v6_3 < (p0.1.length : Int)) <| gd ((0 : Int) ≤ v6_3) <| gd (v6_3 < (p0.1.length : Int)) <| gd ((0 : Int) ≤ v6_3) <| gd (v6_3 < (p1.length : Int)) <| gd ((0 : Int) ≤ v6_3) <| gd (v6_3 < (p0.1.length : Int)) <| l3 k p0 p1 n (w64 ((w64 ((w64 (v5_3 * (w64 ((w64 ((p0.1.getD (v6_3.toNat) (0, (0, 0))).2.1 - (p0.1.getD (v6_3.toNat) (0, (0, 0))).1)) + 1)))) + (p1.getD (v6_3.toNat) 0))) - (p0.1.getD (v6_3.toNat) (0, (0, 0))).1)) (w64 (v6_3 + 1))
 else
  some (v5_3, ())) := by kernel_rfl
theorem z3 (k : Nat) (p0 : y7) (p1 : (List Int)) (v5_3 v6_3 : Int) : l3 k p0 p1 0 v5_3 v6_3 = none := by kernel_rfl
theorem s (k : Nat) (p0 : y7) (p1 : (List Int)) : f k p0 p1 =
 (l3 k p0 p1 k 0 0) := by kernel_rfl
theorem ok (k : Nat) : Ok Tryz.prog 97 (sem k) := Fd.ok (cx_ok trivial) ⟨Tryz.func97, rfl, by kernel_rfl⟩ rfl
attribute [irreducible] f l3
end spec_l4Number
/-! loop.example/wholecheck/spec.l4Steps -/
namespace spec_l4Steps
noncomputable def D : Fd := ⟨Tryz.f71, 1, h50, (.ow (.ow .sh)), [.sh], .unit, h32⟩
noncomputable def C (k : Nat) : Ctx := cx [(127, spec_SizeOf.sem k), (129, spec_l4State.sem k), (128, spec_l2Next.sem k), (97, spec_l4Number.sem k)] [((10, 9), 3)] [(3, [(1, none), (3, none), (4, none)]), (8, [(1, none), (3, none), (4, none), (5, none), (6, none), (7, none)])] [] [(5, [0, 1, 2, 3, 4, 5]), (10, [0, 1, 2, 3, 4, 5, 6, 7, 8, 9])] [((5, 3), [1])] []
noncomputable def sem (k : Nat) : Sem := D.sem (D.ev (C k) k)
noncomputable def f (k : Nat) (p0 : y7) : Option ((List (List Int)) × Unit) := D.ev (C k) k (p0, ())
noncomputable def l3 (k : Nat) (p0 : y7) (n : Nat) (v3_3 : (List (List Int))) (v4_3 : Int) : Option ((List (List Int)) × Unit) :=
 D.lp (C k) k 3 [1, 1, 0, 1, 0] [] n [(4, vI v4_3), (3, vO h50 v3_3), (1, .val h40 (.ow .sh) p0)]
noncomputable def l8 (k n3 : Nat) (p0 : y7) (v3_3 : (List (List Int))) (v4_3 : Int) (n : Nat) (v5_8 : (List (List Int))) (v6_8 : (List Int)) (v7_8 : Int) : Option ((List (List Int)) × Unit) :=
 D.lp (C k) k 8 [1, 1, 0, 1, 0, 0, 1, 0, 0, 1, 1, 0, 1, 0] [n3] n [(7, vI v7_8), (6, vO h9 v6_8), (5, .val h50 (.ow .sh) v5_8), (4, vI v4_3), (3, vO h50 v3_3), (1, .val h40 (.ow .sh) p0)]
theorem s8 (k n3 : Nat) (p0 : y7) (v3_3 : (List (List Int))) (v4_3 : Int) (n : Nat) (v5_8 : (List (List Int))) (v6_8 : (List Int)) (v7_8 : Int) : l8 k n3 p0 v3_3 v4_3 (n + 1) v5_8 v6_8 v7_8 =
 (if (decide (v7_8 < ((v5_8.length : Int)))) = true then
  gd ((0 : Int) ≤ v7_8) <| gd (v7_8 < (v5_8.length : Int)) <| (spec_l4Number.f k p0 (v5_8.getD (v7_8.toNat) [])).bind fun r4 =>
  gd ((v6_8.length : Int) + ([r4.1].length : Int) ≤ 1099511627776) <| l8 k n3 p0 v3_3 v4_3 n v5_8 (v6_8 ++ [r4.1]) (w64 (v7_8 + 1))
 else
  gd ((v3_3.length : Int) + ([v6_8].length : Int) ≤ 1099511627776) <| l3 k p0 n3 (v3_3 ++ [v6_8]) (w64 (v4_3 + 1))) := by kernel_rfl
theorem z8 (k n3 : Nat) (p0 : y7) (v3_3 : (List (List Int))) (v4_3 : Int) (v5_8 : (List (List Int))) (v6_8 : (List Int)) (v7_8 : Int) : l8 k n3 p0 v3_3 v4_3 0 v5_8 v6_8 v7_8 = none := by kernel_rfl
theorem s3 (k : Nat) (p0 : y7) (n : Nat) (v3_3 : (List (List Int))) (v4_3 : Int) : l3 k p0 (n + 1) v3_3 v4_3 =
 ((spec_SizeOf.f k p0).bind fun r1 =>
 if (decide (v4_3 < r1.1)) = true then
  (spec_l4State.f k p0 v4_3).bind fun r2 =>
  (spec_l2Next.f k p0 r2.1).bind fun r3 =>
  l8 k n p0 v3_3 v4_3 k r3.1 [] 0
 else
  some (v3_3, ())) := by kernel_rfl
theorem z3 (k : Nat) (p0 : y7) (v3_3 : (List (List Int))) (v4_3 : Int) : l3 k p0 0 v3_3 v4_3 = none := by kernel_rfl
theorem s (k : Nat) (p0 : y7) : f k p0 =
 (l3 k p0 k [] 0) := by kernel_rfl
theorem ok (k : Nat) : Ok Tryz.prog 71 (sem k) := Fd.ok (cx_ok ⟨spec_SizeOf.ok k, spec_l4State.ok k, spec_l2Next.ok k, spec_l4Number.ok k, trivial⟩) ⟨Tryz.func71, rfl, by kernel_rfl⟩ rfl
attribute [irreducible] f l3 l8
end spec_l4Steps
/-! loop.example/wholecheck/spec.l4List -/
namespace spec_l4List
noncomputable def D : Fd := ⟨Tryz.f100, 1, h9, (.ow .sh), [.sh], .unit, h52⟩
noncomputable def C (k : Nat) : Ctx := cx [] [] [(3, [(0, none), (3, none), (4, none)])] [] [] [] []
noncomputable def sem (k : Nat) : Sem := D.sem (D.ev (C k) k)
noncomputable def f (k : Nat) (p0 : (List Bool)) : Option ((List Int) × Unit) := D.ev (C k) k (p0, ())
noncomputable def l3 (k : Nat) (p0 : (List Bool)) (n : Nat) (v3_3 : (List Int)) (v4_3 : Int) : Option ((List Int) × Unit) :=
 D.lp (C k) k 3 [1, 1, 0, 1, 0] [] n [(4, vI v4_3), (3, vO h9 v3_3), (0, vS h46 p0)]
theorem s3 (k : Nat) (p0 : (List Bool)) (n : Nat) (v3_3 : (List Int)) (v4_3 : Int) : l3 k p0 (n + 1) v3_3 v4_3 =
 (if (decide (v4_3 < ((p0.length : Int)))) = true then
  gd ((0 : Int) ≤ v4_3) <| gd (v4_3 < (p0.length : Int)) <| if (p0.getD (v4_3.toNat) false) = true then
   gd ((v3_3.length : Int) + ([v4_3].length : Int) ≤ 1099511627776) <| l3 k p0 n (v3_3 ++ [v4_3]) (w64 (v4_3 + 1))
  else
   l3 k p0 n v3_3 (w64 (v4_3 + 1))
 else
  some (v3_3, ())) := by kernel_rfl
theorem z3 (k : Nat) (p0 : (List Bool)) (v3_3 : (List Int)) (v4_3 : Int) : l3 k p0 0 v3_3 v4_3 = none := by kernel_rfl
theorem s (k : Nat) (p0 : (List Bool)) : f k p0 =
 (l3 k p0 k [] 0) := by kernel_rfl
theorem ok (k : Nat) : Ok Tryz.prog 100 (sem k) := Fd.ok (cx_ok trivial) ⟨Tryz.func100, rfl, by kernel_rfl⟩ rfl
attribute [irreducible] f l3
end spec_l4List
/-! loop.example/wholecheck/spec.l17Ordered -/
namespace spec_l17Ordered
noncomputable def D : Fd := ⟨Tryz.f137, 1, h9, (.ow .sh), [.sh], .unit, h28⟩
noncomputable def C (k : Nat) : Ctx := cx [(100, spec_l4List.sem k)] [] [(3, [(0, none), (3, none), (4, none)])] [] [] [] []
noncomputable def sem (k : Nat) : Sem := D.sem (D.ev (C k) k)
noncomputable def f (k : Nat) (p0 : (List Int)) : Option ((List Int) × Unit) := D.ev (C k) k (p0, ())
noncomputable def l3 (k : Nat) (p0 : (List Int)) (n : Nat) (v3_3 : (List Bool)) (v4_3 : Int) : Option ((List Int) × Unit) :=
 D.lp (C k) k 3 [1, 1, 0, 1, 0] [] n [(4, vI v4_3), (3, vO h46 v3_3), (0, vS h9 p0)]
theorem s3 (k : Nat) (p0 : (List Int)) (n : Nat) (v3_3 : (List Bool)) (v4_3 : Int) : l3 k p0 (n + 1) v3_3 v4_3 =
 (if (decide (v4_3 < ((p0.length : Int)))) = true then
  gd ((0 : Int) ≤ v4_3) <| gd (v4_3 < (p0.length : Int)) <| gd ((0 : Int) ≤ (p0.getD (v4_3.toNat) 0)) <| gd ((p0.getD (v4_3.toNat) 0) < (v3_3.length : Int)) <| l3 k p0 n (v3_3.set ((p0.getD (v4_3.toNat) 0).toNat) true) (w64 (v4_3 + 1))
 else
  (spec_l4List.f k v3_3).bind fun r1 =>
  some (r1.1, ())) := by kernel_rfl
theorem z3 (k : Nat) (p0 : (List Int)) (v3_3 : (List Bool)) (v4_3 : Int) : l3 k p0 0 v3_3 v4_3 = none := by kernel_rfl
theorem s (k : Nat) (p0 : (List Int)) : f k p0 =
 (gd ((0 : Int) ≤ 400) <| gd ((400 : Int) ≤ 400) <| gd ((400 : Int) ≤ 1099511627776) <| l3 k p0 k ((List.replicate ((400 : Int)).toNat false : (List Bool))) 0) := by kernel_rfl
theorem ok (k : Nat) : Ok Tryz.prog 137 (sem k) := Fd.ok (cx_ok ⟨spec_l4List.ok k, trivial⟩) ⟨Tryz.func137, rfl, by kernel_rfl⟩ rfl
attribute [irreducible] f l3
end spec_l17Ordered
/-! loop.example/wholecheck/spec.l28Steps -/
namespace spec_l28Steps
noncomputable def D : Fd := ⟨Tryz.f77, 1, h50, (.ow (.ow .sh)), [.sh, .sh], .unit, h41⟩
noncomputable def C (k : Nat) : Ctx := cx [(71, spec_l4Steps.sem k), (137, spec_l17Ordered.sem k)] [((13, 14), 3)] [(4, [(3, none), (5, none), (6, none), (7, none)]), (8, [(3, none), (5, none), (6, none), (7, none), (8, none), (9, none)]), (11, [(3, none), (5, none), (6, none), (7, none), (8, none), (9, none), (10, none)])] [] [(13, [0, 1, 2, 3, 4, 5, 6, 7, 8, 9, 10, 11, 12, 13, 14])] [] []
noncomputable def sem (k : Nat) : Sem := D.sem (D.ev (C k) k)
noncomputable def f (k : Nat) (p0 : y7) (p1 : (List Int)) : Option ((List (List Int)) × Unit) := D.ev (C k) k (p0, p1, ())
noncomputable def l4 (k : Nat) (p1 : (List Int)) (n : Nat) (v5_4 v6_4 : (List (List Int))) (v7_4 : Int) : Option ((List (List Int)) × Unit) :=
 D.lp (C k) k 4 [1, 1, 1, 0, 1, 0] [] n [(7, vI v7_4), (6, vO h50 v6_4), (5, vO h50 v5_4), (3, .val h42 (.ow .sh) p1)]
noncomputable def l8 (k n4 : Nat) (p1 : (List Int)) (v5_4 v6_4 : (List (List Int))) (v7_4 : Int) (n : Nat) (v8_8 : (List Int)) (v9_8 : Int) : Option ((List (List Int)) × Unit) :=
 D.lp (C k) k 8 [1, 1, 1, 0, 1, 0, 0, 1, 0, 0, 1, 0, 1, 0] [n4] n [(9, vI v9_8), (8, vO h9 v8_8), (7, vI v7_4), (6, vO h50 v6_4), (5, vO h50 v5_4), (3, .val h42 (.ow .sh) p1)]
noncomputable def l11 (k n4 n8 : Nat) (p1 : (List Int)) (v5_4 v6_4 : (List (List Int))) (v7_4 v9_8 : Int) (n : Nat) (v8_11 : (List Int)) (v10_11 : Int) : Option ((List (List Int)) × Unit) :=
 D.lp (C k) k 11 [1, 1, 1, 0, 1, 0, 0, 1, 0, 0, 1, 0, 1, 0, 0, 1, 0, 0, 1, 0] [n4, n8] n [(10, vI v10_11), (9, vI v9_8), (8, vO h9 v8_11), (7, vI v7_4), (6, vO h50 v6_4), (5, vO h50 v5_4), (3, .val h42 (.ow .sh) p1)]
theorem s11 (k n4 n8 : Nat) (p1 : (List Int)) (v5_4 v6_4 : (List (List Int))) (v7_4 v9_8 : Int) (n : Nat) (v8_11 : (List Int)) (v10_11 : Int) : l11 k n4 n8 p1 v5_4 v6_4 v7_4 v9_8 (n + 1) v8_11 v10_11 =
 (gd ((0 : Int) ≤ v9_8) <| gd (v9_8 < (v5_4.length : Int)) <| if (decide (v10_11 < (((v5_4.getD (v9_8.toNat) []).length : Int)))) = true then
  gd ((0 : Int) ≤ v9_8) <| gd (v9_8 < (p1.length : Int)) <| if ((p1.getD (v9_8.toNat) 0) == v7_4) = true then
   gd ((0 : Int) ≤ v9_8) <| gd (v9_8 < (v5_4.length : Int)) <| gd ((0 : Int) ≤ v10_11) <| gd (v10_11 < ((v5_4.getD (v9_8.toNat) []).length : Int)) <| gd ((0 : Int) ≤ ((v5_4.getD (v9_8.toNat) []).getD (v10_11.toNat) 0)) <| gd (((v5_4.getD (v9_8.toNat) []).getD (v10_11.toNat) 0) < (p1.length : Int)) <| gd ((v8_11.length : Int) + ([(p1.getD (((v5_4.getD (v9_8.toNat) []).getD (v10_11.toNat) 0).toNat) 0)].length : Int) ≤ 1099511627776) <| l11 k n4 n8 p1 v5_4 v6_4 v7_4 v9_8 n (v8_11 ++ [(p1.getD (((v5_4.getD (v9_8.toNat) []).getD (v10_11.toNat) 0).toNat) 0)]) (w64 (v10_11 + 1))
  else
   l8 k n4 p1 v5_4 v6_4 v7_4 n8 v8_11 (w64 (v9_8 + 1))
 else
  l8 k n4 p1 v5_4 v6_4 v7_4 n8 v8_11 (w64 (v9_8 + 1))) := by kernel_rfl
theorem z11 (k n4 n8 : Nat) (p1 : (List Int)) (v5_4 v6_4 : (List (List Int))) (v7_4 v9_8 : Int) (v8_11 : (List Int)) (v10_11 : Int) : l11 k n4 n8 p1 v5_4 v6_4 v7_4 v9_8 0 v8_11 v10_11 = none := by kernel_rfl
theorem s8 (k n4 : Nat) (p1 : (List Int)) (v5_4 v6_4 : (List (List Int))) (v7_4 : Int) (n : Nat) (v8_8 : (List Int)) (v9_8 : Int) : l8 k n4 p1 v5_4 v6_4 v7_4 (n + 1) v8_8 v9_8 =
 (if (decide (v9_8 < ((v5_4.length : Int)))) = true then
  l11 k n4 n p1 v5_4 v6_4 v7_4 v9_8 k v8_8 0
 else
  (spec_l17Ordered.f k v8_8).bind fun r2 =>
  gd ((v6_4.length : Int) + ([r2.1].length : Int) ≤ 1099511627776) <| l4 k p1 n4 v5_4 (v6_4 ++ [r2.1]) (w64 (v7_4 + 1))) := by kernel_rfl
theorem z8 (k n4 : Nat) (p1 : (List Int)) (v5_4 v6_4 : (List (List Int))) (v7_4 : Int) (v8_8 : (List Int)) (v9_8 : Int) : l8 k n4 p1 v5_4 v6_4 v7_4 0 v8_8 v9_8 = none := by kernel_rfl
theorem s4 (k : Nat) (p1 : (List Int)) (n : Nat) (v5_4 v6_4 : (List (List Int))) (v7_4 : Int) : l4 k p1 (n + 1) v5_4 v6_4 v7_4 =
 (if (decide (v7_4 < ((v5_4.length : Int)))) = true then
  l8 k n p1 v5_4 v6_4 v7_4 k [] v7_4
 else
  some (v6_4, ())) := by kernel_rfl
theorem z4 (k : Nat) (p1 : (List Int)) (v5_4 v6_4 : (List (List Int))) (v7_4 : Int) : l4 k p1 0 v5_4 v6_4 v7_4 = none := by kernel_rfl
theorem s (k : Nat) (p0 : y7) (p1 : (List Int)) : f k p0 p1 =
 ((spec_l4Steps.f k p0).bind fun r1 =>
 l4 k p1 k r1.1 [] 0) := by kernel_rfl
theorem ok (k : Nat) : Ok Tryz.prog 77 (sem k) := Fd.ok (cx_ok ⟨spec_l4Steps.ok k, spec_l17Ordered.ok k, trivial⟩) ⟨Tryz.func77, rfl, by kernel_rfl⟩ rfl
attribute [irreducible] f l4 l8 l11
end spec_l28Steps
/-! loop.example/wholecheck/spec.l28First -/
namespace spec_l28First
noncomputable def D : Fd := ⟨Tryz.f88, 1, h46, (.ow .sh), [.sh, .sh], .unit, h41⟩
noncomputable def C (k : Nat) : Ctx := cx [(98, spec_FirstState.sem k), (97, spec_l4Number.sem k), (102, spec_l4Marks.sem k)] [] [] [] [(1, [0, 1, 2, 3, 9, 10, 11, 4, 5, 6, 7, 8, 12, 13])] [((1, 4), [2, 3]), ((1, 5), [3]), ((1, 8), [3])] []
noncomputable def sem (k : Nat) : Sem := D.sem (D.ev (C k) k)
noncomputable def f (k : Nat) (p0 : y7) (p1 : (List Int)) : Option ((List Bool) × Unit) := D.ev (C k) k (p0, p1, ())
theorem s (k : Nat) (p0 : y7) (p1 : (List Int)) : f k p0 p1 =
 ((spec_FirstState.f k p0).bind fun r1 =>
 (spec_l4Number.f k p0 r1.1).bind fun r2 =>
 gd ((0 : Int) ≤ r2.1) <| gd (r2.1 < (p1.length : Int)) <| (spec_l4Marks.f k [(p1.getD (r2.1.toNat) 0)] ((p1.length : Int))).bind fun r3 =>
 some (r3.1, ())) := by kernel_rfl
theorem ok (k : Nat) : Ok Tryz.prog 88 (sem k) := Fd.ok (cx_ok ⟨spec_FirstState.ok k, spec_l4Number.ok k, spec_l4Marks.ok k, trivial⟩) ⟨Tryz.func88, rfl, by kernel_rfl⟩ rfl
attribute [irreducible] f
end spec_l28First
/-! loop.example/wholecheck/spec.l5Steps -/
namespace spec_l5Steps
noncomputable def D : Fd := ⟨Tryz.f87, 1, h9, (.ow .sh), [.sh, .sh], .unit, h53⟩
noncomputable def C (k : Nat) : Ctx := cx [] [] [(3, [(0, none), (1, none), (5, none), (6, none)]), (10, [(0, none), (5, none), (7, none), (8, none)]), (14, [(0, none), (5, none), (7, none), (8, none), (9, none)]), (17, [(0, none), (5, none), (7, none), (8, none), (9, none), (10, none)])] [] [] [] []
noncomputable def sem (k : Nat) : Sem := D.sem (D.ev (C k) k)
noncomputable def f (k : Nat) (p0 : (List (List Int))) (p1 : (List Bool)) : Option ((List Int) × Unit) := D.ev (C k) k (p0, p1, ())
noncomputable def l3 (k : Nat) (p0 : (List (List Int))) (p1 : (List Bool)) (n : Nat) (v5_3 : (List Int)) (v6_3 : Int) : Option ((List Int) × Unit) :=
 D.lp (C k) k 3 [1, 1, 0, 1, 0] [] n [(6, vI v6_3), (5, vO h9 v5_3), (1, vS h46 p1), (0, vS h50 p0)]
noncomputable def l10 (k : Nat) (p0 : (List (List Int))) (n : Nat) (v5_10 : (List Int)) (v7_10 : Bool) (v8_10 : Int) : Option ((List Int) × Unit) :=
 D.lp (C k) k 10 [1, 1, 1, 1, 0, 1, 0] [] n [(8, vI v8_10), (7, vB v7_10), (5, vO h9 v5_10), (0, vS h50 p0)]
noncomputable def l14 (k n10 : Nat) (p0 : (List (List Int))) (v8_10 : Int) (n : Nat) (v5_14 : (List Int)) (v7_14 : Bool) (v9_14 : Int) : Option ((List Int) × Unit) :=
 D.lp (C k) k 14 [1, 1, 1, 1, 0, 1, 0, 0, 1, 0, 0, 1, 1, 0] [n10] n [(9, vI v9_14), (8, vI v8_10), (7, vB v7_14), (5, vO h9 v5_14), (0, vS h50 p0)]
noncomputable def l17 (k n10 n14 : Nat) (p0 : (List (List Int))) (v8_10 v9_14 : Int) (n : Nat) (v5_17 : (List Int)) (v7_17 : Bool) (v10_17 : Int) : Option ((List Int) × Unit) :=
 D.lp (C k) k 17 [1, 1, 1, 1, 0, 1, 0, 0, 1, 0, 0, 1, 1, 0, 0, 1, 0, 0, 1, 0] [n10, n14] n [(10, vI v10_17), (9, vI v9_14), (8, vI v8_10), (7, vB v7_17), (5, vO h9 v5_17), (0, vS h50 p0)]
theorem s17 (k n10 n14 : Nat) (p0 : (List (List Int))) (v8_10 v9_14 : Int) (n : Nat) (v5_17 : (List Int)) (v7_17 : Bool) (v10_17 : Int) : l17 k n10 n14 p0 v8_10 v9_14 (n + 1) v5_17 v7_17 v10_17 =
 (gd ((0 : Int) ≤ v9_14) <| gd (v9_14 < (p0.length : Int)) <| if (decide (v10_17 < (((p0.getD (v9_14.toNat) []).length : Int)))) = true then
  gd ((0 : Int) ≤ v9_14) <| gd (v9_14 < (v5_17.length : Int)) <| if ((v5_17.getD (v9_14.toNat) 0) == v8_10) = true then
   gd ((0 : Int) ≤ v9_14) <| gd (v9_14 < (p0.length : Int)) <| gd ((0 : Int) ≤ v10_17) <| gd (v10_17 < ((p0.getD (v9_14.toNat) []).length : Int)) <| gd ((0 : Int) ≤ ((p0.getD (v9_14.toNat) []).getD (v10_17.toNat) 0)) <| gd (((p0.getD (v9_14.toNat) []).getD (v10_17.toNat) 0) < (v5_17.length : Int)) <| if (decide ((v5_17.getD (((p0.getD (v9_14.toNat) []).getD (v10_17.toNat) 0).toNat) 0) < 0)) = true then
    gd ((0 : Int) ≤ v9_14) <| gd (v9_14 < (p0.length : Int)) <| gd ((0 : Int) ≤ v10_17) <| gd (v10_17 < ((p0.getD (v9_14.toNat) []).length : Int)) <| gd ((0 : Int) ≤ ((p0.getD (v9_14.toNat) []).getD (v10_17.toNat) 0)) <| gd (((p0.getD (v9_14.toNat) []).getD (v10_17.toNat) 0) < (v5_17.length : Int)) <| l17 k n10 n14 p0 v8_10 v9_14 n (v5_17.set (((p0.getD (v9_14.toNat) []).getD (v10_17.toNat) 0).toNat) (w64 (v8_10 + 1))) true (w64 (v10_17 + 1))
   else
    l17 k n10 n14 p0 v8_10 v9_14 n v5_17 v7_17 (w64 (v10_17 + 1))
  else
   l14 k n10 p0 v8_10 n14 v5_17 v7_17 (w64 (v9_14 + 1))
 else
  l14 k n10 p0 v8_10 n14 v5_17 v7_17 (w64 (v9_14 + 1))) := by kernel_rfl
theorem z17 (k n10 n14 : Nat) (p0 : (List (List Int))) (v8_10 v9_14 : Int) (v5_17 : (List Int)) (v7_17 : Bool) (v10_17 : Int) : l17 k n10 n14 p0 v8_10 v9_14 0 v5_17 v7_17 v10_17 = none := by kernel_rfl
theorem s14 (k n10 : Nat) (p0 : (List (List Int))) (v8_10 : Int) (n : Nat) (v5_14 : (List Int)) (v7_14 : Bool) (v9_14 : Int) : l14 k n10 p0 v8_10 (n + 1) v5_14 v7_14 v9_14 =
 (if (decide (v9_14 < ((p0.length : Int)))) = true then
  l17 k n10 n p0 v8_10 v9_14 k v5_14 v7_14 0
 else
  l10 k p0 n10 v5_14 v7_14 (w64 (v8_10 + 1))) := by kernel_rfl
theorem z14 (k n10 : Nat) (p0 : (List (List Int))) (v8_10 : Int) (v5_14 : (List Int)) (v7_14 : Bool) (v9_14 : Int) : l14 k n10 p0 v8_10 0 v5_14 v7_14 v9_14 = none := by kernel_rfl
theorem s10 (k : Nat) (p0 : (List (List Int))) (n : Nat) (v5_10 : (List Int)) (v7_10 : Bool) (v8_10 : Int) : l10 k p0 (n + 1) v5_10 v7_10 v8_10 =
 (if v7_10 = true then
  l14 k n p0 v8_10 k v5_10 false 0
 else
  some (v5_10, ())) := by kernel_rfl
theorem z10 (k : Nat) (p0 : (List (List Int))) (v5_10 : (List Int)) (v7_10 : Bool) (v8_10 : Int) : l10 k p0 0 v5_10 v7_10 v8_10 = none := by kernel_rfl
theorem s3 (k : Nat) (p0 : (List (List Int))) (p1 : (List Bool)) (n : Nat) (v5_3 : (List Int)) (v6_3 : Int) : l3 k p0 p1 (n + 1) v5_3 v6_3 =
 (if (decide (v6_3 < ((p0.length : Int)))) = true then
  gd ((0 : Int) ≤ v6_3) <| gd (v6_3 < (p1.length : Int)) <| if (p1.getD (v6_3.toNat) false) = true then
   gd ((v5_3.length : Int) + ([0].length : Int) ≤ 1099511627776) <| l3 k p0 p1 n (v5_3 ++ [0]) (w64 (v6_3 + 1))
  else
   gd ((v5_3.length : Int) + ([(-1)].length : Int) ≤ 1099511627776) <| l3 k p0 p1 n (v5_3 ++ [(-1)]) (w64 (v6_3 + 1))
 else
  l10 k p0 k v5_3 true 0) := by kernel_rfl
theorem z3 (k : Nat) (p0 : (List (List Int))) (p1 : (List Bool)) (v5_3 : (List Int)) (v6_3 : Int) : l3 k p0 p1 0 v5_3 v6_3 = none := by kernel_rfl
theorem s (k : Nat) (p0 : (List (List Int))) (p1 : (List Bool)) : f k p0 p1 =
 (l3 k p0 p1 k [] 0) := by kernel_rfl
theorem ok (k : Nat) : Ok Tryz.prog 87 (sem k) := Fd.ok (cx_ok trivial) ⟨Tryz.func87, rfl, by kernel_rfl⟩ rfl
attribute [irreducible] f l3 l10 l14 l17
end spec_l5Steps
/-! loop.example/wholecheck/spec.l5Nearest -/
namespace spec_l5Nearest
noncomputable def D : Fd := ⟨Tryz.f91, 1, I, .sh, [.sh, .sh], .unit, h54⟩
noncomputable def C (k : Nat) : Ctx := cx [] [] [(3, [(0, none), (1, none), (5, none), (6, none)])] [] [(5, [0, 1, 2, 3, 4, 5, 6, 7, 8, 9, 10, 11, 12, 13, 14, 15, 16, 17, 18, 19, 20, 21, 22, 23, 24, 25])] [] []
noncomputable def sem (k : Nat) : Sem := D.sem (D.ev (C k) k)
noncomputable def f (k : Nat) (p0 : (List Int)) (p1 : (List Bool)) : Option (Int × Unit) := D.ev (C k) k (p0, p1, ())
noncomputable def l3 (k : Nat) (p0 : (List Int)) (p1 : (List Bool)) (n : Nat) (v5_3 v6_3 : Int) : Option (Int × Unit) :=
 D.lp (C k) k 3 [1, 1, 0, 1, 0] [] n [(6, vI v6_3), (5, vI v5_3), (1, vS h46 p1), (0, vS h9 p0)]
theorem s3 (k : Nat) (p0 : (List Int)) (p1 : (List Bool)) (n : Nat) (v5_3 v6_3 : Int) : l3 k p0 p1 (n + 1) v5_3 v6_3 =
 (if (decide (v6_3 < ((p0.length : Int)))) = true then
  gd ((0 : Int) ≤ v6_3) <| gd (v6_3 < (p1.length : Int)) <| if (p1.getD (v6_3.toNat) false) = true then
   gd ((0 : Int) ≤ v6_3) <| gd (v6_3 < (p0.length : Int)) <| if (decide ((p0.getD (v6_3.toNat) 0) ≥ 0)) = true then
    if (decide (v5_3 < 0)) = true then
     l3 k p0 p1 n v6_3 (w64 (v6_3 + 1))
    else
     gd ((0 : Int) ≤ v6_3) <| gd (v6_3 < (p0.length : Int)) <| gd ((0 : Int) ≤ v5_3) <| gd (v5_3 < (p0.length : Int)) <| if (decide ((p0.getD (v6_3.toNat) 0) < (p0.getD (v5_3.toNat) 0))) = true then
      l3 k p0 p1 n v6_3 (w64 (v6_3 + 1))
     else
      l3 k p0 p1 n v5_3 (w64 (v6_3 + 1))
   else
    l3 k p0 p1 n v5_3 (w64 (v6_3 + 1))
  else
   l3 k p0 p1 n v5_3 (w64 (v6_3 + 1))
 else
  some (v5_3, ())) := by kernel_rfl
theorem z3 (k : Nat) (p0 : (List Int)) (p1 : (List Bool)) (v5_3 v6_3 : Int) : l3 k p0 p1 0 v5_3 v6_3 = none := by kernel_rfl
theorem s (k : Nat) (p0 : (List Int)) (p1 : (List Bool)) : f k p0 p1 =
 (l3 k p0 p1 k (-1) 0) := by kernel_rfl
theorem ok (k : Nat) : Ok Tryz.prog 91 (sem k) := Fd.ok (cx_ok trivial) ⟨Tryz.func91, rfl, by kernel_rfl⟩ rfl
attribute [irreducible] f l3
end spec_l5Nearest
/-! loop.example/wholecheck/spec.l2Has -/
namespace spec_l2Has
noncomputable def D : Fd := ⟨Tryz.f72, 1, .bool, .sh, [.sh, .sh], .unit, h10⟩
noncomputable def C (k : Nat) : Ctx := cx [] [] [(2, [(0, none), (1, none), (5, none)])] [] [] [] []
noncomputable def sem (k : Nat) : Sem := D.sem (D.ev (C k) k)
noncomputable def f (k : Nat) (p0 : (List Int)) (p1 : Int) : Option (Bool × Unit) := D.ev (C k) k (p0, p1, ())
noncomputable def l2 (k : Nat) (p0 : (List Int)) (p1 : Int) (n : Nat) (v5_2 : Int) : Option (Bool × Unit) :=
 D.lp (C k) k 2 [1, 0, 1, 0] [] n [(5, vI v5_2), (1, vI p1), (0, vS h9 p0)]
theorem s2 (k : Nat) (p0 : (List Int)) (p1 : Int) (n : Nat) (v5_2 : Int) : l2 k p0 p1 (n + 1) v5_2 =
 (if (decide (v5_2 < ((p0.length : Int)))) = true then
  gd ((0 : Int) ≤ v5_2) <| gd (v5_2 < (p0.length : Int)) <| if ((p0.getD (v5_2.toNat) 0) == p1) = true then
   some (true, ())
  else
   l2 k p0 p1 n (w64 (v5_2 + 1))
 else
  some (false, ())) := by kernel_rfl
theorem z2 (k : Nat) (p0 : (List Int)) (p1 : Int) (v5_2 : Int) : l2 k p0 p1 0 v5_2 = none := by kernel_rfl
theorem s (k : Nat) (p0 : (List Int)) (p1 : Int) : f k p0 p1 =
 (l2 k p0 p1 k 0) := by kernel_rfl
theorem ok (k : Nat) : Ok Tryz.prog 72 (sem k) := Fd.ok (cx_ok trivial) ⟨Tryz.func72, rfl, by kernel_rfl⟩ rfl
attribute [irreducible] f l2
end spec_l2Has
/-! loop.example/wholecheck/spec.l5Back -/
namespace spec_l5Back
noncomputable def D : Fd := ⟨Tryz.f92, 1, I, .sh, [.sh, .sh, .sh], .unit, h55⟩
noncomputable def C (k : Nat) : Ctx := cx [(72, spec_l2Has.sem k)] [] [(2, [(0, none), (1, none), (2, none), (7, none)])] [] [(4, [0, 1, 2, 3, 4, 5, 6, 7, 8, 9, 10, 11, 12, 13, 14, 15, 16, 17])] [] []
noncomputable def sem (k : Nat) : Sem := D.sem (D.ev (C k) k)
noncomputable def f (k : Nat) (p0 : (List (List Int))) (p1 : (List Int)) (p2 : Int) : Option (Int × Unit) := D.ev (C k) k (p0, p1, p2, ())
noncomputable def l2 (k : Nat) (p0 : (List (List Int))) (p1 : (List Int)) (p2 : Int) (n : Nat) (v7_2 : Int) : Option (Int × Unit) :=
 D.lp (C k) k 2 [1, 0, 1, 0] [] n [(7, vI v7_2), (2, vI p2), (1, vS h9 p1), (0, vS h50 p0)]
theorem s2 (k : Nat) (p0 : (List (List Int))) (p1 : (List Int)) (p2 : Int) (n : Nat) (v7_2 : Int) : l2 k p0 p1 p2 (n + 1) v7_2 =
 (if (decide (v7_2 < ((p0.length : Int)))) = true then
  gd ((0 : Int) ≤ v7_2) <| gd (v7_2 < (p1.length : Int)) <| gd ((0 : Int) ≤ p2) <| gd (p2 < (p1.length : Int)) <| if ((p1.getD (v7_2.toNat) 0) == (w64 ((p1.getD (p2.toNat) 0) - 1))) = true then
   gd ((0 : Int) ≤ v7_2) <| gd (v7_2 < (p0.length : Int)) <| (spec_l2Has.f k (p0.getD (v7_2.toNat) []) p2).bind fun r1 =>
   if r1.1 = true then
    some (v7_2, ())
   else
    l2 k p0 p1 p2 n (w64 (v7_2 + 1))
  else
   l2 k p0 p1 p2 n (w64 (v7_2 + 1))
 else
  some ((-1), ())) := by kernel_rfl
theorem z2 (k : Nat) (p0 : (List (List Int))) (p1 : (List Int)) (p2 : Int) (v7_2 : Int) : l2 k p0 p1 p2 0 v7_2 = none := by kernel_rfl
theorem s (k : Nat) (p0 : (List (List Int))) (p1 : (List Int)) (p2 : Int) : f k p0 p1 p2 =
 (l2 k p0 p1 p2 k 0) := by kernel_rfl
theorem ok (k : Nat) : Ok Tryz.prog 92 (sem k) := Fd.ok (cx_ok ⟨spec_l2Has.ok k, trivial⟩) ⟨Tryz.func92, rfl, by kernel_rfl⟩ rfl
attribute [irreducible] f l2
end spec_l5Back
/-! loop.example/wholecheck/spec.l22Turned -/
namespace spec_l22Turned
noncomputable def D : Fd := ⟨Tryz.f74, 1, h9, (.ow .sh), [.sh], .unit, h28⟩
noncomputable def C (k : Nat) : Ctx := cx [] [] [(3, [(0, none), (3, none), (4, none)])] [] [] [] []
noncomputable def sem (k : Nat) : Sem := D.sem (D.ev (C k) k)
noncomputable def f (k : Nat) (p0 : (List Int)) : Option ((List Int) × Unit) := D.ev (C k) k (p0, ())
noncomputable def l3 (k : Nat) (p0 : (List Int)) (n : Nat) (v3_3 : (List Int)) (v4_3 : Int) : Option ((List Int) × Unit) :=
 D.lp (C k) k 3 [1, 1, 0, 1, 0] [] n [(4, vI v4_3), (3, vO h9 v3_3), (0, vS h9 p0)]
theorem s3 (k : Nat) (p0 : (List Int)) (n : Nat) (v3_3 : (List Int)) (v4_3 : Int) : l3 k p0 (n + 1) v3_3 v4_3 =
 (if (decide (v4_3 ≥ 0)) = true then
  gd ((0 : Int) ≤ v4_3) <| gd (v4_3 < (p0.length : Int)) <| gd ((v3_3.length : Int) + ([(p0.getD (v4_3.toNat) 0)].length : Int) ≤ 1099511627776) <| l3 k p0 n (v3_3 ++ [(p0.getD (v4_3.toNat) 0)]) (w64 (v4_3 - 1))
 else
  some (v3_3, ())) := by kernel_rfl
theorem z3 (k : Nat) (p0 : (List Int)) (v3_3 : (List Int)) (v4_3 : Int) : l3 k p0 0 v3_3 v4_3 = none := by kernel_rfl
theorem s (k : Nat) (p0 : (List Int)) : f k p0 =
 (l3 k p0 k [] (w64 (((p0.length : Int)) - 1))) := by kernel_rfl
theorem ok (k : Nat) : Ok Tryz.prog 74 (sem k) := Fd.ok (cx_ok trivial) ⟨Tryz.func74, rfl, by kernel_rfl⟩ rfl
attribute [irreducible] f l3
end spec_l22Turned
/-! loop.example/wholecheck/spec.BlockWay -/
namespace spec_BlockWay
noncomputable def D : Fd := ⟨Tryz.f45, 2, h56, (.pr (.ow .sh) .sh), [.sh, .sh, .sh], .unit, h58⟩
noncomputable def C (k : Nat) : Ctx := cx [(76, spec_BlocksValid.sem k), (80, spec_l2Is.sem k), (90, spec_l15Good.sem k), (77, spec_l28Steps.sem k), (88, spec_l28First.sem k), (87, spec_l5Steps.sem k), (91, spec_l5Nearest.sem k), (92, spec_l5Back.sem k), (74, spec_l22Turned.sem k)] [] [(6, [(3, none), (4, none), (8, none), (9, none), (10, none)]), (16, [(11, none), (12, none), (14, none)])] [] [] [] []
noncomputable def sem (k : Nat) : Sem := D.sem (D.ev (C k) k)
noncomputable def f (k : Nat) (p0 : y7) (p1 : (List Int)) (p2 : y2) : Option (((List Int) × Bool) × Unit) := D.ev (C k) k (p0, p1, p2, ())
noncomputable def l6 (k : Nat) (p0 : y7) (p1 : (List Int)) (n : Nat) (v8_6 v9_6 : (List Bool)) (v10_6 : Int) : Option (((List Int) × Bool) × Unit) :=
 D.lp (C k) k 6 [1, 1, 1, 1, 0, 1, 0] [] n [(10, vI v10_6), (9, vO h46 v9_6), (8, vO h46 v8_6), (4, .val h42 (.ow .sh) p1), (3, .val h40 (.ow .sh) p0)]
noncomputable def l16 (k : Nat) (n : Nat) (v11_16 : (List (List Int))) (v12_16 v14_16 : (List Int)) : Option (((List Int) × Bool) × Unit) :=
 D.lp (C k) k 16 [1, 1, 1, 1, 1, 1, 1, 1, 1, 1, 0, 0] [] n [(14, vO h9 v14_16), (12, vO h9 v12_16), (11, vO h50 v11_16)]
theorem s16 (k : Nat) (n : Nat) (v11_16 : (List (List Int))) (v12_16 v14_16 : (List Int)) : l16 k (n + 1) v11_16 v12_16 v14_16 =
 (gd ((0 : Int) ≤ (w64 (((v14_16.length : Int)) - 1))) <| gd ((w64 (((v14_16.length : Int)) - 1)) < (v14_16.length : Int)) <| gd ((0 : Int) ≤ (v14_16.getD ((w64 (((v14_16.length : Int)) - 1)).toNat) 0)) <| gd ((v14_16.getD ((w64 (((v14_16.length : Int)) - 1)).toNat) 0) < (v12_16.length : Int)) <| if (decide ((v12_16.getD ((v14_16.getD ((w64 (((v14_16.length : Int)) - 1)).toNat) 0).toNat) 0) > 0)) = true then
  gd ((0 : Int) ≤ (w64 (((v14_16.length : Int)) - 1))) <| gd ((w64 (((v14_16.length : Int)) - 1)) < (v14_16.length : Int)) <| (spec_l5Back.f k v11_16 v12_16 (v14_16.getD ((w64 (((v14_16.length : Int)) - 1)).toNat) 0)).bind fun r8 =>
  gd ((v14_16.length : Int) + ([r8.1].length : Int) ≤ 1099511627776) <| l16 k n v11_16 v12_16 (v14_16 ++ [r8.1])
 else
  (spec_l22Turned.f k v14_16).bind fun r9 =>
  some ((r9.1, true), ())) := by kernel_rfl
theorem z16 (k : Nat) (v11_16 : (List (List Int))) (v12_16 v14_16 : (List Int)) : l16 k 0 v11_16 v12_16 v14_16 = none := by kernel_rfl
theorem s6 (k : Nat) (p0 : y7) (p1 : (List Int)) (n : Nat) (v8_6 v9_6 : (List Bool)) (v10_6 : Int) : l6 k p0 p1 (n + 1) v8_6 v9_6 v10_6 =
 (if (decide (v10_6 < ((p1.length : Int)))) = true then
  gd ((0 : Int) ≤ v10_6) <| gd (v10_6 < (v8_6.length : Int)) <| if (!(v8_6.getD (v10_6.toNat) false)) = true then
   gd ((0 : Int) ≤ v10_6) <| gd (v10_6 < (p1.length : Int)) <| gd ((0 : Int) ≤ (p1.getD (v10_6.toNat) 0)) <| gd ((p1.getD (v10_6.toNat) 0) < (v9_6.length : Int)) <| l6 k p0 p1 n v8_6 (v9_6.set ((p1.getD (v10_6.toNat) 0).toNat) true) (w64 (v10_6 + 1))
  else
   l6 k p0 p1 n v8_6 v9_6 (w64 (v10_6 + 1))
 else
  (spec_l28Steps.f k p0 p1).bind fun r4 =>
  (spec_l28First.f k p0 p1).bind fun r5 =>
  (spec_l5Steps.f k r4.1 r5.1).bind fun r6 =>
  (spec_l5Nearest.f k r6.1 v9_6).bind fun r7 =>
  if (decide (r7.1 < 0)) = true then
   some (([], false), ())
  else
   l16 k k r4.1 r6.1 [r7.1]) := by kernel_rfl
theorem z6 (k : Nat) (p0 : y7) (p1 : (List Int)) (v8_6 v9_6 : (List Bool)) (v10_6 : Int) : l6 k p0 p1 0 v8_6 v9_6 v10_6 = none := by kernel_rfl
theorem s (k : Nat) (p0 : y7) (p1 : (List Int)) (p2 : y2) : f k p0 p1 p2 =
 ((spec_BlocksValid.f k p0 p1).bind fun r1 =>
 if (!r1.1) = true then
  some (([], false), ())
 else
  (spec_l2Is.f k p2 ((p0.1.length : Int)) 2).bind fun r2 =>
  if (!r2.1) = true then
   some (([], false), ())
  else
   (spec_l15Good.f k p0 p2).bind fun r3 =>
   gd ((0 : Int) ≤ ((p1.length : Int))) <| gd ((((p1.length : Int)) : Int) ≤ 1099511627776) <| l6 k p0 p1 k r3.1 ((List.replicate ((p1.length : Int)).toNat false : (List Bool))) 0) := by kernel_rfl
theorem ok (k : Nat) : Ok Tryz.prog 45 (sem k) := Fd.ok (cx_ok ⟨spec_BlocksValid.ok k, spec_l2Is.ok k, spec_l15Good.ok k, spec_l28Steps.ok k, spec_l28First.ok k, spec_l5Steps.ok k, spec_l5Nearest.ok k, spec_l5Back.ok k, spec_l22Turned.ok k, trivial⟩) ⟨Tryz.func45, rfl, by kernel_rfl⟩ rfl
attribute [irreducible] f l6 l16
end spec_BlockWay
/-! loop.example/wholecheck/impl.in -/
namespace impl_in
noncomputable def D : Fd := ⟨Tryz.f106, 1, .bool, .sh, [.sh, .sh, .sh], .unit, h35⟩
noncomputable def C (k : Nat) : Ctx := cx [] [] [] [] [] [] []
noncomputable def sem (k : Nat) : Sem := D.sem (D.ev (C k) k)
noncomputable def f (k : Nat) (p0 p1 p2 : Int) : Option (Bool × Unit) := D.ev (C k) k (p0, p1, p2, ())
theorem s (k : Nat) (p0 p1 p2 : Int) : f k p0 p1 p2 =
 (if (decide (p0 ≥ p1)) = true then
  some (decide (p0 ≤ p2), ())
 else
  some (false, ())) := by kernel_rfl
theorem ok (k : Nat) : Ok Tryz.prog 106 (sem k) := Fd.ok (cx_ok trivial) ⟨Tryz.func106, rfl, by kernel_rfl⟩ rfl
attribute [irreducible] f
end impl_in
/-! loop.example/wholecheck/impl.varOk -/
namespace impl_varOk
noncomputable def D : Fd := ⟨Tryz.f153, 1, .bool, .sh, [.sh], .unit, h24⟩
noncomputable def C (k : Nat) : Ctx := cx [(106, impl_in.sem k)] [] [] [] [] [] []
noncomputable def sem (k : Nat) : Sem := D.sem (D.ev (C k) k)
noncomputable def f (k : Nat) (p0 : (Int × (Int × Int))) : Option (Bool × Unit) := D.ev (C k) k (p0, ())
theorem s (k : Nat) (p0 : (Int × (Int × Int))) : f k p0 =
 ((impl_in.f k p0.1 (-9999) 9999).bind fun r1 =>
 if r1.1 = true then
  (impl_in.f k p0.2.1 p0.1 9999).bind fun r2 =>
  if r2.1 = true then
   if (decide ((w64 (p0.2.1 - p0.1)) < 20)) = true then
    (impl_in.f k p0.2.2 p0.1 p0.2.1).bind fun r3 =>
    some (r3.1, ())
   else
    some (false, ())
  else
   some (false, ())
 else
  some (false, ())) := by kernel_rfl
theorem ok (k : Nat) : Ok Tryz.prog 153 (sem k) := Fd.ok (cx_ok ⟨impl_in.ok k, trivial⟩) ⟨Tryz.func153, rfl, by kernel_rfl⟩ rfl
attribute [irreducible] f
end impl_varOk
/-! loop.example/wholecheck/impl.SystemValid$1 -/
namespace impl_SystemValid_1
noncomputable def D : Fd := ⟨Tryz.f152, 1, .bool, .sh, [.sh], .unit, h24⟩
noncomputable def C (k : Nat) : Ctx := cx [(153, impl_varOk.sem k)] [] [] [] [] [] []
noncomputable def sem (k : Nat) : Sem := D.sem (D.ev (C k) k)
noncomputable def f (k : Nat) (p0 : (Int × (Int × Int))) : Option (Bool × Unit) := D.ev (C k) k (p0, ())
theorem s (k : Nat) (p0 : (Int × (Int × Int))) : f k p0 =
 ((impl_varOk.f k p0).bind fun r1 =>
 some (!r1.1, ())) := by kernel_rfl
theorem ok (k : Nat) : Ok Tryz.prog 152 (sem k) := Fd.ok (cx_ok ⟨impl_varOk.ok k, trivial⟩) ⟨Tryz.func152, rfl, by kernel_rfl⟩ rfl
attribute [irreducible] f
end impl_SystemValid_1
/-! slices.IndexFunc[[]loop.example/wholecheck/impl.Var,loop.example/wholecheck/impl.Var] -/
namespace slices_IndexFunc_impl_Var_impl_Var
noncomputable def D : Fd := ⟨Tryz.f181, 1, I, .sh, [.sh, .sh], .unit, h61⟩
noncomputable def C (k : Nat) : Ctx := cx [] [] [(2, [(0, none), (1, none), (7, none), (8, none)])] [] [] [] []
noncomputable def sem (k : Nat) : Sem := D.sem (D.ev (C k) k)
noncomputable def f (k : Nat) (p0 : y0) (p1 : y8) : Option (Int × Unit) := D.ev (C k) k (p0, p1, ())
noncomputable def l2 (k : Nat) (p0 : y0) (p1 : y8) (n : Nat) (v8_2 : Int) : Option (Int × Unit) :=
 D.lp (C k) k 2 [1, 0, 1, 0] [] n [(8, vI v8_2), (7, vI ((p0.length : Int))), (1, vS h59 p1), (0, vS h2 p0)]
theorem s2 (k : Nat) (p0 : y0) (p1 : y8) (n : Nat) (v8_2 : Int) : l2 k p0 p1 (n + 1) v8_2 =
 (if (decide (v8_2 < ((p0.length : Int)))) = true then
  gd ((0 : Int) ≤ v8_2) <| gd (v8_2 < (p0.length : Int)) <| (p1 (p0.getD (v8_2.toNat) (0, (0, 0)))).bind fun r1 =>
  if r1 = true then
   some (v8_2, ())
  else
   l2 k p0 p1 n (w64 (v8_2 + 1))
 else
  some ((-1), ())) := by kernel_rfl
theorem z2 (k : Nat) (p0 : y0) (p1 : y8) (v8_2 : Int) : l2 k p0 p1 0 v8_2 = none := by kernel_rfl
theorem s (k : Nat) (p0 : y0) (p1 : y8) : f k p0 p1 =
 (l2 k p0 p1 k 0) := by kernel_rfl
theorem ok (k : Nat) : Ok Tryz.prog 181 (sem k) := Fd.ok (cx_ok trivial) ⟨Tryz.func181, rfl, by kernel_rfl⟩ rfl
attribute [irreducible] f l2
end slices_IndexFunc_impl_Var_impl_Var
/-! slices.ContainsFunc[[]loop.example/wholecheck/impl.Var,loop.example/wholecheck/impl.Var] -/
namespace slices_ContainsFunc_impl_Var_impl_Var
noncomputable def D : Fd := ⟨Tryz.f151, 1, .bool, .sh, [.sh, .sh], .unit, h61⟩
noncomputable def C (k : Nat) : Ctx := cx [(181, slices_IndexFunc_impl_Var_impl_Var.sem k)] [] [] [] [] [] []
noncomputable def sem (k : Nat) : Sem := D.sem (D.ev (C k) k)
noncomputable def f (k : Nat) (p0 : y0) (p1 : y8) : Option (Bool × Unit) := D.ev (C k) k (p0, p1, ())
theorem s (k : Nat) (p0 : y0) (p1 : y8) : f k p0 p1 =
 ((slices_IndexFunc_impl_Var_impl_Var.f k p0 p1).bind fun r1 =>
 some (decide (r1.1 ≥ 0), ())) := by kernel_rfl
theorem ok (k : Nat) : Ok Tryz.prog 151 (sem k) := Fd.ok (cx_ok ⟨slices_IndexFunc_impl_Var_impl_Var.ok k, trivial⟩) ⟨Tryz.func151, rfl, by kernel_rfl⟩ rfl
attribute [irreducible] f
end slices_ContainsFunc_impl_Var_impl_Var
/-! loop.example/wholecheck/impl.size -/
namespace impl_size
noncomputable def D : Fd := ⟨Tryz.f123, 1, I, .sh, [.sh], .unit, h25⟩
noncomputable def C (k : Nat) : Ctx := cx [] [] [(3, [(3, none), (6, none), (7, none), (8, none)])] [] [] [] []
noncomputable def sem (k : Nat) : Sem := D.sem (D.ev (C k) k)
noncomputable def f (k : Nat) (p0 : y0) : Option (Int × Unit) := D.ev (C k) k (p0, ())
noncomputable def l3 (k : Nat) (p0 : y0) (n : Nat) (v3_3 v8_3 : Int) : Option (Int × Unit) :=
 D.lp (C k) k 3 [1, 1, 0, 1, 0] [] n [(8, vI v8_3), (7, vI ((p0.length : Int))), (6, vS h2 p0), (3, vI v3_3)]
theorem s3 (k : Nat) (p0 : y0) (n : Nat) (v3_3 v8_3 : Int) : l3 k p0 (n + 1) v3_3 v8_3 =
 (if (decide (v8_3 < ((p0.length : Int)))) = true then
  gd ((0 : Int) ≤ v8_3) <| gd (v8_3 < (p0.length : Int)) <| l3 k p0 n (w64 (v3_3 * (w64 ((w64 ((p0.getD (v8_3.toNat) (0, (0, 0))).2.1 - (p0.getD (v8_3.toNat) (0, (0, 0))).1)) + 1)))) (w64 (v8_3 + 1))
 else
  some (v3_3, ())) := by kernel_rfl
theorem z3 (k : Nat) (p0 : y0) (v3_3 v8_3 : Int) : l3 k p0 0 v3_3 v8_3 = none := by kernel_rfl
theorem s (k : Nat) (p0 : y0) : f k p0 =
 (l3 k p0 k 1 0) := by kernel_rfl
theorem ok (k : Nat) : Ok Tryz.prog 123 (sem k) := Fd.ok (cx_ok trivial) ⟨Tryz.func123, rfl, by kernel_rfl⟩ rfl
attribute [irreducible] f l3
end impl_size
/-! loop.example/wholecheck/impl.parts -/
namespace impl_parts
noncomputable def D : Fd := ⟨Tryz.f205, 3, h0, (.pr .sh (.pr .sh .sh)), [.sh], .unit, h3⟩
noncomputable def C (k : Nat) : Ctx := cx [] [] [] [] [] [] [(8, [(5, none), (10, none)])]
noncomputable def sem (k : Nat) : Sem := D.sem (D.ev (C k) k)
noncomputable def f (k : Nat) (p0 : Int) : Option ((Int × (Int × Int)) × Unit) := D.ev (C k) k (p0, ())
noncomputable def lj8 (k : Nat) (p0 : Int) (n : Nat) (v10_j8 : Bool) : Option ((Int × (Int × Int)) × Unit) :=
 D.jn (C k) k 8 [1, 0, 1, 0, 1, 1] [] n [(10, vB v10_j8), (5, vI p0)]
theorem sj8 (k : Nat) (p0 : Int) (n : Nat) (v10_j8 : Bool) : lj8 k p0 (n + 1) v10_j8 =
 (if v10_j8 = true then
  some ((2, (1, 2)), ())
 else
  if (p0 == 7) = true then
   some ((1, (2, 2)), ())
  else
   if (p0 == 8) = true then
    if (p0 == 8) = true then
     some ((2, (2, 2)), ())
    else
     some ((0, (0, 1)), ())
   else
    if (p0 == 9) = true then
     some ((2, (2, 2)), ())
    else
     some ((0, (0, 1)), ())) := by kernel_rfl
theorem zj8 (k : Nat) (p0 : Int) (v10_j8 : Bool) : lj8 k p0 0 v10_j8 = none := by kernel_rfl
theorem s (k : Nat) (p0 : Int) : f k p0 =
 (if (p0 == 2) = true then
  if (p0 == 2) = true then
   some ((2, (1, 1)), ())
  else
   if (p0 == 5) = true then
    lj8 k p0 k (p0 == 5)
   else
    lj8 k p0 k (p0 == 6)
 else
  if (p0 == 3) = true then
   if (p0 == 3) = true then
    some ((2, (1, 1)), ())
   else
    if (p0 == 5) = true then
     lj8 k p0 k (p0 == 5)
    else
     lj8 k p0 k (p0 == 6)
  else
   if (p0 == 4) = true then
    some ((2, (1, 1)), ())
   else
    if (p0 == 5) = true then
     lj8 k p0 k (p0 == 5)
    else
     lj8 k p0 k (p0 == 6)) := by kernel_rfl
theorem ok (k : Nat) : Ok Tryz.prog 205 (sem k) := Fd.ok (cx_ok trivial) ⟨Tryz.func205, rfl, by kernel_rfl⟩ rfl
attribute [irreducible] f lj8
end impl_parts
/-! loop.example/wholecheck/impl.kindsOf -/
namespace impl_kindsOf
noncomputable def D : Fd := ⟨Tryz.f179, 1, h62, (.ow .sh), [.sh, .sh], .unit, h8⟩
noncomputable def C (k : Nat) : Ctx := cx [(106, impl_in.sem k), (205, impl_parts.sem k)] [] [(5, [(1, none), (5, none), (24, none), (25, none), (26, none)])] [] [] [] []
noncomputable def sem (k : Nat) : Sem := D.sem (D.ev (C k) k)
noncomputable def f (k : Nat) (p0 : y2) (p1 : Int) : Option ((List Int) × Unit) := D.ev (C k) k (p0, p1, ())
noncomputable def l5 (k : Nat) (p0 : y2) (p1 : Int) (n : Nat) (v5_5 : (List Int)) (v26_5 : Int) : Option ((List Int) × Unit) :=
 D.lp (C k) k 5 [1, 1, 1, 0, 1, 0] [] n [(26, vI v26_5), (25, vI ((p0.length : Int))), (24, vS h7 p0), (5, vO h9 v5_5), (1, vI p1)]
theorem s5 (k : Nat) (p0 : y2) (p1 : Int) (n : Nat) (v5_5 : (List Int)) (v26_5 : Int) : l5 k p0 p1 (n + 1) v5_5 v26_5 =
 (if (decide (v26_5 < ((p0.length : Int)))) = true then
  gd ((0 : Int) ≤ v26_5) <| gd (v26_5 < (p0.length : Int)) <| (impl_parts.f k (p0.getD (v26_5.toNat) (0, (0, (0, 0)))).1).bind fun r3 =>
  (impl_in.f k (p0.getD (v26_5.toNat) (0, (0, (0, 0)))).1 0 9).bind fun r4 =>
  if ((p0.getD (v26_5.toNat) (0, (0, (0, 0)))).1 == 0) = true then
   (impl_in.f k (p0.getD (v26_5.toNat) (0, (0, (0, 0)))).2.1 (-9999) 9999).bind fun r5 =>
   if r5.1 = true then
    if ((p0.getD (v26_5.toNat) (0, (0, (0, 0)))).2.2.1 == 0) = true then
     if (!((p0.getD (v26_5.toNat) (0, (0, (0, 0)))).2.2.2 == 0)) = true then
      some ([], ())
     else
      gd ((v5_5.length : Int) + ([r3.1.2.2].length : Int) ≤ 1099511627776) <| l5 k p0 p1 n (v5_5 ++ [r3.1.2.2]) (w64 (v26_5 + 1))
    else
     if (!false) = true then
      some ([], ())
     else
      gd ((v5_5.length : Int) + ([r3.1.2.2].length : Int) ≤ 1099511627776) <| l5 k p0 p1 n (v5_5 ++ [r3.1.2.2]) (w64 (v26_5 + 1))
   else
    if (!false) = true then
     some ([], ())
    else
     gd ((v5_5.length : Int) + ([r3.1.2.2].length : Int) ≤ 1099511627776) <| l5 k p0 p1 n (v5_5 ++ [r3.1.2.2]) (w64 (v26_5 + 1))
  else
   if ((p0.getD (v26_5.toNat) (0, (0, (0, 0)))).1 == 1) = true then
    (impl_in.f k (p0.getD (v26_5.toNat) (0, (0, (0, 0)))).2.1 0 (w64 (p1 - 1))).bind fun r6 =>
    if r6.1 = true then
     if ((p0.getD (v26_5.toNat) (0, (0, (0, 0)))).2.2.1 == 0) = true then
      if (!((p0.getD (v26_5.toNat) (0, (0, (0, 0)))).2.2.2 == 0)) = true then
       some ([], ())
      else
       gd ((v5_5.length : Int) + ([r3.1.2.2].length : Int) ≤ 1099511627776) <| l5 k p0 p1 n (v5_5 ++ [r3.1.2.2]) (w64 (v26_5 + 1))
     else
      if (!false) = true then
       some ([], ())
      else
       gd ((v5_5.length : Int) + ([r3.1.2.2].length : Int) ≤ 1099511627776) <| l5 k p0 p1 n (v5_5 ++ [r3.1.2.2]) (w64 (v26_5 + 1))
    else
     if (!false) = true then
      some ([], ())
     else
      gd ((v5_5.length : Int) + ([r3.1.2.2].length : Int) ≤ 1099511627776) <| l5 k p0 p1 n (v5_5 ++ [r3.1.2.2]) (w64 (v26_5 + 1))
   else
    if r4.1 = true then
     if ((p0.getD (v26_5.toNat) (0, (0, (0, 0)))).2.1 == 0) = true then
      (impl_in.f k (p0.getD (v26_5.toNat) (0, (0, (0, 0)))).2.2.1 0 (w64 (v26_5 - 1))).bind fun r7 =>
      if r7.1 = true then
       (impl_in.f k (p0.getD (v26_5.toNat) (0, (0, (0, 0)))).2.2.2 0 (w64 (v26_5 - 1))).bind fun r8 =>
       if r8.1 = true then
        gd ((0 : Int) ≤ (p0.getD (v26_5.toNat) (0, (0, (0, 0)))).2.2.1) <| gd ((p0.getD (v26_5.toNat) (0, (0, (0, 0)))).2.2.1 < (v5_5.length : Int)) <| if ((v5_5.getD ((p0.getD (v26_5.toNat) (0, (0, (0, 0)))).2.2.1.toNat) 0) == r3.1.2.1) = true then
         gd ((0 : Int) ≤ (p0.getD (v26_5.toNat) (0, (0, (0, 0)))).2.2.2) <| gd ((p0.getD (v26_5.toNat) (0, (0, (0, 0)))).2.2.2 < (v5_5.length : Int)) <| if ((v5_5.getD ((p0.getD (v26_5.toNat) (0, (0, (0, 0)))).2.2.2.toNat) 0) == r3.1.2.1) = true then
          if (r3.1.1 == 2) = true then
           if (!true) = true then
            some ([], ())
           else
            gd ((v5_5.length : Int) + ([r3.1.2.2].length : Int) ≤ 1099511627776) <| l5 k p0 p1 n (v5_5 ++ [r3.1.2.2]) (w64 (v26_5 + 1))
          else
           if (!((p0.getD (v26_5.toNat) (0, (0, (0, 0)))).2.2.1 == (p0.getD (v26_5.toNat) (0, (0, (0, 0)))).2.2.2)) = true then
            some ([], ())
           else
            gd ((v5_5.length : Int) + ([r3.1.2.2].length : Int) ≤ 1099511627776) <| l5 k p0 p1 n (v5_5 ++ [r3.1.2.2]) (w64 (v26_5 + 1))
         else
          if (!false) = true then
           some ([], ())
          else
           gd ((v5_5.length : Int) + ([r3.1.2.2].length : Int) ≤ 1099511627776) <| l5 k p0 p1 n (v5_5 ++ [r3.1.2.2]) (w64 (v26_5 + 1))
        else
         if (!false) = true then
          some ([], ())
         else
          gd ((v5_5.length : Int) + ([r3.1.2.2].length : Int) ≤ 1099511627776) <| l5 k p0 p1 n (v5_5 ++ [r3.1.2.2]) (w64 (v26_5 + 1))
       else
        if (!false) = true then
         some ([], ())
        else
         gd ((v5_5.length : Int) + ([r3.1.2.2].length : Int) ≤ 1099511627776) <| l5 k p0 p1 n (v5_5 ++ [r3.1.2.2]) (w64 (v26_5 + 1))
      else
       if (!false) = true then
        some ([], ())
       else
        gd ((v5_5.length : Int) + ([r3.1.2.2].length : Int) ≤ 1099511627776) <| l5 k p0 p1 n (v5_5 ++ [r3.1.2.2]) (w64 (v26_5 + 1))
     else
      if (!false) = true then
       some ([], ())
      else
       gd ((v5_5.length : Int) + ([r3.1.2.2].length : Int) ≤ 1099511627776) <| l5 k p0 p1 n (v5_5 ++ [r3.1.2.2]) (w64 (v26_5 + 1))
    else
     if (!r4.1) = true then
      some ([], ())
     else
      gd ((v5_5.length : Int) + ([r3.1.2.2].length : Int) ≤ 1099511627776) <| l5 k p0 p1 n (v5_5 ++ [r3.1.2.2]) (w64 (v26_5 + 1))
 else
  gd (v5_5.length ≠ 0) <| some (v5_5, ())) := by kernel_rfl
theorem z5 (k : Nat) (p0 : y2) (p1 : Int) (v5_5 : (List Int)) (v26_5 : Int) : l5 k p0 p1 0 v5_5 v26_5 = none := by kernel_rfl
theorem s (k : Nat) (p0 : y2) (p1 : Int) : f k p0 p1 =
 ((impl_in.f k p1 0 5).bind fun r1 =>
 if (!r1.1) = true then
  some ([], ())
 else
  (impl_in.f k ((p0.length : Int)) 1 40).bind fun r2 =>
  if (!r2.1) = true then
   some ([], ())
  else
   gd ((0 : Int) ≤ 0) <| gd ((0 : Int) ≤ ((p0.length : Int))) <| gd ((((p0.length : Int)) : Int) ≤ 1099511627776) <| l5 k p0 p1 k ((List.replicate ((0 : Int)).toNat 0 : (List Int))) 0) := by kernel_rfl
theorem ok (k : Nat) : Ok Tryz.prog 179 (sem k) := Fd.ok (cx_ok ⟨impl_in.ok k, impl_parts.ok k, trivial⟩) ⟨Tryz.func179, rfl, by kernel_rfl⟩ rfl
attribute [irreducible] f l5
end impl_kindsOf
/-! loop.example/wholecheck/impl.kindOf -/
namespace impl_kindOf
noncomputable def D : Fd := ⟨Tryz.f144, 1, I, .sh, [.sh, .sh], .unit, h8⟩
noncomputable def C (k : Nat) : Ctx := cx [(179, impl_kindsOf.sem k)] [] [] [] [] [] []
noncomputable def sem (k : Nat) : Sem := D.sem (D.ev (C k) k)
noncomputable def f (k : Nat) (p0 : y2) (p1 : Int) : Option (Int × Unit) := D.ev (C k) k (p0, p1, ())
theorem s (k : Nat) (p0 : y2) (p1 : Int) : f k p0 p1 =
 ((impl_kindsOf.f k p0 p1).bind fun r1 =>
 if (decide (r1.1.length = 0)) = true then
  some (0, ())
 else
  gd ((0 : Int) ≤ (w64 (((r1.1.length : Int)) - 1))) <| gd ((w64 (((r1.1.length : Int)) - 1)) < (r1.1.length : Int)) <| some (r1.1.getD ((w64 (((r1.1.length : Int)) - 1)).toNat) 0, ())) := by kernel_rfl
theorem ok (k : Nat) : Ok Tryz.prog 144 (sem k) := Fd.ok (cx_ok ⟨impl_kindsOf.ok k, trivial⟩) ⟨Tryz.func144, rfl, by kernel_rfl⟩ rfl
attribute [irreducible] f
end impl_kindOf
/-! loop.example/wholecheck/impl.ruleOk -/
namespace impl_ruleOk
noncomputable def D : Fd := ⟨Tryz.f156, 1, .bool, .sh, [.sh, .sh], .unit, h16⟩
noncomputable def C (k : Nat) : Ctx := cx [(144, impl_kindOf.sem k), (106, impl_in.sem k)] [] [(4, [(1, none), (2, none), (22, none), (23, none), (24, none)])] [] [] [] []
noncomputable def sem (k : Nat) : Sem := D.sem (D.ev (C k) k)
noncomputable def f (k : Nat) (p0 : y5) (p1 : Int) : Option (Bool × Unit) := D.ev (C k) k (p0, p1, ())
noncomputable def l4 (k : Nat) (p0 : y5) (p1 : Int) (n : Nat) (v24_4 : Int) : Option (Bool × Unit) :=
 D.lp (C k) k 4 [1, 1, 0, 1, 0] [] n [(24, vI v24_4), (23, vI ((p0.2.1.length : Int))), (22, vS h9 p0.2.1), (2, .val h39 (.ow .sh) p0), (1, vI p1)]
theorem s4 (k : Nat) (p0 : y5) (p1 : Int) (n : Nat) (v24_4 : Int) : l4 k p0 p1 (n + 1) v24_4 =
 (if (decide (v24_4 < ((p0.2.1.length : Int)))) = true then
  gd ((0 : Int) ≤ v24_4) <| gd (v24_4 < (p0.2.1.length : Int)) <| (impl_in.f k (p0.2.1.getD (v24_4.toNat) 0) 0 (w64 (p1 - 1))).bind fun r2 =>
  if (!r2.1) = true then
   some (false, ())
  else
   if (decide (v24_4 > 0)) = true then
    gd ((0 : Int) ≤ (w64 (v24_4 - 1))) <| gd ((w64 (v24_4 - 1)) < (p0.2.1.length : Int)) <| if (decide ((p0.2.1.getD ((w64 (v24_4 - 1)).toNat) 0) ≥ (p0.2.1.getD (v24_4.toNat) 0))) = true then
     some (false, ())
    else
     gd ((0 : Int) ≤ v24_4) <| gd (v24_4 < (p0.2.2.length : Int)) <| (impl_kindOf.f k (p0.2.2.getD (v24_4.toNat) []) p1).bind fun r3 =>
     if (r3.1 != 1) = true then
      some (false, ())
     else
      l4 k p0 p1 n (w64 (v24_4 + 1))
   else
    gd ((0 : Int) ≤ v24_4) <| gd (v24_4 < (p0.2.2.length : Int)) <| (impl_kindOf.f k (p0.2.2.getD (v24_4.toNat) []) p1).bind fun r4 =>
    if (r4.1 != 1) = true then
     some (false, ())
    else
     l4 k p0 p1 n (w64 (v24_4 + 1))
 else
  some (true, ())) := by kernel_rfl
theorem z4 (k : Nat) (p0 : y5) (p1 : Int) (v24_4 : Int) : l4 k p0 p1 0 v24_4 = none := by kernel_rfl
theorem s (k : Nat) (p0 : y5) (p1 : Int) : f k p0 p1 =
 ((impl_kindOf.f k p0.1 p1).bind fun r1 =>
 if (r1.1 != 2) = true then
  some (false, ())
 else
  if (((p0.2.1.length : Int)) != ((p0.2.2.length : Int))) = true then
   some (false, ())
  else
   l4 k p0 p1 k 0) := by kernel_rfl
theorem ok (k : Nat) : Ok Tryz.prog 156 (sem k) := Fd.ok (cx_ok ⟨impl_kindOf.ok k, impl_in.ok k, trivial⟩) ⟨Tryz.func156, rfl, by kernel_rfl⟩ rfl
attribute [irreducible] f l4
end impl_ruleOk
/-! loop.example/wholecheck/impl.SystemValid$2 -/
namespace impl_SystemValid_2
noncomputable def D : Fd := ⟨Tryz.f155, 1, .bool, .sh, [.sh, .sh], .unit, h64⟩
noncomputable def C (k : Nat) : Ctx := cx [(156, impl_ruleOk.sem k)] [] [] [] [] [] []
noncomputable def sem (k : Nat) : Sem := D.sem (D.ev (C k) k)
noncomputable def f (k : Nat) (p0 : y5) (p1 : y7) : Option (Bool × Unit) := D.ev (C k) k (p0, p1, ())
theorem s (k : Nat) (p0 : y5) (p1 : y7) : f k p0 p1 =
 ((impl_ruleOk.f k p0 ((p1.1.length : Int))).bind fun r1 =>
 some (!r1.1, ())) := by kernel_rfl
theorem ok (k : Nat) : Ok Tryz.prog 155 (sem k) := Fd.ok (cx_ok ⟨impl_ruleOk.ok k, trivial⟩) ⟨Tryz.func155, rfl, by kernel_rfl⟩ rfl
attribute [irreducible] f
end impl_SystemValid_2
/-! slices.IndexFunc[[]loop.example/wholecheck/impl.Rule,loop.example/wholecheck/impl.Rule] -/
namespace slices_IndexFunc_impl_Rule_impl_Rule
noncomputable def D : Fd := ⟨Tryz.f182, 1, I, .sh, [.sh, .sh], .unit, h67⟩
noncomputable def C (k : Nat) : Ctx := cx [] [] [(2, [(0, none), (1, none), (7, none), (8, none)])] [] [] [] []
noncomputable def sem (k : Nat) : Sem := D.sem (D.ev (C k) k)
noncomputable def f (k : Nat) (p0 : y6) (p1 : y9) : Option (Int × Unit) := D.ev (C k) k (p0, p1, ())
noncomputable def l2 (k : Nat) (p0 : y6) (p1 : y9) (n : Nat) (v8_2 : Int) : Option (Int × Unit) :=
 D.lp (C k) k 2 [1, 0, 1, 0] [] n [(8, vI v8_2), (7, vI ((p0.length : Int))), (1, vS h65 p1), (0, vS h17 p0)]
theorem s2 (k : Nat) (p0 : y6) (p1 : y9) (n : Nat) (v8_2 : Int) : l2 k p0 p1 (n + 1) v8_2 =
 (if (decide (v8_2 < ((p0.length : Int)))) = true then
  gd ((0 : Int) ≤ v8_2) <| gd (v8_2 < (p0.length : Int)) <| (p1 (p0.getD (v8_2.toNat) ([], ([], [])))).bind fun r1 =>
  if r1 = true then
   some (v8_2, ())
  else
   l2 k p0 p1 n (w64 (v8_2 + 1))
 else
  some ((-1), ())) := by kernel_rfl
theorem z2 (k : Nat) (p0 : y6) (p1 : y9) (v8_2 : Int) : l2 k p0 p1 0 v8_2 = none := by kernel_rfl
theorem s (k : Nat) (p0 : y6) (p1 : y9) : f k p0 p1 =
 (l2 k p0 p1 k 0) := by kernel_rfl
theorem ok (k : Nat) : Ok Tryz.prog 182 (sem k) := Fd.ok (cx_ok trivial) ⟨Tryz.func182, rfl, by kernel_rfl⟩ rfl
attribute [irreducible] f l2
end slices_IndexFunc_impl_Rule_impl_Rule
/-! slices.ContainsFunc[[]loop.example/wholecheck/impl.Rule,loop.example/wholecheck/impl.Rule] -/
namespace slices_ContainsFunc_impl_Rule_impl_Rule
noncomputable def D : Fd := ⟨Tryz.f154, 1, .bool, .sh, [.sh, .sh], .unit, h67⟩
noncomputable def C (k : Nat) : Ctx := cx [(182, slices_IndexFunc_impl_Rule_impl_Rule.sem k)] [] [] [] [] [] []
noncomputable def sem (k : Nat) : Sem := D.sem (D.ev (C k) k)
noncomputable def f (k : Nat) (p0 : y6) (p1 : y9) : Option (Bool × Unit) := D.ev (C k) k (p0, p1, ())
theorem s (k : Nat) (p0 : y6) (p1 : y9) : f k p0 p1 =
 ((slices_IndexFunc_impl_Rule_impl_Rule.f k p0 p1).bind fun r1 =>
 some (decide (r1.1 ≥ 0), ())) := by kernel_rfl
theorem ok (k : Nat) : Ok Tryz.prog 154 (sem k) := Fd.ok (cx_ok ⟨slices_IndexFunc_impl_Rule_impl_Rule.ok k, trivial⟩) ⟨Tryz.func154, rfl, by kernel_rfl⟩ rfl
attribute [irreducible] f
end slices_ContainsFunc_impl_Rule_impl_Rule
/-! loop.example/wholecheck/impl.SystemValid -/
namespace impl_SystemValid
noncomputable def D : Fd := ⟨Tryz.f105, 1, .bool, .sh, [.sh], .unit, h32⟩
noncomputable def C (k : Nat) : Ctx := cx [(106, impl_in.sem k), (152, impl_SystemValid_1.sem k), (151, slices_ContainsFunc_impl_Var_impl_Var.sem k), (123, impl_size.sem k), (155, impl_SystemValid_2.sem k), (154, slices_ContainsFunc_impl_Rule_impl_Rule.sem k)] [] [] [] [] [] []
noncomputable def sem (k : Nat) : Sem := D.sem (D.ev (C k) k)
noncomputable def f (k : Nat) (p0 : y7) : Option (Bool × Unit) := D.ev (C k) k (p0, ())
theorem s (k : Nat) (p0 : y7) : f k p0 =
 ((impl_in.f k ((p0.1.length : Int)) 1 5).bind fun r1 =>
 if (!r1.1) = true then
  some (false, ())
 else
  if (decide (((p0.2.length : Int)) > 8)) = true then
   some (false, ())
  else
   (slices_ContainsFunc_impl_Var_impl_Var.f k p0.1 (fun p => (impl_SystemValid_1.f k p).bind fun r => some r.1)).bind fun r2 =>
   if r2.1 = true then
    some (false, ())
   else
    (impl_size.f k p0.1).bind fun r3 =>
    if (decide (r3.1 > 400)) = true then
     some (false, ())
    else
     (slices_ContainsFunc_impl_Rule_impl_Rule.f k p0.2 (fun p => (impl_SystemValid_2.f k p p0).bind fun r => some r.1)).bind fun r4 =>
     some (!r4.1, ())) := by kernel_rfl
theorem ok (k : Nat) : Ok Tryz.prog 105 (sem k) := Fd.ok (cx_ok ⟨impl_in.ok k, impl_SystemValid_1.ok k, slices_ContainsFunc_impl_Var_impl_Var.ok k, impl_size.ok k, impl_SystemValid_2.ok k, slices_ContainsFunc_impl_Rule_impl_Rule.ok k, trivial⟩) ⟨Tryz.func105, rfl, by kernel_rfl⟩ rfl
attribute [irreducible] f
end impl_SystemValid
/-! loop.example/wholecheck/impl.truthOf -/
namespace impl_truthOf
noncomputable def D : Fd := ⟨Tryz.f83, 1, .bool, .sh, [.sh, .sh], .unit, h45⟩
noncomputable def C (k : Nat) : Ctx := cx [(105, impl_SystemValid.sem k), (144, impl_kindOf.sem k)] [] [] [] [] [] []
noncomputable def sem (k : Nat) : Sem := D.sem (D.ev (C k) k)
noncomputable def f (k : Nat) (p0 : y7) (p1 : y2) : Option (Bool × Unit) := D.ev (C k) k (p0, p1, ())
theorem s (k : Nat) (p0 : y7) (p1 : y2) : f k p0 p1 =
 ((impl_SystemValid.f k p0).bind fun r1 =>
 if r1.1 = true then
  (impl_kindOf.f k p1 ((p0.1.length : Int))).bind fun r2 =>
  some (r2.1 == 2, ())
 else
  some (false, ())) := by kernel_rfl
theorem ok (k : Nat) : Ok Tryz.prog 83 (sem k) := Fd.ok (cx_ok ⟨impl_SystemValid.ok k, impl_kindOf.ok k, trivial⟩) ⟨Tryz.func83, rfl, by kernel_rfl⟩ rfl
attribute [irreducible] f
end impl_truthOf
/-! loop.example/wholecheck/impl.stateAt -/
namespace impl_stateAt
noncomputable def D : Fd := ⟨Tryz.f133, 1, h9, (.ow .sh), [.sh, .sh], .unit, h21⟩
noncomputable def C (k : Nat) : Ctx := cx [] [] [(3, [(1, none), (2, none), (5, none), (6, none)])] [] [(7, [0, 1, 2, 3, 4, 5, 6, 7, 8, 9])] [] []
noncomputable def sem (k : Nat) : Sem := D.sem (D.ev (C k) k)
noncomputable def f (k : Nat) (p0 : y7) (p1 : Int) : Option ((List Int) × Unit) := D.ev (C k) k (p0, p1, ())
noncomputable def l3 (k : Nat) (p0 : y7) (n : Nat) (v1_3 : Int) (v5_3 : (List Int)) (v6_3 : Int) : Option ((List Int) × Unit) :=
 D.lp (C k) k 3 [1, 1, 0, 1, 0] [] n [(6, vI v6_3), (5, vO h9 v5_3), (2, .val h40 (.ow .sh) p0), (1, vI v1_3)]
theorem s3 (k : Nat) (p0 : y7) (n : Nat) (v1_3 : Int) (v5_3 : (List Int)) (v6_3 : Int) : l3 k p0 (n + 1) v1_3 v5_3 v6_3 =
 (if (decide (v6_3 ≥ 0)) = true then
  gd ((0 : Int) ≤ v6_3) <| gd (v6_3 < (p0.1.length : Int)) <| gd (((w64 ((w64 ((p0.1.getD (v6_3.toNat) (0, (0, 0))).2.1 - (p0.1.getD (v6_3.toNat) (0, (0, 0))).1)) + 1)) : Int) ≠ 0) <| gd ((0 : Int) ≤ v6_3) <| gd (v6_3 < (v5_3.length : Int)) <| gd (((w64 ((w64 ((p0.1.getD (v6_3.toNat) (0, (0, 0))).2.1 - (p0.1.getD (v6_3.toNat) (0, (0, 0))).1)) + 1)) : Int) ≠ 0) <| l3 k p0 n (w64 (v1_3.tdiv (w64 ((w64 ((p0.1.getD (v6_3.toNat) (0, (0, 0))).2.1 - (p0.1.getD (v6_3.toNat) (0, (0, 0))).1)) + 1)))) (v5_3.set (v6_3.toNat) (w64 ((p0.1.getD (v6_3.toNat) (0, (0, 0))).1 + (v1_3.tmod (w64 ((w64 ((p0.1.getD (v6_3.toNat) (0, (0, 0))).2.1 - (p0.1.getD (v6_3.toNat) (0, (0, 0))).1)) + 1)))))) (w64 (v6_3 - 1))
 else
  some (v5_3, ())) := by kernel_rfl
theorem z3 (k : Nat) (p0 : y7) (v1_3 : Int) (v5_3 : (List Int)) (v6_3 : Int) : l3 k p0 0 v1_3 v5_3 v6_3 = none := by kernel_rfl
theorem s (k : Nat) (p0 : y7) (p1 : Int) : f k p0 p1 =
 (gd ((0 : Int) ≤ ((p0.1.length : Int))) <| gd ((((p0.1.length : Int)) : Int) ≤ 1099511627776) <| l3 k p0 k p1 ((List.replicate ((p0.1.length : Int)).toNat 0 : (List Int))) (w64 (((((List.replicate ((p0.1.length : Int)).toNat 0 : (List Int))).length : Int)) - 1))) := by kernel_rfl
theorem ok (k : Nat) : Ok Tryz.prog 133 (sem k) := Fd.ok (cx_ok trivial) ⟨Tryz.func133, rfl, by kernel_rfl⟩ rfl
attribute [irreducible] f l3
end impl_stateAt
/-! loop.example/wholecheck/impl.held -/
namespace impl_held
noncomputable def D : Fd := ⟨Tryz.f210, 1, I, .sh, [.sh], .unit, h3⟩
noncomputable def C (k : Nat) : Ctx := cx [] [] [] [] [] [] []
noncomputable def sem (k : Nat) : Sem := D.sem (D.ev (C k) k)
noncomputable def f (k : Nat) (p0 : Int) : Option (Int × Unit) := D.ev (C k) k (p0, ())
theorem s (k : Nat) (p0 : Int) : f k p0 =
 (some (mx (-9999) (mn 9999 p0), ())) := by kernel_rfl
theorem ok (k : Nat) : Ok Tryz.prog 210 (sem k) := Fd.ok (cx_ok trivial) ⟨Tryz.func210, rfl, by kernel_rfl⟩ rfl
attribute [irreducible] f
end impl_held
/-! loop.example/wholecheck/impl.bit -/
namespace impl_bit
noncomputable def D : Fd := ⟨Tryz.f163, 1, I, .sh, [.sh], .unit, h43⟩
noncomputable def C (k : Nat) : Ctx := cx [] [] [] [] [] [] []
noncomputable def sem (k : Nat) : Sem := D.sem (D.ev (C k) k)
noncomputable def f (k : Nat) (p0 : Bool) : Option (Int × Unit) := D.ev (C k) k (p0, ())
theorem s (k : Nat) (p0 : Bool) : f k p0 =
 (if p0 = true then
  some (1, ())
 else
  some (0, ())) := by kernel_rfl
theorem ok (k : Nat) : Ok Tryz.prog 163 (sem k) := Fd.ok (cx_ok trivial) ⟨Tryz.func163, rfl, by kernel_rfl⟩ rfl
attribute [irreducible] f
end impl_bit
/-! loop.example/wholecheck/impl.do -/
namespace impl_do
noncomputable def D : Fd := ⟨Tryz.f187, 1, I, .sh, [.sh, .sh, .sh], .unit, h35⟩
noncomputable def C (k : Nat) : Ctx := cx [(210, impl_held.sem k), (163, impl_bit.sem k)] [] [] [] [] [] []
noncomputable def sem (k : Nat) : Sem := D.sem (D.ev (C k) k)
noncomputable def f (k : Nat) (p0 p1 p2 : Int) : Option (Int × Unit) := D.ev (C k) k (p0, p1, p2, ())
theorem s (k : Nat) (p0 p1 p2 : Int) : f k p0 p1 p2 =
 (if (p0 == 2) = true then
  (impl_held.f k (w64 (p1 + p2))).bind fun r1 =>
  some (r1.1, ())
 else
  if (p0 == 3) = true then
   (impl_held.f k (w64 (p1 - p2))).bind fun r2 =>
   some (r2.1, ())
  else
   if (p0 == 4) = true then
    (impl_held.f k (w64 (p1 * p2))).bind fun r3 =>
    some (r3.1, ())
   else
    if (p0 == 5) = true then
     (impl_bit.f k (decide (p1 < p2))).bind fun r4 =>
     some (r4.1, ())
    else
     if (p0 == 6) = true then
      (impl_bit.f k (p1 == p2)).bind fun r5 =>
      some (r5.1, ())
     else
      if (p0 == 7) = true then
       some (w64 (1 - p1), ())
      else
       if (p0 == 8) = true then
        some (mn p1 p2, ())
       else
        some (mx p1 p2, ())) := by kernel_rfl
theorem ok (k : Nat) : Ok Tryz.prog 187 (sem k) := Fd.ok (cx_ok ⟨impl_held.ok k, impl_bit.ok k, trivial⟩) ⟨Tryz.func187, rfl, by kernel_rfl⟩ rfl
attribute [irreducible] f
end impl_do
/-! loop.example/wholecheck/impl.eval -/
namespace impl_eval
noncomputable def D : Fd := ⟨Tryz.f160, 1, I, .sh, [.sh, .sh], .unit, h44⟩
noncomputable def C (k : Nat) : Ctx := cx [(187, impl_do.sem k)] [] [(3, [(1, none), (5, none), (11, none), (12, none), (13, none)])] [] [(6, [0, 1, 2, 3, 4, 5, 6, 7, 8, 9, 10, 11, 12, 13, 14, 15, 16])] [] []
noncomputable def sem (k : Nat) : Sem := D.sem (D.ev (C k) k)
noncomputable def f (k : Nat) (p0 : y2) (p1 : (List Int)) : Option (Int × Unit) := D.ev (C k) k (p0, p1, ())
noncomputable def l3 (k : Nat) (p0 : y2) (p1 : (List Int)) (n : Nat) (v5_3 : (List Int)) (v13_3 : Int) : Option (Int × Unit) :=
 D.lp (C k) k 3 [1, 1, 0, 1, 0] [] n [(13, vI v13_3), (12, vI ((p0.length : Int))), (11, vS h7 p0), (5, vO h9 v5_3), (1, vS h9 p1)]
theorem s3 (k : Nat) (p0 : y2) (p1 : (List Int)) (n : Nat) (v5_3 : (List Int)) (v13_3 : Int) : l3 k p0 p1 (n + 1) v5_3 v13_3 =
 (if (decide (v13_3 < ((p0.length : Int)))) = true then
  gd ((0 : Int) ≤ v13_3) <| gd (v13_3 < (p0.length : Int)) <| if ((p0.getD (v13_3.toNat) (0, (0, (0, 0)))).1 == 0) = true then
   gd ((0 : Int) ≤ v13_3) <| gd (v13_3 < (v5_3.length : Int)) <| l3 k p0 p1 n (v5_3.set (v13_3.toNat) (p0.getD (v13_3.toNat) (0, (0, (0, 0)))).2.1) (w64 (v13_3 + 1))
  else
   if ((p0.getD (v13_3.toNat) (0, (0, (0, 0)))).1 == 1) = true then
    gd ((0 : Int) ≤ (p0.getD (v13_3.toNat) (0, (0, (0, 0)))).2.1) <| gd ((p0.getD (v13_3.toNat) (0, (0, (0, 0)))).2.1 < (p1.length : Int)) <| gd ((0 : Int) ≤ v13_3) <| gd (v13_3 < (v5_3.length : Int)) <| l3 k p0 p1 n (v5_3.set (v13_3.toNat) (p1.getD ((p0.getD (v13_3.toNat) (0, (0, (0, 0)))).2.1.toNat) 0)) (w64 (v13_3 + 1))
   else
    gd ((0 : Int) ≤ (p0.getD (v13_3.toNat) (0, (0, (0, 0)))).2.2.1) <| gd ((p0.getD (v13_3.toNat) (0, (0, (0, 0)))).2.2.1 < (v5_3.length : Int)) <| gd ((0 : Int) ≤ (p0.getD (v13_3.toNat) (0, (0, (0, 0)))).2.2.2) <| gd ((p0.getD (v13_3.toNat) (0, (0, (0, 0)))).2.2.2 < (v5_3.length : Int)) <| (impl_do.f k (p0.getD (v13_3.toNat) (0, (0, (0, 0)))).1 (v5_3.getD ((p0.getD (v13_3.toNat) (0, (0, (0, 0)))).2.2.1.toNat) 0) (v5_3.getD ((p0.getD (v13_3.toNat) (0, (0, (0, 0)))).2.2.2.toNat) 0)).bind fun r1 =>
    gd ((0 : Int) ≤ v13_3) <| gd (v13_3 < (v5_3.length : Int)) <| l3 k p0 p1 n (v5_3.set (v13_3.toNat) r1.1) (w64 (v13_3 + 1))
 else
  gd ((0 : Int) ≤ (w64 (((v5_3.length : Int)) - 1))) <| gd ((w64 (((v5_3.length : Int)) - 1)) < (v5_3.length : Int)) <| some (v5_3.getD ((w64 (((v5_3.length : Int)) - 1)).toNat) 0, ())) := by kernel_rfl
theorem z3 (k : Nat) (p0 : y2) (p1 : (List Int)) (v5_3 : (List Int)) (v13_3 : Int) : l3 k p0 p1 0 v5_3 v13_3 = none := by kernel_rfl
theorem s (k : Nat) (p0 : y2) (p1 : (List Int)) : f k p0 p1 =
 (gd ((0 : Int) ≤ ((p0.length : Int))) <| gd ((((p0.length : Int)) : Int) ≤ 1099511627776) <| l3 k p0 p1 k ((List.replicate ((p0.length : Int)).toNat 0 : (List Int))) 0) := by kernel_rfl
theorem ok (k : Nat) : Ok Tryz.prog 160 (sem k) := Fd.ok (cx_ok ⟨impl_do.ok k, trivial⟩) ⟨Tryz.func160, rfl, by kernel_rfl⟩ rfl
attribute [irreducible] f l3
end impl_eval
/-! loop.example/wholecheck/impl.where -/
namespace impl_where
noncomputable def D : Fd := ⟨Tryz.f122, 1, h46, (.ow .sh), [.sh, .sh], .unit, h45⟩
noncomputable def C (k : Nat) : Ctx := cx [(123, impl_size.sem k), (133, impl_stateAt.sem k), (160, impl_eval.sem k)] [] [(3, [(1, none), (2, none), (5, none), (12, none), (13, none)])] [] [] [] []
noncomputable def sem (k : Nat) : Sem := D.sem (D.ev (C k) k)
noncomputable def f (k : Nat) (p0 : y7) (p1 : y2) : Option ((List Bool) × Unit) := D.ev (C k) k (p0, p1, ())
noncomputable def l3 (k : Nat) (p0 : y7) (p1 : y2) (n : Nat) (v5_3 : (List Bool)) (v12_3 v13_3 : Int) : Option ((List Bool) × Unit) :=
 D.lp (C k) k 3 [1, 1, 0, 1, 0] [] n [(13, vI v13_3), (12, vI v12_3), (5, vO h46 v5_3), (2, .val h40 (.ow .sh) p0), (1, vS h7 p1)]
theorem s3 (k : Nat) (p0 : y7) (p1 : y2) (n : Nat) (v5_3 : (List Bool)) (v12_3 v13_3 : Int) : l3 k p0 p1 (n + 1) v5_3 v12_3 v13_3 =
 (if (decide (v13_3 < v12_3)) = true then
  (impl_stateAt.f k p0 v13_3).bind fun r2 =>
  (impl_eval.f k p1 r2.1).bind fun r3 =>
  gd ((0 : Int) ≤ v13_3) <| gd (v13_3 < (v5_3.length : Int)) <| l3 k p0 p1 n (v5_3.set (v13_3.toNat) (r3.1 == 1)) v12_3 (w64 (v13_3 + 1))
 else
  some (v5_3, ())) := by kernel_rfl
theorem z3 (k : Nat) (p0 : y7) (p1 : y2) (v5_3 : (List Bool)) (v12_3 v13_3 : Int) : l3 k p0 p1 0 v5_3 v12_3 v13_3 = none := by kernel_rfl
theorem s (k : Nat) (p0 : y7) (p1 : y2) : f k p0 p1 =
 ((impl_size.f k p0.1).bind fun r1 =>
 gd ((0 : Int) ≤ r1.1) <| gd ((r1.1 : Int) ≤ 1099511627776) <| l3 k p0 p1 k ((List.replicate r1.1.toNat false : (List Bool))) ((((List.replicate r1.1.toNat false : (List Bool))).length : Int)) 0) := by kernel_rfl
theorem ok (k : Nat) : Ok Tryz.prog 122 (sem k) := Fd.ok (cx_ok ⟨impl_size.ok k, impl_stateAt.ok k, impl_eval.ok k, trivial⟩) ⟨Tryz.func122, rfl, by kernel_rfl⟩ rfl
attribute [irreducible] f l3
end impl_where
/-! loop.example/wholecheck/impl.goodIn -/
namespace impl_goodIn
noncomputable def D : Fd := ⟨Tryz.f67, 2, h68, (.pr (.ow .sh) .sh), [.sh, .sh], .unit, h45⟩
noncomputable def C (k : Nat) : Ctx := cx [(83, impl_truthOf.sem k), (122, impl_where.sem k)] [] [] [] [] [] []
noncomputable def sem (k : Nat) : Sem := D.sem (D.ev (C k) k)
noncomputable def f (k : Nat) (p0 : y7) (p1 : y2) : Option (((List Bool) × Bool) × Unit) := D.ev (C k) k (p0, p1, ())
theorem s (k : Nat) (p0 : y7) (p1 : y2) : f k p0 p1 =
 ((impl_truthOf.f k p0 p1).bind fun r1 =>
 if (!r1.1) = true then
  some (([], false), ())
 else
  (impl_where.f k p0 p1).bind fun r2 =>
  some ((r2.1, true), ())) := by kernel_rfl
theorem ok (k : Nat) : Ok Tryz.prog 67 (sem k) := Fd.ok (cx_ok ⟨impl_truthOf.ok k, impl_where.ok k, trivial⟩) ⟨Tryz.func67, rfl, by kernel_rfl⟩ rfl
attribute [irreducible] f
end impl_goodIn
/-! loop.example/wholecheck/impl.blocksOk -/
namespace impl_blocksOk
noncomputable def D : Fd := ⟨Tryz.f68, 1, .bool, .sh, [.sh, .sh], .unit, h41⟩
noncomputable def C (k : Nat) : Ctx := cx [(123, impl_size.sem k), (106, impl_in.sem k)] [] [(4, [(3, none), (15, none), (16, none), (17, none)])] [] [(1, [0, 1, 2, 3, 4, 5, 6])] [((1, 5), [3])] []
noncomputable def sem (k : Nat) : Sem := D.sem (D.ev (C k) k)
noncomputable def f (k : Nat) (p0 : y7) (p1 : (List Int)) : Option (Bool × Unit) := D.ev (C k) k (p0, p1, ())
noncomputable def l4 (k : Nat) (p1 : (List Int)) (n : Nat) (v17_4 : Int) : Option (Bool × Unit) :=
 D.lp (C k) k 4 [1, 1, 0, 1, 0] [] n [(17, vI v17_4), (16, vI ((p1.length : Int))), (15, vS h9 p1), (3, .val h42 (.ow .sh) p1)]
theorem s4 (k : Nat) (p1 : (List Int)) (n : Nat) (v17_4 : Int) : l4 k p1 (n + 1) v17_4 =
 (if (decide (v17_4 < ((p1.length : Int)))) = true then
  gd ((0 : Int) ≤ v17_4) <| gd (v17_4 < (p1.length : Int)) <| (impl_in.f k (p1.getD (v17_4.toNat) 0) 0 v17_4).bind fun r2 =>
  if (!r2.1) = true then
   some (false, ())
  else
   gd ((0 : Int) ≤ (p1.getD (v17_4.toNat) 0)) <| gd ((p1.getD (v17_4.toNat) 0) < (p1.length : Int)) <| if ((p1.getD ((p1.getD (v17_4.toNat) 0).toNat) 0) != (p1.getD (v17_4.toNat) 0)) = true then
    some (false, ())
   else
    l4 k p1 n (w64 (v17_4 + 1))
 else
  some (true, ())) := by kernel_rfl
theorem z4 (k : Nat) (p1 : (List Int)) (v17_4 : Int) : l4 k p1 0 v17_4 = none := by kernel_rfl
theorem s (k : Nat) (p0 : y7) (p1 : (List Int)) : f k p0 p1 =
 ((impl_size.f k p0.1).bind fun r1 =>
 if (((p1.length : Int)) != r1.1) = true then
  some (false, ())
 else
  l4 k p1 k 0) := by kernel_rfl
theorem ok (k : Nat) : Ok Tryz.prog 68 (sem k) := Fd.ok (cx_ok ⟨impl_size.ok k, impl_in.ok k, trivial⟩) ⟨Tryz.func68, rfl, by kernel_rfl⟩ rfl
attribute [irreducible] f l4
end impl_blocksOk
/-! loop.example/wholecheck/impl.clone[int] -/
namespace impl_clone_int
noncomputable def D : Fd := ⟨Tryz.f94, 1, h9, (.ow .sh), [.sh], .unit, h28⟩
noncomputable def C (k : Nat) : Ctx := cx [] [] [] [] [] [] []
noncomputable def sem (k : Nat) : Sem := D.sem (D.ev (C k) k)
noncomputable def f (k : Nat) (p0 : (List Int)) : Option ((List Int) × Unit) := D.ev (C k) k (p0, ())
theorem s (k : Nat) (p0 : (List Int)) : f k p0 =
 (if (((p0.length : Int)) == 0) = true then
  some ([], ())
 else
  gd ((0 : Int) ≤ ((p0.length : Int))) <| gd ((((p0.length : Int)) : Int) ≤ 1099511627776) <| some (p0.take ((List.replicate ((p0.length : Int)).toNat 0 : (List Int))).length ++ ((List.replicate ((p0.length : Int)).toNat 0 : (List Int))).drop p0.length, ())) := by kernel_rfl
theorem ok (k : Nat) : Ok Tryz.prog 94 (sem k) := Fd.ok (cx_ok trivial) ⟨Tryz.func94, rfl, by kernel_rfl⟩ rfl
attribute [irreducible] f
end impl_clone_int
/-! loop.example/wholecheck/impl.inRange -/
namespace impl_inRange
noncomputable def D : Fd := ⟨Tryz.f190, 1, .bool, .sh, [.sh, .sh], .unit, h47⟩
noncomputable def C (k : Nat) : Ctx := cx [(106, impl_in.sem k)] [] [(4, [(1, none), (14, none), (15, none), (16, none)])] [] [(6, [0, 1, 2, 3, 4, 5, 6, 7, 8, 9])] [] []
noncomputable def sem (k : Nat) : Sem := D.sem (D.ev (C k) k)
noncomputable def f (k : Nat) (p0 : y7) (p1 : (List Int)) : Option (Bool × Unit) := D.ev (C k) k (p0, p1, ())
noncomputable def l4 (k : Nat) (p0 : y7) (p1 : (List Int)) (n : Nat) (v16_4 : Int) : Option (Bool × Unit) :=
 D.lp (C k) k 4 [1, 1, 0, 1, 0] [] n [(16, vI v16_4), (15, vI ((p0.1.length : Int))), (14, vS h2 p0.1), (1, vS h9 p1)]
theorem s4 (k : Nat) (p0 : y7) (p1 : (List Int)) (n : Nat) (v16_4 : Int) : l4 k p0 p1 (n + 1) v16_4 =
 (if (decide (v16_4 < ((p0.1.length : Int)))) = true then
  gd ((0 : Int) ≤ v16_4) <| gd (v16_4 < (p0.1.length : Int)) <| gd ((0 : Int) ≤ v16_4) <| gd (v16_4 < (p1.length : Int)) <| (impl_in.f k (p1.getD (v16_4.toNat) 0) (p0.1.getD (v16_4.toNat) (0, (0, 0))).1 (p0.1.getD (v16_4.toNat) (0, (0, 0))).2.1).bind fun r1 =>
  if (!r1.1) = true then
   some (false, ())
  else
   l4 k p0 p1 n (w64 (v16_4 + 1))
 else
  some (true, ())) := by kernel_rfl
theorem z4 (k : Nat) (p0 : y7) (p1 : (List Int)) (v16_4 : Int) : l4 k p0 p1 0 v16_4 = none := by kernel_rfl
theorem s (k : Nat) (p0 : y7) (p1 : (List Int)) : f k p0 p1 =
 (if (((p1.length : Int)) != ((p0.1.length : Int))) = true then
  some (false, ())
 else
  l4 k p0 p1 k 0) := by kernel_rfl
theorem ok (k : Nat) : Ok Tryz.prog 190 (sem k) := Fd.ok (cx_ok ⟨impl_in.ok k, trivial⟩) ⟨Tryz.func190, rfl, by kernel_rfl⟩ rfl
attribute [irreducible] f l4
end impl_inRange
/-! loop.example/wholecheck/impl.use -/
namespace impl_use
noncomputable def D : Fd := ⟨Tryz.f183, 2, h56, (.pr (.ow .sh) .sh), [.sh, .sh, .sh], .unit, h48⟩
noncomputable def C (k : Nat) : Ctx := cx [(160, impl_eval.sem k), (94, impl_clone_int.sem k), (190, impl_inRange.sem k)] [] [(6, [(1, none), (3, none), (8, none), (9, none), (25, none), (26, none), (27, none)])] [] [] [] []
noncomputable def sem (k : Nat) : Sem := D.sem (D.ev (C k) k)
noncomputable def f (k : Nat) (p0 : y7) (p1 : (List Int)) (p2 : Int) : Option (((List Int) × Bool) × Unit) := D.ev (C k) k (p0, p1, p2, ())
noncomputable def l6 (k : Nat) (p0 : y7) (p1 : (List Int)) (p2 : Int) (n : Nat) (v9_6 : (List Int)) (v27_6 : Int) : Option (((List Int) × Bool) × Unit) :=
 D.lp (C k) k 6 [1, 1, 1, 1, 0, 1, 0] [] n [(27, vI v27_6), (26, vI (((p0.2.getD (p2.toNat) ([], ([], []))).2.1.length : Int))), (25, vS h9 (p0.2.getD (p2.toNat) ([], ([], []))).2.1), (9, vO h9 v9_6), (8, .val h39 (.ow .sh) (p0.2.getD (p2.toNat) ([], ([], [])))), (3, .val h40 (.ow .sh) p0), (1, vS h9 p1)]
theorem s6 (k : Nat) (p0 : y7) (p1 : (List Int)) (p2 : Int) (n : Nat) (v9_6 : (List Int)) (v27_6 : Int) : l6 k p0 p1 p2 (n + 1) v9_6 v27_6 =
 (if (decide (v27_6 < (((p0.2.getD (p2.toNat) ([], ([], []))).2.1.length : Int)))) = true then
  gd ((0 : Int) ≤ v27_6) <| gd (v27_6 < ((p0.2.getD (p2.toNat) ([], ([], []))).2.1.length : Int)) <| gd ((0 : Int) ≤ v27_6) <| gd (v27_6 < ((p0.2.getD (p2.toNat) ([], ([], []))).2.2.length : Int)) <| (impl_eval.f k ((p0.2.getD (p2.toNat) ([], ([], []))).2.2.getD (v27_6.toNat) []) p1).bind fun r3 =>
  gd ((0 : Int) ≤ ((p0.2.getD (p2.toNat) ([], ([], []))).2.1.getD (v27_6.toNat) 0)) <| gd (((p0.2.getD (p2.toNat) ([], ([], []))).2.1.getD (v27_6.toNat) 0) < (v9_6.length : Int)) <| l6 k p0 p1 p2 n (v9_6.set (((p0.2.getD (p2.toNat) ([], ([], []))).2.1.getD (v27_6.toNat) 0).toNat) r3.1) (w64 (v27_6 + 1))
 else
  (impl_inRange.f k p0 v9_6).bind fun r4 =>
  if (!r4.1) = true then
   some (([], false), ())
  else
   some ((v9_6, true), ())) := by kernel_rfl
theorem z6 (k : Nat) (p0 : y7) (p1 : (List Int)) (p2 : Int) (v9_6 : (List Int)) (v27_6 : Int) : l6 k p0 p1 p2 0 v9_6 v27_6 = none := by kernel_rfl
theorem s (k : Nat) (p0 : y7) (p1 : (List Int)) (p2 : Int) : f k p0 p1 p2 =
 (gd ((0 : Int) ≤ p2) <| gd (p2 < (p0.2.length : Int)) <| (impl_eval.f k (p0.2.getD (p2.toNat) ([], ([], []))).1 p1).bind fun r1 =>
 if (r1.1 == 0) = true then
  some (([], false), ())
 else
  (impl_clone_int.f k p1).bind fun r2 =>
  l6 k p0 p1 p2 k r2.1 0) := by kernel_rfl
theorem ok (k : Nat) : Ok Tryz.prog 183 (sem k) := Fd.ok (cx_ok ⟨impl_eval.ok k, impl_clone_int.ok k, impl_inRange.ok k, trivial⟩) ⟨Tryz.func183, rfl, by kernel_rfl⟩ rfl
attribute [irreducible] f l6
end impl_use
/-! cmp.isNaN[int] -/
namespace cmp_isNaN_int
noncomputable def D : Fd := ⟨Tryz.f216, 1, .bool, .sh, [.sh], .unit, h3⟩
noncomputable def C (k : Nat) : Ctx := cx [] [] [] [] [] [] []
noncomputable def sem (k : Nat) : Sem := D.sem (D.ev (C k) k)
noncomputable def f (k : Nat) (p0 : Int) : Option (Bool × Unit) := D.ev (C k) k (p0, ())
theorem s (k : Nat) (p0 : Int) : f k p0 =
 (some (p0 != p0, ())) := by kernel_rfl
theorem ok (k : Nat) : Ok Tryz.prog 216 (sem k) := Fd.ok (cx_ok trivial) ⟨Tryz.func216, rfl, by kernel_rfl⟩ rfl
attribute [irreducible] f
end cmp_isNaN_int
/-! cmp.Compare[int] -/
namespace cmp_Compare_int
noncomputable def D : Fd := ⟨Tryz.f207, 1, I, .sh, [.sh, .sh], .unit, h34⟩
noncomputable def C (k : Nat) : Ctx := cx [(216, cmp_isNaN_int.sem k)] [] [] [] [] [] []
noncomputable def sem (k : Nat) : Sem := D.sem (D.ev (C k) k)
noncomputable def f (k : Nat) (p0 p1 : Int) : Option (Int × Unit) := D.ev (C k) k (p0, p1, ())
theorem s (k : Nat) (p0 p1 : Int) : f k p0 p1 =
 ((cmp_isNaN_int.f k p0).bind fun r1 =>
 (cmp_isNaN_int.f k p1).bind fun r2 =>
 if r1.1 = true then
  if r2.1 = true then
   some (0, ())
  else
   some ((-1), ())
 else
  if r2.1 = true then
   some (1, ())
  else
   if (decide (p0 < p1)) = true then
    some ((-1), ())
   else
    if (decide (p0 > p1)) = true then
     some (1, ())
    else
     some (0, ())) := by kernel_rfl
theorem ok (k : Nat) : Ok Tryz.prog 207 (sem k) := Fd.ok (cx_ok ⟨cmp_isNaN_int.ok k, trivial⟩) ⟨Tryz.func207, rfl, by kernel_rfl⟩ rfl
attribute [irreducible] f
end cmp_Compare_int
/-! slices.Compare[[]int,int] -/
namespace slices_Compare_int_int
noncomputable def D : Fd := ⟨Tryz.f185, 1, I, .sh, [.sh, .sh], .unit, h49⟩
noncomputable def C (k : Nat) : Ctx := cx [(207, cmp_Compare_int.sem k)] [] [(2, [(0, none), (1, none), (9, none), (10, none), (11, none)])] [] [] [] []
noncomputable def sem (k : Nat) : Sem := D.sem (D.ev (C k) k)
noncomputable def f (k : Nat) (p0 p1 : (List Int)) : Option (Int × Unit) := D.ev (C k) k (p0, p1, ())
noncomputable def l2 (k : Nat) (p0 p1 : (List Int)) (n : Nat) (v11_2 : Int) : Option (Int × Unit) :=
 D.lp (C k) k 2 [1, 0, 1, 0] [] n [(11, vI v11_2), (10, vI ((p0.length : Int))), (9, vS h9 p0), (1, vS h9 p1), (0, vS h9 p0)]
theorem s2 (k : Nat) (p0 p1 : (List Int)) (n : Nat) (v11_2 : Int) : l2 k p0 p1 (n + 1) v11_2 =
 (if (decide (v11_2 < ((p0.length : Int)))) = true then
  gd ((0 : Int) ≤ v11_2) <| gd (v11_2 < (p0.length : Int)) <| if (decide (v11_2 ≥ ((p1.length : Int)))) = true then
   some (1, ())
  else
   gd ((0 : Int) ≤ v11_2) <| gd (v11_2 < (p1.length : Int)) <| (cmp_Compare_int.f k (p0.getD (v11_2.toNat) 0) (p1.getD (v11_2.toNat) 0)).bind fun r1 =>
   if (r1.1 != 0) = true then
    some (r1.1, ())
   else
    l2 k p0 p1 n (w64 (v11_2 + 1))
 else
  if (decide (((p0.length : Int)) < ((p1.length : Int)))) = true then
   some ((-1), ())
  else
   some (0, ())) := by kernel_rfl
theorem z2 (k : Nat) (p0 p1 : (List Int)) (v11_2 : Int) : l2 k p0 p1 0 v11_2 = none := by kernel_rfl
theorem s (k : Nat) (p0 p1 : (List Int)) : f k p0 p1 =
 (l2 k p0 p1 k 0) := by kernel_rfl
theorem ok (k : Nat) : Ok Tryz.prog 185 (sem k) := Fd.ok (cx_ok ⟨cmp_Compare_int.ok k, trivial⟩) ⟨Tryz.func185, rfl, by kernel_rfl⟩ rfl
attribute [irreducible] f l2
end slices_Compare_int_int
/-! slices.BinarySearchFunc[[][]int,[]int,[]int] -/
namespace slices_BinarySearchFunc_int_int_int
noncomputable def D : Fd := ⟨Tryz.f184, 2, h69, (.pr .sh .sh), [.sh, .sh, .sh], .unit, h73⟩
noncomputable def C (k : Nat) : Ctx := cx [] [] [(3, [(0, none), (1, none), (2, none), (8, none), (9, none), (10, none)])] [] [] [] []
noncomputable def sem (k : Nat) : Sem := D.sem (D.ev (C k) k)
noncomputable def f (k : Nat) (p0 : (List (List Int))) (p1 : (List Int)) (p2 : y11) : Option ((Int × Bool) × Unit) := D.ev (C k) k (p0, p1, p2, ())
noncomputable def l3 (k : Nat) (p0 : (List (List Int))) (p1 : (List Int)) (p2 : y11) (n : Nat) (v9_3 v10_3 : Int) : Option ((Int × Bool) × Unit) :=
 D.lp (C k) k 3 [1, 1, 1, 0, 0] [] n [(10, vI v10_3), (9, vI v9_3), (8, vI ((p0.length : Int))), (2, vS h70 p2), (1, vS h9 p1), (0, vS h50 p0)]
theorem s3 (k : Nat) (p0 : (List (List Int))) (p1 : (List Int)) (p2 : y11) (n : Nat) (v9_3 v10_3 : Int) : l3 k p0 p1 p2 (n + 1) v9_3 v10_3 =
 (if (decide (v9_3 < v10_3)) = true then
  gd ((0 : Int) ≤ 1) <| gd ((0 : Int) ≤ (w64 ((IntKind.u64.wrap (w64 (v9_3 + v10_3))).fdiv (2 ^ (min (Int.toNat 1) IntKind.u64.bits))))) <| gd ((w64 ((IntKind.u64.wrap (w64 (v9_3 + v10_3))).fdiv (2 ^ (min (Int.toNat 1) IntKind.u64.bits)))) < (p0.length : Int)) <| (p2 (p0.getD ((w64 ((IntKind.u64.wrap (w64 (v9_3 + v10_3))).fdiv (2 ^ (min (Int.toNat 1) IntKind.u64.bits)))).toNat) [], (p1, ()))).bind fun r1 =>
  if (decide (r1 < 0)) = true then
   l3 k p0 p1 p2 n (w64 ((w64 ((IntKind.u64.wrap (w64 (v9_3 + v10_3))).fdiv (2 ^ (min (Int.toNat 1) IntKind.u64.bits)))) + 1)) v10_3
  else
   l3 k p0 p1 p2 n v9_3 (w64 ((IntKind.u64.wrap (w64 (v9_3 + v10_3))).fdiv (2 ^ (min (Int.toNat 1) IntKind.u64.bits))))
 else
  if (decide (v9_3 < ((p0.length : Int)))) = true then
   gd ((0 : Int) ≤ v9_3) <| gd (v9_3 < (p0.length : Int)) <| (p2 (p0.getD (v9_3.toNat) [], (p1, ()))).bind fun r2 =>
   some ((v9_3, r2 == 0), ())
  else
   some ((v9_3, false), ())) := by kernel_rfl
theorem z3 (k : Nat) (p0 : (List (List Int))) (p1 : (List Int)) (p2 : y11) (v9_3 v10_3 : Int) : l3 k p0 p1 p2 0 v9_3 v10_3 = none := by kernel_rfl
theorem s (k : Nat) (p0 : (List (List Int))) (p1 : (List Int)) (p2 : y11) : f k p0 p1 p2 =
 (l3 k p0 p1 p2 k 0 ((p0.length : Int))) := by kernel_rfl
theorem ok (k : Nat) : Ok Tryz.prog 184 (sem k) := Fd.ok (cx_ok trivial) ⟨Tryz.func184, rfl, by kernel_rfl⟩ rfl
attribute [irreducible] f l3
end slices_BinarySearchFunc_int_int_int
/-! slices.Insert[[][]int,[]int] -/
namespace slices_Insert_int_int
noncomputable def sem (k : Nat) : Sem := mkSem [.move (.ow .sh), .sh, .move (.ow .sh)] 1 SII (.ow .sh) .unit (.pair SII (.pair I (.pair SII .unit))) insF
noncomputable def f (k : Nat) (p0 : List (List Int)) (p1 : Int) (p2 : List (List Int)) : Option (List (List Int) × Unit) := insF (p0, p1, p2, ())
theorem s (k : Nat) (p0 : List (List Int)) (p1 : Int) (p2 : List (List Int)) : f k p0 p1 p2 = (gd (0 ≤ p1) <| gd (p1 ≤ (p0.length : Int)) <| gd (0 < p2.length) <| gd ((p0.length : Int) + (p2.length : Int) ≤ LIM) <| some (p0.take (Int.toNat p1) ++ p2 ++ p0.drop (Int.toNat p1), ())) := rfl
theorem ok (k : Nat) : Ok Tryz.prog 186 (sem k) := Giv.insert
attribute [irreducible] f
end slices_Insert_int_int
/-! loop.example/wholecheck/impl.clone[[]int] -/
namespace impl_clone_Lint
noncomputable def D : Fd := ⟨Tryz.f78, 1, h50, (.ow .sh), [.sh], .unit, h74⟩
noncomputable def C (k : Nat) : Ctx := cx [] [] [] [] [] [] []
noncomputable def sem (k : Nat) : Sem := D.sem (D.ev (C k) k)
noncomputable def f (k : Nat) (p0 : (List (List Int))) : Option ((List (List Int)) × Unit) := D.ev (C k) k (p0, ())
theorem s (k : Nat) (p0 : (List (List Int))) : f k p0 =
 (if (((p0.length : Int)) == 0) = true then
  some ([], ())
 else
  gd ((0 : Int) ≤ ((p0.length : Int))) <| gd ((((p0.length : Int)) : Int) ≤ 1099511627776) <| some (p0.take ((List.replicate ((p0.length : Int)).toNat [] : (List (List Int)))).length ++ ((List.replicate ((p0.length : Int)).toNat [] : (List (List Int)))).drop p0.length, ())) := by kernel_rfl
theorem ok (k : Nat) : Ok Tryz.prog 78 (sem k) := Fd.ok (cx_ok trivial) ⟨Tryz.func78, rfl, by kernel_rfl⟩ rfl
attribute [irreducible] f
end impl_clone_Lint
/-! loop.example/wholecheck/impl.nextStates -/
namespace impl_nextStates
noncomputable def D : Fd := ⟨Tryz.f157, 1, h50, (.ow .sh), [.sh, .sh], .unit, h47⟩
noncomputable def C (k : Nat) : Ctx := cx [(183, impl_use.sem k), (185, slices_Compare_int_int.sem k), (184, slices_BinarySearchFunc_int_int_int.sem k), (186, slices_Insert_int_int.sem k), (78, impl_clone_Lint.sem k)] [] [(3, [(1, none), (2, none), (5, some (h50, (.ow .sh))), (13, none), (14, none)])] [] [] [] []
noncomputable def sem (k : Nat) : Sem := D.sem (D.ev (C k) k)
noncomputable def f (k : Nat) (p0 : y7) (p1 : (List Int)) : Option ((List (List Int)) × Unit) := D.ev (C k) k (p0, p1, ())
noncomputable def l3 (k : Nat) (p0 : y7) (p1 : (List Int)) (n : Nat) (v5_3 : (List (List Int))) (v14_3 : Int) : Option ((List (List Int)) × Unit) :=
 D.lp (C k) k 3 [1, 1, 0, 1, 0] [] n [(14, vI v14_3), (13, vI ((p0.2.length : Int))), (5, .val h50 (.ow .sh) v5_3), (2, .val h40 (.ow .sh) p0), (1, vS h9 p1)]
theorem s3 (k : Nat) (p0 : y7) (p1 : (List Int)) (n : Nat) (v5_3 : (List (List Int))) (v14_3 : Int) : l3 k p0 p1 (n + 1) v5_3 v14_3 =
 (if (decide (v14_3 < ((p0.2.length : Int)))) = true then
  (impl_use.f k p0 p1 v14_3).bind fun r1 =>
  if r1.1.2 = true then
   (slices_BinarySearchFunc_int_int_int.f k v5_3 r1.1.1 (fun p => (slices_Compare_int_int.f k p.1 p.2.1).bind fun r => some r.1)).bind fun r2 =>
   if (!r2.1.2) = true then
    (slices_Insert_int_int.f k v5_3 r2.1.1 [r1.1.1]).bind fun r3 =>
    l3 k p0 p1 n r3.1 (w64 (v14_3 + 1))
   else
    l3 k p0 p1 n v5_3 (w64 (v14_3 + 1))
  else
   l3 k p0 p1 n v5_3 (w64 (v14_3 + 1))
 else
  (impl_clone_Lint.f k v5_3).bind fun r4 =>
  some (r4.1, ())) := by kernel_rfl
theorem z3 (k : Nat) (p0 : y7) (p1 : (List Int)) (v5_3 : (List (List Int))) (v14_3 : Int) : l3 k p0 p1 0 v5_3 v14_3 = none := by kernel_rfl
theorem s (k : Nat) (p0 : y7) (p1 : (List Int)) : f k p0 p1 =
 (l3 k p0 p1 k [] 0) := by kernel_rfl
theorem ok (k : Nat) : Ok Tryz.prog 157 (sem k) := Fd.ok (cx_ok ⟨impl_use.ok k, slices_Compare_int_int.ok k, slices_BinarySearchFunc_int_int_int.ok k, slices_Insert_int_int.ok k, impl_clone_Lint.ok k, trivial⟩) ⟨Tryz.func157, rfl, by kernel_rfl⟩ rfl
attribute [irreducible] f l3
end impl_nextStates
/-! loop.example/wholecheck/impl.number -/
namespace impl_number
noncomputable def D : Fd := ⟨Tryz.f110, 1, I, .sh, [.sh, .sh], .unit, h47⟩
noncomputable def C (k : Nat) : Ctx := cx [] [((5, 16), 3)] [(3, [(1, none), (5, none), (9, none), (10, none), (11, none)])] [] [(5, [0, 1, 2, 3, 4, 5, 6, 7, 8, 9, 10, 11, 12, 13, 14, 15, 16])] [] []
noncomputable def sem (k : Nat) : Sem := D.sem (D.ev (C k) k)
noncomputable def f (k : Nat) (p0 : y7) (p1 : (List Int)) : Option (Int × Unit) := D.ev (C k) k (p0, p1, ())
noncomputable def l3 (k : Nat) (p0 : y7) (p1 : (List Int)) (n : Nat) (v5_3 v11_3 : Int) : Option (Int × Unit) :=
 D.lp (C k) k 3 [1, 1, 0, 1, 0] [] n [(11, vI v11_3), (10, vI ((p0.1.length : Int))), (9, vS h2 p0.1), (5, vI v5_3), (1, vS h9 p1)]
theorem s3 (k : Nat) (p0 : y7) (p1 : (List Int)) (n : Nat) (v5_3 v11_3 : Int) : l3 k p0 p1 (n + 1) v5_3 v11_3 =
 (if (decide (v11_3 < ((p0.1.length : Int)))) = true then
  gd ((0 : Int) ≤ v11_3) <| gd (v11_3 < (p0.1.length : Int)) <| gd ((0 : Int) ≤ v11_3) <| gd (v11_3 < (p1.length : Int)) <| l3 k p0 p1 n (w64 ((w64 ((w64 (v5_3 * (w64 ((w64 ((p0.1.getD (v11_3.toNat) (0, (0, 0))).2.1 - (p0.1.getD (v11_3.toNat) (0, (0, 0))).1)) + 1)))) + (p1.getD (v11_3.toNat) 0))) - (p0.1.getD (v11_3.toNat) (0, (0, 0))).1)) (w64 (v11_3 + 1))
 else
  some (v5_3, ())) := by kernel_rfl
theorem z3 (k : Nat) (p0 : y7) (p1 : (List Int)) (v5_3 v11_3 : Int) : l3 k p0 p1 0 v5_3 v11_3 = none := by kernel_rfl
theorem s (k : Nat) (p0 : y7) (p1 : (List Int)) : f k p0 p1 =
 (l3 k p0 p1 k 0 0) := by kernel_rfl
theorem ok (k : Nat) : Ok Tryz.prog 110 (sem k) := Fd.ok (cx_ok trivial) ⟨Tryz.func110, rfl, by kernel_rfl⟩ rfl
attribute [irreducible] f l3
end impl_number
/-! loop.example/wholecheck/impl.nexts -/
namespace impl_nexts
noncomputable def D : Fd := ⟨Tryz.f109, 1, h50, (.ow (.ow .sh)), [.sh], .unit, h32⟩
noncomputable def C (k : Nat) : Ctx := cx [(123, impl_size.sem k), (133, impl_stateAt.sem k), (157, impl_nextStates.sem k), (110, impl_number.sem k)] [((8, 10), 4)] [(3, [(1, none), (3, none), (12, none), (13, none)]), (6, [(1, none), (3, none), (4, none), (12, none), (13, none), (20, none), (21, none), (22, none)])] [] [(5, [0, 1, 2, 6, 3, 4, 5]), (8, [0, 1, 2, 3, 4, 5, 6, 7, 8, 9, 10, 11, 12])] [((5, 3), [1]), ((8, 8), [3]), ((8, 9), [3])] []
noncomputable def sem (k : Nat) : Sem := D.sem (D.ev (C k) k)
noncomputable def f (k : Nat) (p0 : y7) : Option ((List (List Int)) × Unit) := D.ev (C k) k (p0, ())
noncomputable def l3 (k : Nat) (p0 : y7) (n : Nat) (v3_3 : (List (List Int))) (v12_3 v13_3 : Int) : Option ((List (List Int)) × Unit) :=
 D.lp (C k) k 3 [1, 1, 0, 1, 0] [] n [(13, vI v13_3), (12, vI v12_3), (3, vO h50 v3_3), (1, .val h40 (.ow .sh) p0)]
noncomputable def l6 (k n3 : Nat) (p0 : y7) (v12_3 v13_3 : Int) (n : Nat) (v3_6 v20_6 : (List (List Int))) (v21_6 v22_6 : Int) : Option ((List (List Int)) × Unit) :=
 D.lp (C k) k 6 [1, 1, 0, 1, 0, 0, 1, 1, 0, 0, 1, 1, 0] [n3] n [(22, vI v22_6), (21, vI v21_6), (20, .val h50 (.ow .sh) v20_6), (13, vI v13_3), (12, vI v12_3), (4, vI v13_3), (3, vO h50 v3_6), (1, .val h40 (.ow .sh) p0)]
theorem s6 (k n3 : Nat) (p0 : y7) (v12_3 v13_3 : Int) (n : Nat) (v3_6 v20_6 : (List (List Int))) (v21_6 v22_6 : Int) : l6 k n3 p0 v12_3 v13_3 (n + 1) v3_6 v20_6 v21_6 v22_6 =
 (if (decide (v22_6 < v21_6)) = true then
  gd ((0 : Int) ≤ v22_6) <| gd (v22_6 < (v20_6.length : Int)) <| gd ((0 : Int) ≤ v13_3) <| gd (v13_3 < (v3_6.length : Int)) <| (impl_number.f k p0 (v20_6.getD (v22_6.toNat) [])).bind fun r4 =>
  gd (((v3_6.getD (v13_3.toNat) []).length : Int) + ([r4.1].length : Int) ≤ 1099511627776) <| gd ((0 : Int) ≤ v13_3) <| gd (v13_3 < (v3_6.length : Int)) <| gd (((v13_3.toNat) : Nat) = (v13_3.toNat)) <| l6 k n3 p0 v12_3 v13_3 n (v3_6.set (v13_3.toNat) ((v3_6.getD (v13_3.toNat) []) ++ [r4.1])) v20_6 v21_6 (w64 (v22_6 + 1))
 else
  l3 k p0 n3 v3_6 v12_3 (w64 (v13_3 + 1))) := by kernel_rfl
theorem z6 (k n3 : Nat) (p0 : y7) (v12_3 v13_3 : Int) (v3_6 v20_6 : (List (List Int))) (v21_6 v22_6 : Int) : l6 k n3 p0 v12_3 v13_3 0 v3_6 v20_6 v21_6 v22_6 = none := by kernel_rfl
theorem s3 (k : Nat) (p0 : y7) (n : Nat) (v3_3 : (List (List Int))) (v12_3 v13_3 : Int) : l3 k p0 (n + 1) v3_3 v12_3 v13_3 =
 (if (decide (v13_3 < v12_3)) = true then
  (impl_stateAt.f k p0 v13_3).bind fun r2 =>
  (impl_nextStates.f k p0 r2.1).bind fun r3 =>
  l6 k n p0 v12_3 v13_3 k v3_3 r3.1 ((r3.1.length : Int)) 0
 else
  some (v3_3, ())) := by kernel_rfl
theorem z3 (k : Nat) (p0 : y7) (v3_3 : (List (List Int))) (v12_3 v13_3 : Int) : l3 k p0 0 v3_3 v12_3 v13_3 = none := by kernel_rfl
theorem s (k : Nat) (p0 : y7) : f k p0 =
 ((impl_size.f k p0.1).bind fun r1 =>
 gd ((0 : Int) ≤ r1.1) <| gd ((r1.1 : Int) ≤ 1099511627776) <| l3 k p0 k ((List.replicate r1.1.toNat [] : (List (List Int)))) ((((List.replicate r1.1.toNat [] : (List (List Int)))).length : Int)) 0) := by kernel_rfl
theorem ok (k : Nat) : Ok Tryz.prog 109 (sem k) := Fd.ok (cx_ok ⟨impl_size.ok k, impl_stateAt.ok k, impl_nextStates.ok k, impl_number.ok k, trivial⟩) ⟨Tryz.func109, rfl, by kernel_rfl⟩ rfl
attribute [irreducible] f l3 l6
end impl_nexts
/-! slices.Sort[[]int,int] -/
namespace slices_Sort_int_int
noncomputable def sem (k : Nat) : Sem := mkSem [.loan (.ow .sh)] 0 .unit .sh SI (.pair SI .unit) sortF
noncomputable def f (k : Nat) (p0 : List Int) : Option (Unit × List Int) := sortF (p0, ())
theorem s (k : Nat) (p0 : List Int) : f k p0 = (gd ((p0.length : Int) ≤ LIM) <| some ((), p0.mergeSort fun x y => decide (x ≤ y))) := rfl
theorem ok (k : Nat) : Ok Tryz.prog 138 (sem k) := Giv.sort
attribute [irreducible] f
end slices_Sort_int_int
/-! slices.Compact[[]int,int] -/
namespace slices_Compact_int_int
noncomputable def sem (k : Nat) : Sem := mkSem [.move (.ow .sh)] 1 SI (.ow .sh) .unit (.pair SI .unit) compactF
noncomputable def f (k : Nat) (p0 : List Int) : Option (List Int × Unit) := compactF (p0, ())
theorem s (k : Nat) (p0 : List Int) : f k p0 = (gd ((p0.length : Int) ≤ LIM) <| some (Lib.compact p0, ())) := rfl
theorem ok (k : Nat) : Ok Tryz.prog 139 (sem k) := Giv.compact
attribute [irreducible] f
end slices_Compact_int_int
/-! loop.example/wholecheck/impl.blockSteps -/
namespace impl_blockSteps
noncomputable def D : Fd := ⟨Tryz.f79, 1, h50, (.ow (.ow .sh)), [.sh, .sh], .unit, h41⟩
noncomputable def C (k : Nat) : Ctx := cx [(109, impl_nexts.sem k), (138, slices_Sort_int_int.sem k), (139, slices_Compact_int_int.sem k), (94, impl_clone_int.sem k)] [((8, 20), 4), ((15, 6), 8)] [(3, [(3, none), (5, none), (16, none), (17, none), (18, none)]), (6, [(3, none), (5, none), (6, none), (16, none), (17, none), (18, none), (24, none), (25, none), (23, none)]), (12, [(5, none), (54, none), (55, none)])] [] [(8, [0, 1, 2, 3, 4, 5, 6, 7, 8, 9, 10, 11, 12, 13, 14, 15, 16, 17, 18, 19, 20, 21, 22])] [((8, 19), [3, 5]), ((8, 20), [3])] []
noncomputable def sem (k : Nat) : Sem := D.sem (D.ev (C k) k)
noncomputable def f (k : Nat) (p0 : y7) (p1 : (List Int)) : Option ((List (List Int)) × Unit) := D.ev (C k) k (p0, p1, ())
noncomputable def l3 (k : Nat) (p1 : (List Int)) (n : Nat) (v5_3 v16_3 : (List (List Int))) (v17_3 v18_3 : Int) : Option ((List (List Int)) × Unit) :=
 D.lp (C k) k 3 [1, 1, 0, 1, 0] [] n [(18, vI v18_3), (17, vI v17_3), (16, vO h50 v16_3), (5, vO h50 v5_3), (3, .val h42 (.ow .sh) p1)]
noncomputable def l6 (k n3 : Nat) (p1 : (List Int)) (v16_3 : (List (List Int))) (v17_3 v18_3 : Int) (n : Nat) (v5_6 : (List (List Int))) (v25_6 : Int) : Option ((List (List Int)) × Unit) :=
 D.lp (C k) k 6 [1, 1, 0, 1, 0, 0, 1, 1, 0, 0, 1, 1, 0] [n3] n [(23, .al 16 [v18_3.toNat]), (25, vI v25_6), (24, vI (((v16_3.getD (v18_3.toNat) []).length : Int))), (18, vI v18_3), (17, vI v17_3), (16, vO h50 v16_3), (6, vI v18_3), (5, vO h50 v5_6), (3, .val h42 (.ow .sh) p1)]
noncomputable def l12 (k : Nat) (v5_3 : (List (List Int))) (n : Nat) (v5_12 : (List (List Int))) (v55_12 : Int) : Option ((List (List Int)) × Unit) :=
 D.lp (C k) k 12 [1, 1, 1, 0, 1, 0] [] n [(55, vI v55_12), (54, vI ((v5_3.length : Int))), (5, vO h50 v5_12)]
theorem s6 (k n3 : Nat) (p1 : (List Int)) (v16_3 : (List (List Int))) (v17_3 v18_3 : Int) (n : Nat) (v5_6 : (List (List Int))) (v25_6 : Int) : l6 k n3 p1 v16_3 v17_3 v18_3 (n + 1) v5_6 v25_6 =
 (if (decide (v25_6 < (((v16_3.getD (v18_3.toNat) []).length : Int)))) = true then
  gd ((0 : Int) ≤ v25_6) <| gd (v25_6 < ((v16_3.getD (v18_3.toNat) []).length : Int)) <| gd ((0 : Int) ≤ v18_3) <| gd (v18_3 < (p1.length : Int)) <| gd ((0 : Int) ≤ v18_3) <| gd (v18_3 < (p1.length : Int)) <| gd ((0 : Int) ≤ (p1.getD (v18_3.toNat) 0)) <| gd ((p1.getD (v18_3.toNat) 0) < (v5_6.length : Int)) <| gd ((0 : Int) ≤ ((v16_3.getD (v18_3.toNat) []).getD (v25_6.toNat) 0)) <| gd (((v16_3.getD (v18_3.toNat) []).getD (v25_6.toNat) 0) < (p1.length : Int)) <| gd (((v5_6.getD ((p1.getD (v18_3.toNat) 0).toNat) []).length : Int) + ([(p1.getD (((v16_3.getD (v18_3.toNat) []).getD (v25_6.toNat) 0).toNat) 0)].length : Int) ≤ 1099511627776) <| gd ((0 : Int) ≤ (p1.getD (v18_3.toNat) 0)) <| gd ((p1.getD (v18_3.toNat) 0) < (v5_6.length : Int)) <| gd ((((p1.getD (v18_3.toNat) 0).toNat) : Nat) = ((p1.getD (v18_3.toNat) 0).toNat)) <| l6 k n3 p1 v16_3 v17_3 v18_3 n (v5_6.set ((p1.getD (v18_3.toNat) 0).toNat) ((v5_6.getD ((p1.getD (v18_3.toNat) 0).toNat) []) ++ [(p1.getD (((v16_3.getD (v18_3.toNat) []).getD (v25_6.toNat) 0).toNat) 0)])) (w64 (v25_6 + 1))
 else
  l3 k p1 n3 v5_6 v16_3 v17_3 (w64 (v18_3 + 1))) := by kernel_rfl
theorem z6 (k n3 : Nat) (p1 : (List Int)) (v16_3 : (List (List Int))) (v17_3 v18_3 : Int) (v5_6 : (List (List Int))) (v25_6 : Int) : l6 k n3 p1 v16_3 v17_3 v18_3 0 v5_6 v25_6 = none := by kernel_rfl
theorem s12 (k : Nat) (v5_3 : (List (List Int))) (n : Nat) (v5_12 : (List (List Int))) (v55_12 : Int) : l12 k v5_3 (n + 1) v5_12 v55_12 =
 (if (decide (v55_12 < ((v5_3.length : Int)))) = true then
  gd ((0 : Int) ≤ v55_12) <| gd (v55_12 < (v5_12.length : Int)) <| (slices_Sort_int_int.f k (v5_12.getD (v55_12.toNat) [])).bind fun r2 =>
  gd ((0 : Int) ≤ v55_12) <| gd (v55_12 < ((v5_12.set (v55_12.toNat) r2.2).length : Int)) <| (slices_Compact_int_int.f k ((v5_12.set (v55_12.toNat) r2.2).getD (v55_12.toNat) [])).bind fun r3 =>
  (impl_clone_int.f k r3.1).bind fun r4 =>
  gd ((0 : Int) ≤ v55_12) <| gd (v55_12 < ((v5_12.set (v55_12.toNat) r2.2).length : Int)) <| gd (((v55_12.toNat) : Nat) = (v55_12.toNat)) <| l12 k v5_3 n ((v5_12.set (v55_12.toNat) r2.2).set (v55_12.toNat) r4.1) (w64 (v55_12 + 1))
 else
  some (v5_12, ())) := by kernel_rfl
theorem z12 (k : Nat) (v5_3 : (List (List Int))) (v5_12 : (List (List Int))) (v55_12 : Int) : l12 k v5_3 0 v5_12 v55_12 = none := by kernel_rfl
theorem s3 (k : Nat) (p1 : (List Int)) (n : Nat) (v5_3 v16_3 : (List (List Int))) (v17_3 v18_3 : Int) : l3 k p1 (n + 1) v5_3 v16_3 v17_3 v18_3 =
 (if (decide (v18_3 < v17_3)) = true then
  gd ((0 : Int) ≤ v18_3) <| gd (v18_3 < (v16_3.length : Int)) <| l6 k n p1 v16_3 v17_3 v18_3 k v5_3 0
 else
  l12 k v5_3 k v5_3 0) := by kernel_rfl
theorem z3 (k : Nat) (p1 : (List Int)) (v5_3 v16_3 : (List (List Int))) (v17_3 v18_3 : Int) : l3 k p1 0 v5_3 v16_3 v17_3 v18_3 = none := by kernel_rfl
theorem s (k : Nat) (p0 : y7) (p1 : (List Int)) : f k p0 p1 =
 (gd ((0 : Int) ≤ ((p1.length : Int))) <| gd ((((p1.length : Int)) : Int) ≤ 1099511627776) <| (impl_nexts.f k p0).bind fun r1 =>
 l3 k p1 k ((List.replicate ((p1.length : Int)).toNat [] : (List (List Int)))) r1.1 ((r1.1.length : Int)) 0) := by kernel_rfl
theorem ok (k : Nat) : Ok Tryz.prog 79 (sem k) := Fd.ok (cx_ok ⟨impl_nexts.ok k, slices_Sort_int_int.ok k, slices_Compact_int_int.ok k, impl_clone_int.ok k, trivial⟩) ⟨Tryz.func79, rfl, by kernel_rfl⟩ rfl
attribute [irreducible] f l3 l6 l12
end impl_blockSteps
/-! loop.example/wholecheck/impl.first -/
namespace impl_first
noncomputable def D : Fd := ⟨Tryz.f111, 1, h9, (.ow .sh), [.sh], .unit, h32⟩
noncomputable def C (k : Nat) : Ctx := cx [(94, impl_clone_int.sem k)] [] [(3, [(3, none), (7, none), (8, none), (9, none)])] [] [] [] []
noncomputable def sem (k : Nat) : Sem := D.sem (D.ev (C k) k)
noncomputable def f (k : Nat) (p0 : y7) : Option ((List Int) × Unit) := D.ev (C k) k (p0, ())
noncomputable def l3 (k : Nat) (p0 : y7) (n : Nat) (v3_3 : (List Int)) (v9_3 : Int) : Option ((List Int) × Unit) :=
 D.lp (C k) k 3 [1, 1, 0, 1, 0] [] n [(9, vI v9_3), (8, vI ((p0.1.length : Int))), (7, vS h2 p0.1), (3, vO h62 v3_3)]
theorem s3 (k : Nat) (p0 : y7) (n : Nat) (v3_3 : (List Int)) (v9_3 : Int) : l3 k p0 (n + 1) v3_3 v9_3 =
 (if (decide (v9_3 < ((p0.1.length : Int)))) = true then
  gd ((0 : Int) ≤ v9_3) <| gd (v9_3 < (p0.1.length : Int)) <| gd ((v3_3.length : Int) + ([(p0.1.getD (v9_3.toNat) (0, (0, 0))).2.2].length : Int) ≤ 1099511627776) <| l3 k p0 n (v3_3 ++ [(p0.1.getD (v9_3.toNat) (0, (0, 0))).2.2]) (w64 (v9_3 + 1))
 else
  (impl_clone_int.f k v3_3).bind fun r1 =>
  some (r1.1, ())) := by kernel_rfl
theorem z3 (k : Nat) (p0 : y7) (v3_3 : (List Int)) (v9_3 : Int) : l3 k p0 0 v3_3 v9_3 = none := by kernel_rfl
theorem s (k : Nat) (p0 : y7) : f k p0 =
 (l3 k p0 k [] 0) := by kernel_rfl
theorem ok (k : Nat) : Ok Tryz.prog 111 (sem k) := Fd.ok (cx_ok ⟨impl_clone_int.ok k, trivial⟩) ⟨Tryz.func111, rfl, by kernel_rfl⟩ rfl
attribute [irreducible] f l3
end impl_first
/-! slices.Repeat[[]int,int] -/
namespace slices_Repeat_int_int
noncomputable def sem (k : Nat) : Sem := mkSem [.sh, .sh] 1 SI (.ow .sh) .unit (.pair SI (.pair I .unit)) repF
noncomputable def f (k : Nat) (p0 : List Int) (p1 : Int) : Option (List Int × Unit) := repF (p0, p1, ())
theorem s (k : Nat) (p0 : List Int) (p1 : Int) : f k p0 p1 = (gd (p0.length = 1) <| gd ((0 : Int) ≤ p1) <| gd (p1 ≤ 4294967295) <| some (List.replicate (Int.toNat p1) (p0.getD 0 0), ())) := rfl
theorem ok (k : Nat) : Ok Tryz.prog 180 (sem k) := Giv.rep
attribute [irreducible] f
end slices_Repeat_int_int
/-! loop.example/wholecheck/impl.steps -/
namespace impl_steps
noncomputable def D : Fd := ⟨Tryz.f146, 1, h9, (.ow .sh), [.sh, .sh], .unit, h75⟩
noncomputable def C (k : Nat) : Ctx := cx [(180, slices_Repeat_int_int.sem k)] [((6, 1), 1)] [(4, [(0, none), (5, none), (6, none)]), (8, [(0, none), (5, none), (6, none), (7, none), (30, none), (31, none), (32, none)])] [] [] [] []
noncomputable def sem (k : Nat) : Sem := D.sem (D.ev (C k) k)
noncomputable def f (k : Nat) (p0 : (List (List Int))) (p1 : Int) : Option ((List Int) × Unit) := D.ev (C k) k (p0, p1, ())
noncomputable def l4 (k : Nat) (p0 : (List (List Int))) (n : Nat) (v5_4 v6_4 : (List Int)) : Option ((List Int) × Unit) :=
 D.lp (C k) k 4 [1, 1, 1, 0, 1, 0] [] n [(6, vO h9 v6_4), (5, vO h9 v5_4), (0, vS h50 p0)]
noncomputable def l8 (k n4 : Nat) (p0 : (List (List Int))) (v6_4 : (List Int)) (n : Nat) (v5_8 v6_8 : (List Int)) (v32_8 : Int) : Option ((List Int) × Unit) :=
 D.lp (C k) k 8 [1, 1, 1, 0, 1, 0, 0, 1, 0, 1, 1, 1, 0] [n4] n [(32, vI v32_8), (31, vI (((p0.getD ((v6_4.getD (Int.toNat 0) 0).toNat) []).length : Int))), (30, vS h9 (p0.getD ((v6_4.getD (Int.toNat 0) 0).toNat) [])), (7, vI (v6_4.getD (Int.toNat 0) 0)), (6, vO h9 v6_8), (5, vO h9 v5_8), (0, vS h50 p0)]
theorem s8 (k n4 : Nat) (p0 : (List (List Int))) (v6_4 : (List Int)) (n : Nat) (v5_8 v6_8 : (List Int)) (v32_8 : Int) : l8 k n4 p0 v6_4 (n + 1) v5_8 v6_8 v32_8 =
 (if (decide (v32_8 < (((p0.getD ((v6_4.getD (Int.toNat 0) 0).toNat) []).length : Int)))) = true then
  gd ((0 : Int) ≤ v32_8) <| gd (v32_8 < ((p0.getD ((v6_4.getD (Int.toNat 0) 0).toNat) []).length : Int)) <| gd ((0 : Int) ≤ ((p0.getD ((v6_4.getD (Int.toNat 0) 0).toNat) []).getD (v32_8.toNat) 0)) <| gd (((p0.getD ((v6_4.getD (Int.toNat 0) 0).toNat) []).getD (v32_8.toNat) 0) < (v5_8.length : Int)) <| if (decide ((v5_8.getD (((p0.getD ((v6_4.getD (Int.toNat 0) 0).toNat) []).getD (v32_8.toNat) 0).toNat) 0) < 0)) = true then
   gd ((0 : Int) ≤ (v6_4.getD (Int.toNat 0) 0)) <| gd ((v6_4.getD (Int.toNat 0) 0) < (v5_8.length : Int)) <| gd ((0 : Int) ≤ ((p0.getD ((v6_4.getD (Int.toNat 0) 0).toNat) []).getD (v32_8.toNat) 0)) <| gd (((p0.getD ((v6_4.getD (Int.toNat 0) 0).toNat) []).getD (v32_8.toNat) 0) < (v5_8.length : Int)) <| gd ((v6_8.length : Int) + ([((p0.getD ((v6_4.getD (Int.toNat 0) 0).toNat) []).getD (v32_8.toNat) 0)].length : Int) ≤ 1099511627776) <| l8 k n4 p0 v6_4 n (v5_8.set (((p0.getD ((v6_4.getD (Int.toNat 0) 0).toNat) []).getD (v32_8.toNat) 0).toNat) (w64 ((v5_8.getD ((v6_4.getD (Int.toNat 0) 0).toNat) 0) + 1))) (v6_8 ++ [((p0.getD ((v6_4.getD (Int.toNat 0) 0).toNat) []).getD (v32_8.toNat) 0)]) (w64 (v32_8 + 1))
  else
   l8 k n4 p0 v6_4 n v5_8 v6_8 (w64 (v32_8 + 1))
 else
  l4 k p0 n4 v5_8 v6_8) := by kernel_rfl
theorem z8 (k n4 : Nat) (p0 : (List (List Int))) (v6_4 : (List Int)) (v5_8 v6_8 : (List Int)) (v32_8 : Int) : l8 k n4 p0 v6_4 0 v5_8 v6_8 v32_8 = none := by kernel_rfl
theorem s4 (k : Nat) (p0 : (List (List Int))) (n : Nat) (v5_4 v6_4 : (List Int)) : l4 k p0 (n + 1) v5_4 v6_4 =
 (if (decide (((v6_4.length : Int)) > 0)) = true then
  gd ((0 : Int) ≤ 0) <| gd (0 < (v6_4.length : Int)) <| gd ((0 : Int) ≤ 1) <| gd ((1 : Int) ≤ ((v6_4.length : Int))) <| gd (((v6_4.length : Int)) ≤ (v6_4.length : Int)) <| gd ((0 : Int) ≤ (v6_4.getD (Int.toNat 0) 0)) <| gd ((v6_4.getD (Int.toNat 0) 0) < (p0.length : Int)) <| l8 k n p0 v6_4 k v5_4 ((v6_4.take (((v6_4.length : Int)).toNat)).drop (Int.toNat 1)) 0
 else
  some (v5_4, ())) := by kernel_rfl
theorem z4 (k : Nat) (p0 : (List (List Int))) (v5_4 v6_4 : (List Int)) : l4 k p0 0 v5_4 v6_4 = none := by kernel_rfl
theorem s (k : Nat) (p0 : (List (List Int))) (p1 : Int) : f k p0 p1 =
 ((slices_Repeat_int_int.f k [(-1)] ((p0.length : Int))).bind fun r1 =>
 gd ((0 : Int) ≤ p1) <| gd (p1 < (r1.1.length : Int)) <| l4 k p0 k (r1.1.set (p1.toNat) 0) [p1]) := by kernel_rfl
theorem ok (k : Nat) : Ok Tryz.prog 146 (sem k) := Fd.ok (cx_ok ⟨slices_Repeat_int_int.ok k, trivial⟩) ⟨Tryz.func146, rfl, by kernel_rfl⟩ rfl
attribute [irreducible] f l4 l8
end impl_steps
/-! loop.example/wholecheck/impl.pasts -/
namespace impl_pasts
noncomputable def D : Fd := ⟨Tryz.f147, 1, h50, (.ow (.ow .sh)), [.sh], .unit, h74⟩
noncomputable def C (k : Nat) : Ctx := cx [] [] [(3, [(3, none), (11, none), (12, none), (13, none)]), (6, [(3, none), (4, none), (11, none), (12, none), (13, none), (18, none), (19, none), (20, none)])] [] [] [] []
noncomputable def sem (k : Nat) : Sem := D.sem (D.ev (C k) k)
noncomputable def f (k : Nat) (p0 : (List (List Int))) : Option ((List (List Int)) × Unit) := D.ev (C k) k (p0, ())
noncomputable def l3 (k : Nat) (p0 : (List (List Int))) (n : Nat) (v3_3 : (List (List Int))) (v13_3 : Int) : Option ((List (List Int)) × Unit) :=
 D.lp (C k) k 3 [1, 1, 0, 1, 0] [] n [(13, vI v13_3), (12, vI ((p0.length : Int))), (11, vS h50 p0), (3, vO h50 v3_3)]
noncomputable def l6 (k n3 : Nat) (p0 : (List (List Int))) (v13_3 : Int) (n : Nat) (v3_6 : (List (List Int))) (v20_6 : Int) : Option ((List (List Int)) × Unit) :=
 D.lp (C k) k 6 [1, 1, 0, 1, 0, 0, 1, 1, 0, 0, 1, 1, 0] [n3] n [(20, vI v20_6), (19, vI (((p0.getD (v13_3.toNat) []).length : Int))), (18, vS h9 (p0.getD (v13_3.toNat) [])), (13, vI v13_3), (12, vI ((p0.length : Int))), (11, vS h50 p0), (4, vI v13_3), (3, vO h50 v3_6)]
theorem s6 (k n3 : Nat) (p0 : (List (List Int))) (v13_3 : Int) (n : Nat) (v3_6 : (List (List Int))) (v20_6 : Int) : l6 k n3 p0 v13_3 (n + 1) v3_6 v20_6 =
 (if (decide (v20_6 < (((p0.getD (v13_3.toNat) []).length : Int)))) = true then
  gd ((0 : Int) ≤ v20_6) <| gd (v20_6 < ((p0.getD (v13_3.toNat) []).length : Int)) <| gd ((0 : Int) ≤ ((p0.getD (v13_3.toNat) []).getD (v20_6.toNat) 0)) <| gd (((p0.getD (v13_3.toNat) []).getD (v20_6.toNat) 0) < (v3_6.length : Int)) <| gd (((v3_6.getD (((p0.getD (v13_3.toNat) []).getD (v20_6.toNat) 0).toNat) []).length : Int) + ([v13_3].length : Int) ≤ 1099511627776) <| gd ((0 : Int) ≤ ((p0.getD (v13_3.toNat) []).getD (v20_6.toNat) 0)) <| gd (((p0.getD (v13_3.toNat) []).getD (v20_6.toNat) 0) < (v3_6.length : Int)) <| gd (((((p0.getD (v13_3.toNat) []).getD (v20_6.toNat) 0).toNat) : Nat) = (((p0.getD (v13_3.toNat) []).getD (v20_6.toNat) 0).toNat)) <| l6 k n3 p0 v13_3 n (v3_6.set (((p0.getD (v13_3.toNat) []).getD (v20_6.toNat) 0).toNat) ((v3_6.getD (((p0.getD (v13_3.toNat) []).getD (v20_6.toNat) 0).toNat) []) ++ [v13_3])) (w64 (v20_6 + 1))
 else
  l3 k p0 n3 v3_6 (w64 (v13_3 + 1))) := by kernel_rfl
theorem z6 (k n3 : Nat) (p0 : (List (List Int))) (v13_3 : Int) (v3_6 : (List (List Int))) (v20_6 : Int) : l6 k n3 p0 v13_3 0 v3_6 v20_6 = none := by kernel_rfl
theorem s3 (k : Nat) (p0 : (List (List Int))) (n : Nat) (v3_3 : (List (List Int))) (v13_3 : Int) : l3 k p0 (n + 1) v3_3 v13_3 =
 (if (decide (v13_3 < ((p0.length : Int)))) = true then
  gd ((0 : Int) ≤ v13_3) <| gd (v13_3 < (p0.length : Int)) <| l6 k n p0 v13_3 k v3_3 0
 else
  some (v3_3, ())) := by kernel_rfl
theorem z3 (k : Nat) (p0 : (List (List Int))) (v3_3 : (List (List Int))) (v13_3 : Int) : l3 k p0 0 v3_3 v13_3 = none := by kernel_rfl
theorem s (k : Nat) (p0 : (List (List Int))) : f k p0 =
 (gd ((0 : Int) ≤ ((p0.length : Int))) <| gd ((((p0.length : Int)) : Int) ≤ 1099511627776) <| l3 k p0 k ((List.replicate ((p0.length : Int)).toNat [] : (List (List Int)))) 0) := by kernel_rfl
theorem ok (k : Nat) : Ok Tryz.prog 147 (sem k) := Fd.ok (cx_ok trivial) ⟨Tryz.func147, rfl, by kernel_rfl⟩ rfl
attribute [irreducible] f l3 l6
end impl_pasts
/-! loop.example/wholecheck/impl.blockWay$1 -/
namespace impl_blockWay_1
noncomputable def D : Fd := ⟨Tryz.f148, 1, .bool, .sh, [.sh, .sh, .sh], .unit, h79⟩
noncomputable def C (k : Nat) : Ctx := cx [] [] [] [] [(1, [0, 1, 2, 3, 4, 5, 6, 7, 8, 9, 10])] [] []
noncomputable def sem (k : Nat) : Sem := D.sem (D.ev (C k) k)
noncomputable def f (k : Nat) (p0 : Int) (p1 : (List Int)) (p2 : Int) : Option (Bool × Unit) := D.ev (C k) k (p0, p1, p2, ())
theorem s (k : Nat) (p0 : Int) (p1 : (List Int)) (p2 : Int) : f k p0 p1 p2 =
 (gd ((0 : Int) ≤ p0) <| gd (p0 < (p1.length : Int)) <| gd ((0 : Int) ≤ p2) <| gd (p2 < (p1.length : Int)) <| some ((p1.getD (p0.toNat) 0) == (w64 ((p1.getD (p2.toNat) 0) - 1)), ())) := by kernel_rfl
theorem ok (k : Nat) : Ok Tryz.prog 148 (sem k) := Fd.ok (cx_ok trivial) ⟨Tryz.func148, rfl, by kernel_rfl⟩ rfl
attribute [irreducible] f
end impl_blockWay_1
/-! slices.IndexFunc[[]int,int] -/
namespace slices_IndexFunc_int_int
noncomputable def D : Fd := ⟨Tryz.f131, 1, I, .sh, [.sh, .sh], .unit, h82⟩
noncomputable def C (k : Nat) : Ctx := cx [] [] [(2, [(0, none), (1, none), (7, none), (8, none)])] [] [] [] []
noncomputable def sem (k : Nat) : Sem := D.sem (D.ev (C k) k)
noncomputable def f (k : Nat) (p0 : (List Int)) (p1 : (Int → Option Bool)) : Option (Int × Unit) := D.ev (C k) k (p0, p1, ())
noncomputable def l2 (k : Nat) (p0 : (List Int)) (p1 : (Int → Option Bool)) (n : Nat) (v8_2 : Int) : Option (Int × Unit) :=
 D.lp (C k) k 2 [1, 0, 1, 0] [] n [(8, vI v8_2), (7, vI ((p0.length : Int))), (1, vS h80 p1), (0, vS h9 p0)]
theorem s2 (k : Nat) (p0 : (List Int)) (p1 : (Int → Option Bool)) (n : Nat) (v8_2 : Int) : l2 k p0 p1 (n + 1) v8_2 =
 (if (decide (v8_2 < ((p0.length : Int)))) = true then
  gd ((0 : Int) ≤ v8_2) <| gd (v8_2 < (p0.length : Int)) <| (p1 (p0.getD (v8_2.toNat) 0)).bind fun r1 =>
  if r1 = true then
   some (v8_2, ())
  else
   l2 k p0 p1 n (w64 (v8_2 + 1))
 else
  some ((-1), ())) := by kernel_rfl
theorem z2 (k : Nat) (p0 : (List Int)) (p1 : (Int → Option Bool)) (v8_2 : Int) : l2 k p0 p1 0 v8_2 = none := by kernel_rfl
theorem s (k : Nat) (p0 : (List Int)) (p1 : (Int → Option Bool)) : f k p0 p1 =
 (l2 k p0 p1 k 0) := by kernel_rfl
theorem ok (k : Nat) : Ok Tryz.prog 131 (sem k) := Fd.ok (cx_ok trivial) ⟨Tryz.func131, rfl, by kernel_rfl⟩ rfl
attribute [irreducible] f l2
end slices_IndexFunc_int_int
/-! loop.example/wholecheck/impl.blockWay -/
namespace impl_blockWay
noncomputable def D : Fd := ⟨Tryz.f93, 1, h62, (.ow .sh), [.sh, .sh, .sh], .unit, h84⟩
noncomputable def C (k : Nat) : Ctx := cx [(79, impl_blockSteps.sem k), (111, impl_first.sem k), (110, impl_number.sem k), (146, impl_steps.sem k), (147, impl_pasts.sem k), (148, impl_blockWay_1.sem k), (131, slices_IndexFunc_int_int.sem k)] [] [(5, [(4, none), (7, none), (8, none), (9, none), (30, none), (31, none), (32, none)]), (15, [(8, some (h76, .sh)), (13, none), (14, none)])] [] [(2, [0, 1, 2, 3, 4, 5, 6, 7, 8, 9, 10, 11]), (8, [0, 1, 2, 3, 4, 5, 6, 7, 8, 9, 10, 11, 12, 13, 14, 15, 16, 17, 18, 19, 20, 21, 22, 23, 24, 25, 26, 27, 28, 29, 30, 31, 32, 33, 34, 35, 36, 37, 38, 39]), (15, [0, 1, 2, 3, 4, 5, 6])] [((2, 5), [3, 4]), ((2, 6), [4])] []
noncomputable def sem (k : Nat) : Sem := D.sem (D.ev (C k) k)
noncomputable def f (k : Nat) (p0 : y7) (p1 : (List Int)) (p2 : (List Bool)) : Option ((List Int) × Unit) := D.ev (C k) k (p0, p1, p2, ())
noncomputable def l5 (k : Nat) (p1 : (List Int)) (p2 : (List Bool)) (n : Nat) (v7_5 : (List (List Int))) (v8_5 : (List Int)) (v9_5 v32_5 : Int) : Option ((List Int) × Unit) :=
 D.lp (C k) k 5 [1, 1, 1, 1, 0, 1, 0] [] n [(32, vI v32_5), (31, vI ((p2.length : Int))), (30, vS h46 p2), (9, vI v9_5), (8, vO h76 v8_5), (7, vO h50 v7_5), (4, .val h42 (.ow .sh) p1)]
noncomputable def l15 (k : Nat) (v8_5 : (List Int)) (n : Nat) (v13_15 : (List Int)) (v14_15 : (List (List Int))) : Option ((List Int) × Unit) :=
 D.lp (C k) k 15 [1, 1, 1, 1, 1, 1, 1, 1, 0, 0] [] n [(14, vO h50 v14_15), (13, vO h9 v13_15), (8, vS h76 v8_5)]
theorem s15 (k : Nat) (v8_5 : (List Int)) (n : Nat) (v13_15 : (List Int)) (v14_15 : (List (List Int))) : l15 k v8_5 (n + 1) v13_15 v14_15 =
 (gd ((0 : Int) ≤ 0) <| gd (0 < (v13_15.length : Int)) <| gd ((0 : Int) ≤ (v13_15.getD (Int.toNat 0) 0)) <| gd ((v13_15.getD (Int.toNat 0) 0) < (v8_5.length : Int)) <| if (decide ((v8_5.getD ((v13_15.getD (Int.toNat 0) 0).toNat) 0) > 0)) = true then
  gd ((0 : Int) ≤ 0) <| gd (0 < (v13_15.length : Int)) <| gd ((0 : Int) ≤ (v13_15.getD (Int.toNat 0) 0)) <| gd ((v13_15.getD (Int.toNat 0) 0) < (v14_15.length : Int)) <| (slices_IndexFunc_int_int.f k (v14_15.getD ((v13_15.getD (Int.toNat 0) 0).toNat) []) (fun p => (impl_blockWay_1.f k p v8_5 (v13_15.getD (Int.toNat 0) 0)).bind fun r => some r.1)).bind fun r6 =>
  gd ((0 : Int) ≤ (v13_15.getD (Int.toNat 0) 0)) <| gd ((v13_15.getD (Int.toNat 0) 0) < (v14_15.length : Int)) <| gd ((0 : Int) ≤ r6.1) <| gd (r6.1 < ((v14_15.getD ((v13_15.getD (Int.toNat 0) 0).toNat) []).length : Int)) <| gd (([((v14_15.getD ((v13_15.getD (Int.toNat 0) 0).toNat) []).getD (r6.1.toNat) 0)].length : Int) + (v13_15.length : Int) ≤ 1099511627776) <| l15 k v8_5 n ([((v14_15.getD ((v13_15.getD (Int.toNat 0) 0).toNat) []).getD (r6.1.toNat) 0)] ++ v13_15) v14_15
 else
  gd (v13_15.length ≠ 0) <| some (v13_15, ())) := by kernel_rfl
theorem z15 (k : Nat) (v8_5 : (List Int)) (v13_15 : (List Int)) (v14_15 : (List (List Int))) : l15 k v8_5 0 v13_15 v14_15 = none := by kernel_rfl
theorem s5 (k : Nat) (p1 : (List Int)) (p2 : (List Bool)) (n : Nat) (v7_5 : (List (List Int))) (v8_5 : (List Int)) (v9_5 v32_5 : Int) : l5 k p1 p2 (n + 1) v7_5 v8_5 v9_5 v32_5 =
 (if (decide (v32_5 < ((p2.length : Int)))) = true then
  gd ((0 : Int) ≤ v32_5) <| gd (v32_5 < (p2.length : Int)) <| gd ((0 : Int) ≤ v32_5) <| gd (v32_5 < (p1.length : Int)) <| if (!(p2.getD (v32_5.toNat) false)) = true then
   gd ((0 : Int) ≤ (p1.getD (v32_5.toNat) 0)) <| gd ((p1.getD (v32_5.toNat) 0) < (v8_5.length : Int)) <| if (decide ((v8_5.getD ((p1.getD (v32_5.toNat) 0).toNat) 0) ≥ 0)) = true then
    if (decide (v9_5 < 0)) = true then
     l5 k p1 p2 n v7_5 v8_5 (p1.getD (v32_5.toNat) 0) (w64 (v32_5 + 1))
    else
     gd ((0 : Int) ≤ (p1.getD (v32_5.toNat) 0)) <| gd ((p1.getD (v32_5.toNat) 0) < (v8_5.length : Int)) <| gd ((0 : Int) ≤ v9_5) <| gd (v9_5 < (v8_5.length : Int)) <| if (decide ((v8_5.getD ((p1.getD (v32_5.toNat) 0).toNat) 0) < (v8_5.getD (v9_5.toNat) 0))) = true then
      l5 k p1 p2 n v7_5 v8_5 (p1.getD (v32_5.toNat) 0) (w64 (v32_5 + 1))
     else
      gd ((0 : Int) ≤ (p1.getD (v32_5.toNat) 0)) <| gd ((p1.getD (v32_5.toNat) 0) < (v8_5.length : Int)) <| gd ((0 : Int) ≤ v9_5) <| gd (v9_5 < (v8_5.length : Int)) <| if ((v8_5.getD ((p1.getD (v32_5.toNat) 0).toNat) 0) == (v8_5.getD (v9_5.toNat) 0)) = true then
       if (decide ((p1.getD (v32_5.toNat) 0) < v9_5)) = true then
        l5 k p1 p2 n v7_5 v8_5 (p1.getD (v32_5.toNat) 0) (w64 (v32_5 + 1))
       else
        l5 k p1 p2 n v7_5 v8_5 v9_5 (w64 (v32_5 + 1))
      else
       l5 k p1 p2 n v7_5 v8_5 v9_5 (w64 (v32_5 + 1))
   else
    l5 k p1 p2 n v7_5 v8_5 v9_5 (w64 (v32_5 + 1))
  else
   l5 k p1 p2 n v7_5 v8_5 v9_5 (w64 (v32_5 + 1))
 else
  if (decide (v9_5 < 0)) = true then
   some ([], ())
  else
   (impl_pasts.f k v7_5).bind fun r5 =>
   l15 k v8_5 k [v9_5] r5.1) := by kernel_rfl
theorem z5 (k : Nat) (p1 : (List Int)) (p2 : (List Bool)) (v7_5 : (List (List Int))) (v8_5 : (List Int)) (v9_5 v32_5 : Int) : l5 k p1 p2 0 v7_5 v8_5 v9_5 v32_5 = none := by kernel_rfl
theorem s (k : Nat) (p0 : y7) (p1 : (List Int)) (p2 : (List Bool)) : f k p0 p1 p2 =
 ((impl_blockSteps.f k p0 p1).bind fun r1 =>
 (impl_first.f k p0).bind fun r2 =>
 (impl_number.f k p0 r2.1).bind fun r3 =>
 gd ((0 : Int) ≤ r3.1) <| gd (r3.1 < (p1.length : Int)) <| (impl_steps.f k r1.1 (p1.getD (r3.1.toNat) 0)).bind fun r4 =>
 l5 k p1 p2 k r1.1 r4.1 (-1) 0) := by kernel_rfl
theorem ok (k : Nat) : Ok Tryz.prog 93 (sem k) := Fd.ok (cx_ok ⟨impl_blockSteps.ok k, impl_first.ok k, impl_number.ok k, impl_steps.ok k, impl_pasts.ok k, impl_blockWay_1.ok k, slices_IndexFunc_int_int.ok k, trivial⟩) ⟨Tryz.func93, rfl, by kernel_rfl⟩ rfl
attribute [irreducible] f l5 l15
end impl_blockWay
/-! loop.example/wholecheck/impl.BlockWay -/
namespace impl_BlockWay
noncomputable def D : Fd := ⟨Tryz.f46, 2, h56, (.pr (.ow .sh) .sh), [.sh, .sh, .sh], .unit, h58⟩
noncomputable def C (k : Nat) : Ctx := cx [(67, impl_goodIn.sem k), (68, impl_blocksOk.sem k), (93, impl_blockWay.sem k), (94, impl_clone_int.sem k)] [] [] [] [] [] []
noncomputable def sem (k : Nat) : Sem := D.sem (D.ev (C k) k)
noncomputable def f (k : Nat) (p0 : y7) (p1 : (List Int)) (p2 : y2) : Option (((List Int) × Bool) × Unit) := D.ev (C k) k (p0, p1, p2, ())
theorem s (k : Nat) (p0 : y7) (p1 : (List Int)) (p2 : y2) : f k p0 p1 p2 =
 ((impl_goodIn.f k p0 p2).bind fun r1 =>
 if (!r1.1.2) = true then
  some (([], false), ())
 else
  (impl_blocksOk.f k p0 p1).bind fun r2 =>
  if (!r2.1) = true then
   some (([], false), ())
  else
   (impl_blockWay.f k p0 p1 r1.1.1).bind fun r3 =>
   (impl_clone_int.f k r3.1).bind fun r4 =>
   some ((r4.1, !decide (r3.1.length = 0)), ())) := by kernel_rfl
theorem ok (k : Nat) : Ok Tryz.prog 46 (sem k) := Fd.ok (cx_ok ⟨impl_goodIn.ok k, impl_blocksOk.ok k, impl_blockWay.ok k, impl_clone_int.ok k, trivial⟩) ⟨Tryz.func46, rfl, by kernel_rfl⟩ rfl
attribute [irreducible] f
end impl_BlockWay
/-! loop.example/wholecheck/laws.eqIntS -/
namespace laws_eqIntS
noncomputable def D : Fd := ⟨Tryz.f20, 1, .bool, .sh, [.sh, .sh], .unit, h49⟩
noncomputable def C (k : Nat) : Ctx := cx [] [] [(4, [(0, none), (1, none), (5, none)])] [] [(6, [0, 1, 2, 3, 4, 5, 6, 7, 8])] [] []
noncomputable def sem (k : Nat) : Sem := D.sem (D.ev (C k) k)
noncomputable def f (k : Nat) (p0 p1 : (List Int)) : Option (Bool × Unit) := D.ev (C k) k (p0, p1, ())
noncomputable def l4 (k : Nat) (p0 p1 : (List Int)) (n : Nat) (v5_4 : Int) : Option (Bool × Unit) :=
 D.lp (C k) k 4 [1, 1, 0, 1, 0] [] n [(5, vI v5_4), (1, vS h9 p1), (0, vS h9 p0)]
theorem s4 (k : Nat) (p0 p1 : (List Int)) (n : Nat) (v5_4 : Int) : l4 k p0 p1 (n + 1) v5_4 =
 (if (decide (v5_4 < ((p0.length : Int)))) = true then
  gd ((0 : Int) ≤ v5_4) <| gd (v5_4 < (p0.length : Int)) <| gd ((0 : Int) ≤ v5_4) <| gd (v5_4 < (p1.length : Int)) <| if ((p0.getD (v5_4.toNat) 0) != (p1.getD (v5_4.toNat) 0)) = true then
   some (false, ())
  else
   l4 k p0 p1 n (w64 (v5_4 + 1))
 else
  some (true, ())) := by kernel_rfl
theorem z4 (k : Nat) (p0 p1 : (List Int)) (v5_4 : Int) : l4 k p0 p1 0 v5_4 = none := by kernel_rfl
theorem s (k : Nat) (p0 p1 : (List Int)) : f k p0 p1 =
 (if (((p0.length : Int)) != ((p1.length : Int))) = true then
  some (false, ())
 else
  l4 k p0 p1 k 0) := by kernel_rfl
theorem ok (k : Nat) : Ok Tryz.prog 20 (sem k) := Fd.ok (cx_ok trivial) ⟨Tryz.func20, rfl, by kernel_rfl⟩ rfl
attribute [irreducible] f l4
end laws_eqIntS
/-! loop.example/wholecheck/laws.eqVar -/
namespace laws_eqVar
noncomputable def D : Fd := ⟨Tryz.f116, 1, .bool, .sh, [.sh, .sh], .unit, h85⟩
noncomputable def C (k : Nat) : Ctx := cx [] [] [] [] [] [] []
noncomputable def sem (k : Nat) : Sem := D.sem (D.ev (C k) k)
noncomputable def f (k : Nat) (p0 p1 : (Int × (Int × Int))) : Option (Bool × Unit) := D.ev (C k) k (p0, p1, ())
theorem s (k : Nat) (p0 p1 : (Int × (Int × Int))) : f k p0 p1 =
 (if (p0.1 != p1.1) = true then
  some (false, ())
 else
  if (p0.2.1 != p1.2.1) = true then
   some (false, ())
  else
   if (p0.2.2 != p1.2.2) = true then
    some (false, ())
   else
    some (true, ())) := by kernel_rfl
theorem ok (k : Nat) : Ok Tryz.prog 116 (sem k) := Fd.ok (cx_ok trivial) ⟨Tryz.func116, rfl, by kernel_rfl⟩ rfl
attribute [irreducible] f
end laws_eqVar
/-! loop.example/wholecheck/laws.eqVarS -/
namespace laws_eqVarS
noncomputable def D : Fd := ⟨Tryz.f58, 1, .bool, .sh, [.sh, .sh], .unit, h86⟩
noncomputable def C (k : Nat) : Ctx := cx [(116, laws_eqVar.sem k)] [] [(4, [(0, none), (1, none), (5, none)])] [] [(6, [0, 1, 2, 3, 4, 5, 6, 7, 8, 9])] [] []
noncomputable def sem (k : Nat) : Sem := D.sem (D.ev (C k) k)
noncomputable def f (k : Nat) (p0 p1 : y0) : Option (Bool × Unit) := D.ev (C k) k (p0, p1, ())
noncomputable def l4 (k : Nat) (p0 p1 : y0) (n : Nat) (v5_4 : Int) : Option (Bool × Unit) :=
 D.lp (C k) k 4 [1, 1, 0, 1, 0] [] n [(5, vI v5_4), (1, vS h2 p1), (0, vS h2 p0)]
theorem s4 (k : Nat) (p0 p1 : y0) (n : Nat) (v5_4 : Int) : l4 k p0 p1 (n + 1) v5_4 =
 (if (decide (v5_4 < ((p0.length : Int)))) = true then
  gd ((0 : Int) ≤ v5_4) <| gd (v5_4 < (p0.length : Int)) <| gd ((0 : Int) ≤ v5_4) <| gd (v5_4 < (p1.length : Int)) <| (laws_eqVar.f k (p0.getD (v5_4.toNat) (0, (0, 0))) (p1.getD (v5_4.toNat) (0, (0, 0)))).bind fun r1 =>
  if (!r1.1) = true then
   some (false, ())
  else
   l4 k p0 p1 n (w64 (v5_4 + 1))
 else
  some (true, ())) := by kernel_rfl
theorem z4 (k : Nat) (p0 p1 : y0) (v5_4 : Int) : l4 k p0 p1 0 v5_4 = none := by kernel_rfl
theorem s (k : Nat) (p0 p1 : y0) : f k p0 p1 =
 (if (((p0.length : Int)) != ((p1.length : Int))) = true then
  some (false, ())
 else
  l4 k p0 p1 k 0) := by kernel_rfl
theorem ok (k : Nat) : Ok Tryz.prog 58 (sem k) := Fd.ok (cx_ok ⟨laws_eqVar.ok k, trivial⟩) ⟨Tryz.func58, rfl, by kernel_rfl⟩ rfl
attribute [irreducible] f l4
end laws_eqVarS
/-! loop.example/wholecheck/laws.eqTerm -/
namespace laws_eqTerm
noncomputable def D : Fd := ⟨Tryz.f70, 1, .bool, .sh, [.sh, .sh], .unit, h87⟩
noncomputable def C (k : Nat) : Ctx := cx [] [] [] [] [] [] []
noncomputable def sem (k : Nat) : Sem := D.sem (D.ev (C k) k)
noncomputable def f (k : Nat) (p0 p1 : y1) : Option (Bool × Unit) := D.ev (C k) k (p0, p1, ())
theorem s (k : Nat) (p0 p1 : y1) : f k p0 p1 =
 (if (p0.1 != p1.1) = true then
  some (false, ())
 else
  if (p0.2.1 != p1.2.1) = true then
   some (false, ())
  else
   if (p0.2.2.1 != p1.2.2.1) = true then
    some (false, ())
   else
    if (p0.2.2.2 != p1.2.2.2) = true then
     some (false, ())
    else
     some (true, ())) := by kernel_rfl
theorem ok (k : Nat) : Ok Tryz.prog 70 (sem k) := Fd.ok (cx_ok trivial) ⟨Tryz.func70, rfl, by kernel_rfl⟩ rfl
attribute [irreducible] f
end laws_eqTerm
/-! loop.example/wholecheck/laws.eqTermS -/
namespace laws_eqTermS
noncomputable def D : Fd := ⟨Tryz.f30, 1, .bool, .sh, [.sh, .sh], .unit, h88⟩
noncomputable def C (k : Nat) : Ctx := cx [(70, laws_eqTerm.sem k)] [] [(4, [(0, none), (1, none), (5, none)])] [] [(6, [0, 1, 2, 3, 4, 5, 6, 7, 8, 9])] [] []
noncomputable def sem (k : Nat) : Sem := D.sem (D.ev (C k) k)
noncomputable def f (k : Nat) (p0 p1 : y2) : Option (Bool × Unit) := D.ev (C k) k (p0, p1, ())
noncomputable def l4 (k : Nat) (p0 p1 : y2) (n : Nat) (v5_4 : Int) : Option (Bool × Unit) :=
 D.lp (C k) k 4 [1, 1, 0, 1, 0] [] n [(5, vI v5_4), (1, vS h7 p1), (0, vS h7 p0)]
theorem s4 (k : Nat) (p0 p1 : y2) (n : Nat) (v5_4 : Int) : l4 k p0 p1 (n + 1) v5_4 =
 (if (decide (v5_4 < ((p0.length : Int)))) = true then
  gd ((0 : Int) ≤ v5_4) <| gd (v5_4 < (p0.length : Int)) <| gd ((0 : Int) ≤ v5_4) <| gd (v5_4 < (p1.length : Int)) <| (laws_eqTerm.f k (p0.getD (v5_4.toNat) (0, (0, (0, 0)))) (p1.getD (v5_4.toNat) (0, (0, (0, 0))))).bind fun r1 =>
  if (!r1.1) = true then
   some (false, ())
  else
   l4 k p0 p1 n (w64 (v5_4 + 1))
 else
  some (true, ())) := by kernel_rfl
theorem z4 (k : Nat) (p0 p1 : y2) (v5_4 : Int) : l4 k p0 p1 0 v5_4 = none := by kernel_rfl
theorem s (k : Nat) (p0 p1 : y2) : f k p0 p1 =
 (if (((p0.length : Int)) != ((p1.length : Int))) = true then
  some (false, ())
 else
  l4 k p0 p1 k 0) := by kernel_rfl
theorem ok (k : Nat) : Ok Tryz.prog 30 (sem k) := Fd.ok (cx_ok ⟨laws_eqTerm.ok k, trivial⟩) ⟨Tryz.func30, rfl, by kernel_rfl⟩ rfl
attribute [irreducible] f l4
end laws_eqTermS
/-! loop.example/wholecheck/laws.eqTermSS -/
namespace laws_eqTermSS
noncomputable def D : Fd := ⟨Tryz.f158, 1, .bool, .sh, [.sh, .sh], .unit, h89⟩
noncomputable def C (k : Nat) : Ctx := cx [(30, laws_eqTermS.sem k)] [] [(4, [(0, none), (1, none), (5, none)])] [] [(6, [0, 1, 2, 3, 4, 5, 6, 7, 8, 9])] [] []
noncomputable def sem (k : Nat) : Sem := D.sem (D.ev (C k) k)
noncomputable def f (k : Nat) (p0 p1 : y3) : Option (Bool × Unit) := D.ev (C k) k (p0, p1, ())
noncomputable def l4 (k : Nat) (p0 p1 : y3) (n : Nat) (v5_4 : Int) : Option (Bool × Unit) :=
 D.lp (C k) k 4 [1, 1, 0, 1, 0] [] n [(5, vI v5_4), (1, vS h11 p1), (0, vS h11 p0)]
theorem s4 (k : Nat) (p0 p1 : y3) (n : Nat) (v5_4 : Int) : l4 k p0 p1 (n + 1) v5_4 =
 (if (decide (v5_4 < ((p0.length : Int)))) = true then
  gd ((0 : Int) ≤ v5_4) <| gd (v5_4 < (p0.length : Int)) <| gd ((0 : Int) ≤ v5_4) <| gd (v5_4 < (p1.length : Int)) <| (laws_eqTermS.f k (p0.getD (v5_4.toNat) []) (p1.getD (v5_4.toNat) [])).bind fun r1 =>
  if (!r1.1) = true then
   some (false, ())
  else
   l4 k p0 p1 n (w64 (v5_4 + 1))
 else
  some (true, ())) := by kernel_rfl
theorem z4 (k : Nat) (p0 p1 : y3) (v5_4 : Int) : l4 k p0 p1 0 v5_4 = none := by kernel_rfl
theorem s (k : Nat) (p0 p1 : y3) : f k p0 p1 =
 (if (((p0.length : Int)) != ((p1.length : Int))) = true then
  some (false, ())
 else
  l4 k p0 p1 k 0) := by kernel_rfl
theorem ok (k : Nat) : Ok Tryz.prog 158 (sem k) := Fd.ok (cx_ok ⟨laws_eqTermS.ok k, trivial⟩) ⟨Tryz.func158, rfl, by kernel_rfl⟩ rfl
attribute [irreducible] f l4
end laws_eqTermSS
/-! loop.example/wholecheck/laws.eqRule -/
namespace laws_eqRule
noncomputable def D : Fd := ⟨Tryz.f117, 1, .bool, .sh, [.sh, .sh], .unit, h90⟩
noncomputable def C (k : Nat) : Ctx := cx [(30, laws_eqTermS.sem k), (20, laws_eqIntS.sem k), (158, laws_eqTermSS.sem k)] [] [] [] [] [] []
noncomputable def sem (k : Nat) : Sem := D.sem (D.ev (C k) k)
noncomputable def f (k : Nat) (p0 p1 : y5) : Option (Bool × Unit) := D.ev (C k) k (p0, p1, ())
theorem s (k : Nat) (p0 p1 : y5) : f k p0 p1 =
 ((laws_eqTermS.f k p0.1 p1.1).bind fun r1 =>
 if (!r1.1) = true then
  some (false, ())
 else
  (laws_eqIntS.f k p0.2.1 p1.2.1).bind fun r2 =>
  if (!r2.1) = true then
   some (false, ())
  else
   (laws_eqTermSS.f k p0.2.2 p1.2.2).bind fun r3 =>
   if (!r3.1) = true then
    some (false, ())
   else
    some (true, ())) := by kernel_rfl
theorem ok (k : Nat) : Ok Tryz.prog 117 (sem k) := Fd.ok (cx_ok ⟨laws_eqTermS.ok k, laws_eqIntS.ok k, laws_eqTermSS.ok k, trivial⟩) ⟨Tryz.func117, rfl, by kernel_rfl⟩ rfl
attribute [irreducible] f
end laws_eqRule
/-! loop.example/wholecheck/laws.eqRuleS -/
namespace laws_eqRuleS
noncomputable def D : Fd := ⟨Tryz.f59, 1, .bool, .sh, [.sh, .sh], .unit, h91⟩
noncomputable def C (k : Nat) : Ctx := cx [(117, laws_eqRule.sem k)] [] [(4, [(0, none), (1, none), (5, none)])] [] [(6, [0, 1, 2, 3, 4, 5, 6, 7, 8, 9])] [] []
noncomputable def sem (k : Nat) : Sem := D.sem (D.ev (C k) k)
noncomputable def f (k : Nat) (p0 p1 : y6) : Option (Bool × Unit) := D.ev (C k) k (p0, p1, ())
noncomputable def l4 (k : Nat) (p0 p1 : y6) (n : Nat) (v5_4 : Int) : Option (Bool × Unit) :=
 D.lp (C k) k 4 [1, 1, 0, 1, 0] [] n [(5, vI v5_4), (1, vS h17 p1), (0, vS h17 p0)]
theorem s4 (k : Nat) (p0 p1 : y6) (n : Nat) (v5_4 : Int) : l4 k p0 p1 (n + 1) v5_4 =
 (if (decide (v5_4 < ((p0.length : Int)))) = true then
  gd ((0 : Int) ≤ v5_4) <| gd (v5_4 < (p0.length : Int)) <| gd ((0 : Int) ≤ v5_4) <| gd (v5_4 < (p1.length : Int)) <| (laws_eqRule.f k (p0.getD (v5_4.toNat) ([], ([], []))) (p1.getD (v5_4.toNat) ([], ([], [])))).bind fun r1 =>
  if (!r1.1) = true then
   some (false, ())
  else
   l4 k p0 p1 n (w64 (v5_4 + 1))
 else
  some (true, ())) := by kernel_rfl
theorem z4 (k : Nat) (p0 p1 : y6) (v5_4 : Int) : l4 k p0 p1 0 v5_4 = none := by kernel_rfl
theorem s (k : Nat) (p0 p1 : y6) : f k p0 p1 =
 (if (((p0.length : Int)) != ((p1.length : Int))) = true then
  some (false, ())
 else
  l4 k p0 p1 k 0) := by kernel_rfl
theorem ok (k : Nat) : Ok Tryz.prog 59 (sem k) := Fd.ok (cx_ok ⟨laws_eqRule.ok k, trivial⟩) ⟨Tryz.func59, rfl, by kernel_rfl⟩ rfl
attribute [irreducible] f l4
end laws_eqRuleS
/-! loop.example/wholecheck/laws.eqSystem -/
namespace laws_eqSystem
noncomputable def D : Fd := ⟨Tryz.f18, 1, .bool, .sh, [.sh, .sh], .unit, h92⟩
noncomputable def C (k : Nat) : Ctx := cx [(58, laws_eqVarS.sem k), (59, laws_eqRuleS.sem k)] [] [] [] [] [] []
noncomputable def sem (k : Nat) : Sem := D.sem (D.ev (C k) k)
noncomputable def f (k : Nat) (p0 p1 : y7) : Option (Bool × Unit) := D.ev (C k) k (p0, p1, ())
theorem s (k : Nat) (p0 p1 : y7) : f k p0 p1 =
 ((laws_eqVarS.f k p0.1 p1.1).bind fun r1 =>
 if (!r1.1) = true then
  some (false, ())
 else
  (laws_eqRuleS.f k p0.2 p1.2).bind fun r2 =>
  if (!r2.1) = true then
   some (false, ())
  else
   some (true, ())) := by kernel_rfl
theorem ok (k : Nat) : Ok Tryz.prog 18 (sem k) := Fd.ok (cx_ok ⟨laws_eqVarS.ok k, laws_eqRuleS.ok k, trivial⟩) ⟨Tryz.func18, rfl, by kernel_rfl⟩ rfl
attribute [irreducible] f
end laws_eqSystem
/-! loop.example/wholecheck/laws.eqBlocks -/
namespace laws_eqBlocks
noncomputable def D : Fd := ⟨Tryz.f19, 1, .bool, .sh, [.sh, .sh], .unit, h93⟩
noncomputable def C (k : Nat) : Ctx := cx [(20, laws_eqIntS.sem k)] [] [] [] [] [] []
noncomputable def sem (k : Nat) : Sem := D.sem (D.ev (C k) k)
noncomputable def f (k : Nat) (p0 p1 : (List Int)) : Option (Bool × Unit) := D.ev (C k) k (p0, p1, ())
theorem s (k : Nat) (p0 p1 : (List Int)) : f k p0 p1 =
 ((laws_eqIntS.f k p0 p1).bind fun r1 =>
 if (!r1.1) = true then
  some (false, ())
 else
  some (true, ())) := by kernel_rfl
theorem ok (k : Nat) : Ok Tryz.prog 19 (sem k) := Fd.ok (cx_ok ⟨laws_eqIntS.ok k, trivial⟩) ⟨Tryz.func19, rfl, by kernel_rfl⟩ rfl
attribute [irreducible] f
end laws_eqBlocks
/-! loop.example/wholecheck/laws.markVarS -/
namespace laws_markVarS
noncomputable def D : Fd := ⟨Tryz.f60, 1, I, .sh, [.loan (.ow (.ag (.pr .sh (.pr .sh .sh)))), .sh], h2, h4⟩
noncomputable def C (k : Nat) : Ctx := cx [] [] [(2, [(0, none), (1, none), (5, none)])] [0] [] [] []
noncomputable def sem (k : Nat) : Sem := D.sem (D.ev (C k) k)
noncomputable def f (k : Nat) (p0 : y0) (p1 : Int) : Option (Int × y0) := D.ev (C k) k (p0, p1, ())
noncomputable def l2 (k : Nat) (n : Nat) (v0_2 : y0) (v1_2 v5_2 : Int) : Option (Int × y0) :=
 D.lp (C k) k 2 [1, 0, 1, 0] [] n [(5, vI v5_2), (1, vI v1_2), (0, vO h2 v0_2)]
theorem s2 (k : Nat) (n : Nat) (v0_2 : y0) (v1_2 v5_2 : Int) : l2 k (n + 1) v0_2 v1_2 v5_2 =
 (if (decide (v5_2 < ((v0_2.length : Int)))) = true then
  gd ((0 : Int) ≤ v5_2) <| gd (v5_2 < (v0_2.length : Int)) <| gd ((0 : Int) ≤ v5_2) <| gd (v5_2 < ((v0_2.set (v5_2.toNat) (v1_2, (v0_2.getD (v5_2.toNat) (0, (0, 0))).2)).length : Int)) <| gd ((0 : Int) ≤ v5_2) <| gd (v5_2 < (((v0_2.set (v5_2.toNat) (v1_2, (v0_2.getD (v5_2.toNat) (0, (0, 0))).2)).set (v5_2.toNat) (((v0_2.set (v5_2.toNat) (v1_2, (v0_2.getD (v5_2.toNat) (0, (0, 0))).2)).getD (v5_2.toNat) (0, (0, 0))).1, (w64 (v1_2 + 1), ((v0_2.set (v5_2.toNat) (v1_2, (v0_2.getD (v5_2.toNat) (0, (0, 0))).2)).getD (v5_2.toNat) (0, (0, 0))).2.2))).length : Int)) <| l2 k n (((v0_2.set (v5_2.toNat) (v1_2, (v0_2.getD (v5_2.toNat) (0, (0, 0))).2)).set (v5_2.toNat) (((v0_2.set (v5_2.toNat) (v1_2, (v0_2.getD (v5_2.toNat) (0, (0, 0))).2)).getD (v5_2.toNat) (0, (0, 0))).1, (w64 (v1_2 + 1), ((v0_2.set (v5_2.toNat) (v1_2, (v0_2.getD (v5_2.toNat) (0, (0, 0))).2)).getD (v5_2.toNat) (0, (0, 0))).2.2))).set (v5_2.toNat) ((((v0_2.set (v5_2.toNat) (v1_2, (v0_2.getD (v5_2.toNat) (0, (0, 0))).2)).set (v5_2.toNat) (((v0_2.set (v5_2.toNat) (v1_2, (v0_2.getD (v5_2.toNat) (0, (0, 0))).2)).getD (v5_2.toNat) (0, (0, 0))).1, (w64 (v1_2 + 1), ((v0_2.set (v5_2.toNat) (v1_2, (v0_2.getD (v5_2.toNat) (0, (0, 0))).2)).getD (v5_2.toNat) (0, (0, 0))).2.2))).getD (v5_2.toNat) (0, (0, 0))).1, ((((v0_2.set (v5_2.toNat) (v1_2, (v0_2.getD (v5_2.toNat) (0, (0, 0))).2)).set (v5_2.toNat) (((v0_2.set (v5_2.toNat) (v1_2, (v0_2.getD (v5_2.toNat) (0, (0, 0))).2)).getD (v5_2.toNat) (0, (0, 0))).1, (w64 (v1_2 + 1), ((v0_2.set (v5_2.toNat) (v1_2, (v0_2.getD (v5_2.toNat) (0, (0, 0))).2)).getD (v5_2.toNat) (0, (0, 0))).2.2))).getD (v5_2.toNat) (0, (0, 0))).2.1, w64 ((w64 (v1_2 + 1)) + 1)))) (w64 ((w64 ((w64 (v1_2 + 1)) + 1)) + 1)) (w64 (v5_2 + 1))
 else
  some (v1_2, v0_2)) := by kernel_rfl
theorem z2 (k : Nat) (v0_2 : y0) (v1_2 v5_2 : Int) : l2 k 0 v0_2 v1_2 v5_2 = none := by kernel_rfl
theorem s (k : Nat) (p0 : y0) (p1 : Int) : f k p0 p1 =
 (l2 k k p0 p1 0) := by kernel_rfl
theorem ok (k : Nat) : Ok Tryz.prog 60 (sem k) := Fd.ok (cx_ok trivial) ⟨Tryz.func60, rfl, by kernel_rfl⟩ rfl
attribute [irreducible] f l2
end laws_markVarS
/-! loop.example/wholecheck/laws.markTermS -/
namespace laws_markTermS
noncomputable def D : Fd := ⟨Tryz.f31, 1, I, .sh, [.loan (.ow (.ag (.pr .sh (.pr .sh (.pr .sh .sh))))), .sh], h7, h8⟩
noncomputable def C (k : Nat) : Ctx := cx [] [] [(2, [(0, none), (1, none), (5, none)])] [0] [] [] []
noncomputable def sem (k : Nat) : Sem := D.sem (D.ev (C k) k)
noncomputable def f (k : Nat) (p0 : y2) (p1 : Int) : Option (Int × y2) := D.ev (C k) k (p0, p1, ())
noncomputable def l2 (k : Nat) (n : Nat) (v0_2 : y2) (v1_2 v5_2 : Int) : Option (Int × y2) :=
 D.lp (C k) k 2 [1, 0, 1, 0] [] n [(5, vI v5_2), (1, vI v1_2), (0, vO h7 v0_2)]
theorem s2 (k : Nat) (n : Nat) (v0_2 : y2) (v1_2 v5_2 : Int) : l2 k (n + 1) v0_2 v1_2 v5_2 =
 (if (decide (v5_2 < ((v0_2.length : Int)))) = true then
  gd ((0 : Int) ≤ v5_2) <| gd (v5_2 < (v0_2.length : Int)) <| gd ((0 : Int) ≤ v5_2) <| gd (v5_2 < ((v0_2.set (v5_2.toNat) (v1_2, (v0_2.getD (v5_2.toNat) (0, (0, (0, 0)))).2)).length : Int)) <| gd ((0 : Int) ≤ v5_2) <| gd (v5_2 < (((v0_2.set (v5_2.toNat) (v1_2, (v0_2.getD (v5_2.toNat) (0, (0, (0, 0)))).2)).set (v5_2.toNat) (((v0_2.set (v5_2.toNat) (v1_2, (v0_2.getD (v5_2.toNat) (0, (0, (0, 0)))).2)).getD (v5_2.toNat) (0, (0, (0, 0)))).1, (w64 (v1_2 + 1), ((v0_2.set (v5_2.toNat) (v1_2, (v0_2.getD (v5_2.toNat) (0, (0, (0, 0)))).2)).getD (v5_2.toNat) (0, (0, (0, 0)))).2.2))).length : Int)) <| gd ((0 : Int) ≤ v5_2) <| gd (v5_2 < ((((v0_2.set (v5_2.toNat) (v1_2, (v0_2.getD (v5_2.toNat) (0, (0, (0, 0)))).2)).set (v5_2.toNat) (((v0_2.set (v5_2.toNat) (v1_2, (v0_2.getD (v5_2.toNat) (0, (0, (0, 0)))).2)).getD (v5_2.toNat) (0, (0, (0, 0)))).1, (w64 (v1_2 + 1), ((v0_2.set (v5_2.toNat) (v1_2, (v0_2.getD (v5_2.toNat) (0, (0, (0, 0)))).2)).getD (v5_2.toNat) (0, (0, (0, 0)))).2.2))).set (v5_2.toNat) ((((v0_2.set (v5_2.toNat) (v1_2, (v0_2.getD (v5_2.toNat) (0, (0, (0, 0)))).2)).set (v5_2.toNat) (((v0_2.set (v5_2.toNat) (v1_2, (v0_2.getD (v5_2.toNat) (0, (0, (0, 0)))).2)).getD (v5_2.toNat) (0, (0, (0, 0)))).1, (w64 (v1_2 + 1), ((v0_2.set (v5_2.toNat) (v1_2, (v0_2.getD (v5_2.toNat) (0, (0, (0, 0)))).2)).getD (v5_2.toNat) (0, (0, (0, 0)))).2.2))).getD (v5_2.toNat) (0, (0, (0, 0)))).1, ((((v0_2.set (v5_2.toNat) (v1_2, (v0_2.getD (v5_2.toNat) (0, (0, (0, 0)))).2)).set (v5_2.toNat) (((v0_2.set (v5_2.toNat) (v1_2, (v0_2.getD (v5_2.toNat) (0, (0, (0, 0)))).2)).getD (v5_2.toNat) (0, (0, (0, 0)))).1, (w64 (v1_2 + 1), ((v0_2.set (v5_2.toNat) (v1_2, (v0_2.getD (v5_2.toNat) (0, (0, (0, 0)))).2)).getD (v5_2.toNat) (0, (0, (0, 0)))).2.2))).getD (v5_2.toNat) (0, (0, (0, 0)))).2.1, (w64 ((w64 (v1_2 + 1)) + 1), (((v0_2.set (v5_2.toNat) (v1_2, (v0_2.getD (v5_2.toNat) (0, (0, (0, 0)))).2)).set (v5_2.toNat) (((v0_2.set (v5_2.toNat) (v1_2, (v0_2.getD (v5_2.toNat) (0, (0, (0, 0)))).2)).getD (v5_2.toNat) (0, (0, (0, 0)))).1, (w64 (v1_2 + 1), ((v0_2.set (v5_2.toNat) (v1_2, (v0_2.getD (v5_2.toNat) (0, (0, (0, 0)))).2)).getD (v5_2.toNat) (0, (0, (0, 0)))).2.2))).getD (v5_2.toNat) (0, (0, (0, 0)))).2.2.2)))).length : Int)) <| l2 k n ((((v0_2.set (v5_2.toNat) (v1_2, (v0_2.getD (v5_2.toNat) (0, (0, (0, 0)))).2)).set (v5_2.toNat) (((v0_2.set (v5_2.toNat) (v1_2, (v0_2.getD (v5_2.toNat) (0, (0, (0, 0)))).2)).getD (v5_2.toNat) (0, (0, (0, 0)))).1, (w64 (v1_2 + 1), ((v0_2.set (v5_2.toNat) (v1_2, (v0_2.getD (v5_2.toNat) (0, (0, (0, 0)))).2)).getD (v5_2.toNat) (0, (0, (0, 0)))).2.2))).set (v5_2.toNat) ((((v0_2.set (v5_2.toNat) (v1_2, (v0_2.getD (v5_2.toNat) (0, (0, (0, 0)))).2)).set (v5_2.toNat) (((v0_2.set (v5_2.toNat) (v1_2, (v0_2.getD (v5_2.toNat) (0, (0, (0, 0)))).2)).getD (v5_2.toNat) (0, (0, (0, 0)))).1, (w64 (v1_2 + 1), ((v0_2.set (v5_2.toNat) (v1_2, (v0_2.getD (v5_2.toNat) (0, (0, (0, 0)))).2)).getD (v5_2.toNat) (0, (0, (0, 0)))).2.2))).getD (v5_2.toNat) (0, (0, (0, 0)))).1, ((((v0_2.set (v5_2.toNat) (v1_2, (v0_2.getD (v5_2.toNat) (0, (0, (0, 0)))).2)).set (v5_2.toNat) (((v0_2.set (v5_2.toNat) (v1_2, (v0_2.getD (v5_2.toNat) (0, (0, (0, 0)))).2)).getD (v5_2.toNat) (0, (0, (0, 0)))).1, (w64 (v1_2 + 1), ((v0_2.set (v5_2.toNat) (v1_2, (v0_2.getD (v5_2.toNat) (0, (0, (0, 0)))).2)).getD (v5_2.toNat) (0, (0, (0, 0)))).2.2))).getD (v5_2.toNat) (0, (0, (0, 0)))).2.1, (w64 ((w64 (v1_2 + 1)) + 1), (((v0_2.set (v5_2.toNat) (v1_2, (v0_2.getD (v5_2.toNat) (0, (0, (0, 0)))).2)).set (v5_2.toNat) (((v0_2.set (v5_2.toNat) (v1_2, (v0_2.getD (v5_2.toNat) (0, (0, (0, 0)))).2)).getD (v5_2.toNat) (0, (0, (0, 0)))).1, (w64 (v1_2 + 1), ((v0_2.set (v5_2.toNat) (v1_2, (v0_2.getD (v5_2.toNat) (0, (0, (0, 0)))).2)).getD (v5_2.toNat) (0, (0, (0, 0)))).2.2))).getD (v5_2.toNat) (0, (0, (0, 0)))).2.2.2)))).set (v5_2.toNat) (((((v0_2.set (v5_2.toNat) (v1_2, (v0_2.getD (v5_2.toNat) (0, (0, (0, 0)))).2)).set (v5_2.toNat) (((v0_2.set (v5_2.toNat) (v1_2, (v0_2.getD (v5_2.toNat) (0, (0, (0, 0)))).2)).getD (v5_2.toNat) (0, (0, (0, 0)))).1, (w64 (v1_2 + 1), ((v0_2.set (v5_2.toNat) (v1_2, (v0_2.getD (v5_2.toNat) (0, (0, (0, 0)))).2)).getD (v5_2.toNat) (0, (0, (0, 0)))).2.2))).set (v5_2.toNat) ((((v0_2.set (v5_2.toNat) (v1_2, (v0_2.getD (v5_2.toNat) (0, (0, (0, 0)))).2)).set (v5_2.toNat) (((v0_2.set (v5_2.toNat) (v1_2, (v0_2.getD (v5_2.toNat) (0, (0, (0, 0)))).2)).getD (v5_2.toNat) (0, (0, (0, 0)))).1, (w64 (v1_2 + 1), ((v0_2.set (v5_2.toNat) (v1_2, (v0_2.getD (v5_2.toNat) (0, (0, (0, 0)))).2)).getD (v5_2.toNat) (0, (0, (0, 0)))).2.2))).getD (v5_2.toNat) (0, (0, (0, 0)))).1, ((((v0_2.set (v5_2.toNat) (v1_2, (v0_2.getD (v5_2.toNat) (0, (0, (0, 0)))).2)).set (v5_2.toNat) (((v0_2.set (v5_2.toNat) (v1_2, (v0_2.getD (v5_2.toNat) (0, (0, (0, 0)))).2)).getD (v5_2.toNat) (0, (0, (0, 0)))).1, (w64 (v1_2 + 1), ((v0_2.set (v5_2.toNat) (v1_2, (v0_2.getD (v5_2.toNat) (0, (0, (0, 0)))).2)).getD (v5_2.toNat) (0, (0, (0, 0)))).2.2))).getD (v5_2.toNat) (0, (0, (0, 0)))).2.1, (w64 ((w64 (v1_2 + 1)) + 1), (((v0_2.set (v5_2.toNat) (v1_2, (v0_2.getD (v5_2.toNat) (0, (0, (0, 0)))).2)).set (v5_2.toNat) (((v0_2.set (v5_2.toNat) (v1_2, (v0_2.getD (v5_2.toNat) (0, (0, (0, 0)))).2)).getD (v5_2.toNat) (0, (0, (0, 0)))).1, (w64 (v1_2 + 1), ((v0_2.set (v5_2.toNat) (v1_2, (v0_2.getD (v5_2.toNat) (0, (0, (0, 0)))).2)).getD (v5_2.toNat) (0, (0, (0, 0)))).2.2))).getD (v5_2.toNat) (0, (0, (0, 0)))).2.2.2)))).getD (v5_2.toNat) (0, (0, (0, 0)))).1, (((((v0_2.set (v5_2.toNat) (v1_2, (v0_2.getD (v5_2.toNat) (0, (0, (0, 0)))).2)).set (v5_2.toNat) (((v0_2.set (v5_2.toNat) (v1_2, (v0_2.getD (v5_2.toNat) (0, (0, (0, 0)))).2)).getD (v5_2.toNat) (0, (0, (0, 0)))).1, (w64 (v1_2 + 1), ((v0_2.set (v5_2.toNat) (v1_2, (v0_2.getD (v5_2.toNat) (0, (0, (0, 0)))).2)).getD (v5_2.toNat) (0, (0, (0, 0)))).2.2))).set (v5_2.toNat) ((((v0_2.set (v5_2.toNat) (v1_2, (v0_2.getD (v5_2.toNat) (0, (0, (0, 0)))).2)).set (v5_2.toNat) (((v0_2.set (v5_2.toNat) (v1_2, (v0_2.getD (v5_2.toNat) (0, (0, (0, 0)))).2)).getD (v5_2.toNat) (0, (0, (0, 0)))).1, (w64 (v1_2 + 1), ((v0_2.set (v5_2.toNat) (v1_2, (v0_2.getD (v5_2.toNat) (0, (0, (0, 0)))).2)).getD (v5_2.toNat) (0, (0, (0, 0)))).2.2))).getD (v5_2.toNat) (0, (0, (0, 0)))).1, ((((v0_2.set (v5_2.toNat) (v1_2, (v0_2.getD (v5_2.toNat) (0, (0, (0, 0)))).2)).set (v5_2.toNat) (((v0_2.set (v5_2.toNat) (v1_2, (v0_2.getD (v5_2.toNat) (0, (0, (0, 0)))).2)).getD (v5_2.toNat) (0, (0, (0, 0)))).1, (w64 (v1_2 + 1), ((v0_2.set (v5_2.toNat) (v1_2, (v0_2.getD (v5_2.toNat) (0, (0, (0, 0)))).2)).getD (v5_2.toNat) (0, (0, (0, 0)))).2.2))).getD (v5_2.toNat) (0, (0, (0, 0)))).2.1, (w64 ((w64 (v1_2 + 1)) + 1), (((v0_2.set (v5_2.toNat) (v1_2, (v0_2.getD (v5_2.toNat) (0, (0, (0, 0)))).2)).set (v5_2.toNat) (((v0_2.set (v5_2.toNat) (v1_2, (v0_2.getD (v5_2.toNat) (0, (0, (0, 0)))).2)).getD (v5_2.toNat) (0, (0, (0, 0)))).1, (w64 (v1_2 + 1), ((v0_2.set (v5_2.toNat) (v1_2, (v0_2.getD (v5_2.toNat) (0, (0, (0, 0)))).2)).getD (v5_2.toNat) (0, (0, (0, 0)))).2.2))).getD (v5_2.toNat) (0, (0, (0, 0)))).2.2.2)))).getD (v5_2.toNat) (0, (0, (0, 0)))).2.1, (((((v0_2.set (v5_2.toNat) (v1_2, (v0_2.getD (v5_2.toNat) (0, (0, (0, 0)))).2)).set (v5_2.toNat) (((v0_2.set (v5_2.toNat) (v1_2, (v0_2.getD (v5_2.toNat) (0, (0, (0, 0)))).2)).getD (v5_2.toNat) (0, (0, (0, 0)))).1, (w64 (v1_2 + 1), ((v0_2.set (v5_2.toNat) (v1_2, (v0_2.getD (v5_2.toNat) (0, (0, (0, 0)))).2)).getD (v5_2.toNat) (0, (0, (0, 0)))).2.2))).set (v5_2.toNat) ((((v0_2.set (v5_2.toNat) (v1_2, (v0_2.getD (v5_2.toNat) (0, (0, (0, 0)))).2)).set (v5_2.toNat) (((v0_2.set (v5_2.toNat) (v1_2, (v0_2.getD (v5_2.toNat) (0, (0, (0, 0)))).2)).getD (v5_2.toNat) (0, (0, (0, 0)))).1, (w64 (v1_2 + 1), ((v0_2.set (v5_2.toNat) (v1_2, (v0_2.getD (v5_2.toNat) (0, (0, (0, 0)))).2)).getD (v5_2.toNat) (0, (0, (0, 0)))).2.2))).getD (v5_2.toNat) (0, (0, (0, 0)))).1, ((((v0_2.set (v5_2.toNat) (v1_2, (v0_2.getD (v5_2.toNat) (0, (0, (0, 0)))).2)).set (v5_2.toNat) (((v0_2.set (v5_2.toNat) (v1_2, (v0_2.getD (v5_2.toNat) (0, (0, (0, 0)))).2)).getD (v5_2.toNat) (0, (0, (0, 0)))).1, (w64 (v1_2 + 1), ((v0_2.set (v5_2.toNat) (v1_2, (v0_2.getD (v5_2.toNat) (0, (0, (0, 0)))).2)).getD (v5_2.toNat) (0, (0, (0, 0)))).2.2))).getD (v5_2.toNat) (0, (0, (0, 0)))).2.1, (w64 ((w64 (v1_2 + 1)) + 1), (((v0_2.set (v5_2.toNat) (v1_2, (v0_2.getD (v5_2.toNat) (0, (0, (0, 0)))).2)).set (v5_2.toNat) (((v0_2.set (v5_2.toNat) (v1_2, (v0_2.getD (v5_2.toNat) (0, (0, (0, 0)))).2)).getD (v5_2.toNat) (0, (0, (0, 0)))).1, (w64 (v1_2 + 1), ((v0_2.set (v5_2.toNat) (v1_2, (v0_2.getD (v5_2.toNat) (0, (0, (0, 0)))).2)).getD (v5_2.toNat) (0, (0, (0, 0)))).2.2))).getD (v5_2.toNat) (0, (0, (0, 0)))).2.2.2)))).getD (v5_2.toNat) (0, (0, (0, 0)))).2.2.1, w64 ((w64 ((w64 (v1_2 + 1)) + 1)) + 1))))) (w64 ((w64 ((w64 ((w64 (v1_2 + 1)) + 1)) + 1)) + 1)) (w64 (v5_2 + 1))
 else
  some (v1_2, v0_2)) := by kernel_rfl
theorem z2 (k : Nat) (v0_2 : y2) (v1_2 v5_2 : Int) : l2 k 0 v0_2 v1_2 v5_2 = none := by kernel_rfl
theorem s (k : Nat) (p0 : y2) (p1 : Int) : f k p0 p1 =
 (l2 k k p0 p1 0) := by kernel_rfl
theorem ok (k : Nat) : Ok Tryz.prog 31 (sem k) := Fd.ok (cx_ok trivial) ⟨Tryz.func31, rfl, by kernel_rfl⟩ rfl
attribute [irreducible] f l2
end laws_markTermS
/-! loop.example/wholecheck/laws.markIntS -/
namespace laws_markIntS
noncomputable def D : Fd := ⟨Tryz.f23, 1, I, .sh, [.loan (.ow .sh), .sh], h9, h10⟩
noncomputable def C (k : Nat) : Ctx := cx [] [] [(2, [(0, none), (1, none), (5, none)])] [0] [] [] []
noncomputable def sem (k : Nat) : Sem := D.sem (D.ev (C k) k)
noncomputable def f (k : Nat) (p0 : (List Int)) (p1 : Int) : Option (Int × (List Int)) := D.ev (C k) k (p0, p1, ())
noncomputable def l2 (k : Nat) (n : Nat) (v0_2 : (List Int)) (v1_2 v5_2 : Int) : Option (Int × (List Int)) :=
 D.lp (C k) k 2 [1, 0, 1, 0] [] n [(5, vI v5_2), (1, vI v1_2), (0, vO h9 v0_2)]
theorem s2 (k : Nat) (n : Nat) (v0_2 : (List Int)) (v1_2 v5_2 : Int) : l2 k (n + 1) v0_2 v1_2 v5_2 =
 (if (decide (v5_2 < ((v0_2.length : Int)))) = true then
  gd ((0 : Int) ≤ v5_2) <| gd (v5_2 < (v0_2.length : Int)) <| l2 k n (v0_2.set (v5_2.toNat) v1_2) (w64 (v1_2 + 1)) (w64 (v5_2 + 1))
 else
  some (v1_2, v0_2)) := by kernel_rfl
theorem z2 (k : Nat) (v0_2 : (List Int)) (v1_2 v5_2 : Int) : l2 k 0 v0_2 v1_2 v5_2 = none := by kernel_rfl
theorem s (k : Nat) (p0 : (List Int)) (p1 : Int) : f k p0 p1 =
 (l2 k k p0 p1 0) := by kernel_rfl
theorem ok (k : Nat) : Ok Tryz.prog 23 (sem k) := Fd.ok (cx_ok trivial) ⟨Tryz.func23, rfl, by kernel_rfl⟩ rfl
attribute [irreducible] f l2
end laws_markIntS
/-! loop.example/wholecheck/laws.markTermSS -/
namespace laws_markTermSS
noncomputable def D : Fd := ⟨Tryz.f118, 1, I, .sh, [.loan (.ow (.ow (.ag (.pr .sh (.pr .sh (.pr .sh .sh)))))), .sh], h11, h12⟩
noncomputable def C (k : Nat) : Ctx := cx [(31, laws_markTermS.sem k)] [] [(2, [(0, none), (1, none), (5, none)])] [0] [] [] []
noncomputable def sem (k : Nat) : Sem := D.sem (D.ev (C k) k)
noncomputable def f (k : Nat) (p0 : y3) (p1 : Int) : Option (Int × y3) := D.ev (C k) k (p0, p1, ())
noncomputable def l2 (k : Nat) (n : Nat) (v0_2 : y3) (v1_2 v5_2 : Int) : Option (Int × y3) :=
 D.lp (C k) k 2 [1, 0, 1, 0] [] n [(5, vI v5_2), (1, vI v1_2), (0, vO h11 v0_2)]
theorem s2 (k : Nat) (n : Nat) (v0_2 : y3) (v1_2 v5_2 : Int) : l2 k (n + 1) v0_2 v1_2 v5_2 =
 (if (decide (v5_2 < ((v0_2.length : Int)))) = true then
  gd ((0 : Int) ≤ v5_2) <| gd (v5_2 < (v0_2.length : Int)) <| (laws_markTermS.f k (v0_2.getD (v5_2.toNat) []) v1_2).bind fun r1 =>
  l2 k n (v0_2.set (v5_2.toNat) r1.2) r1.1 (w64 (v5_2 + 1))
 else
  some (v1_2, v0_2)) := by kernel_rfl
theorem z2 (k : Nat) (v0_2 : y3) (v1_2 v5_2 : Int) : l2 k 0 v0_2 v1_2 v5_2 = none := by kernel_rfl
theorem s (k : Nat) (p0 : y3) (p1 : Int) : f k p0 p1 =
 (l2 k k p0 p1 0) := by kernel_rfl
theorem ok (k : Nat) : Ok Tryz.prog 118 (sem k) := Fd.ok (cx_ok ⟨laws_markTermS.ok k, trivial⟩) ⟨Tryz.func118, rfl, by kernel_rfl⟩ rfl
attribute [irreducible] f l2
end laws_markTermSS
/-! loop.example/wholecheck/laws.markRuleS -/
namespace laws_markRuleS
noncomputable def D : Fd := ⟨Tryz.f61, 1, I, .sh, [.loan (.ow (.ag (.pr (.ow (.ag (.pr .sh (.pr .sh (.pr .sh .sh))))) (.pr (.ow .sh) (.ow (.ow (.ag (.pr .sh (.pr .sh (.pr .sh .sh)))))))))), .sh], h17, h18⟩
noncomputable def C (k : Nat) : Ctx := cx [(31, laws_markTermS.sem k), (23, laws_markIntS.sem k), (118, laws_markTermSS.sem k)] [] [(2, [(0, none), (1, none), (5, none)])] [0] [] [] []
noncomputable def sem (k : Nat) : Sem := D.sem (D.ev (C k) k)
noncomputable def f (k : Nat) (p0 : y6) (p1 : Int) : Option (Int × y6) := D.ev (C k) k (p0, p1, ())
noncomputable def l2 (k : Nat) (n : Nat) (v0_2 : y6) (v1_2 v5_2 : Int) : Option (Int × y6) :=
 D.lp (C k) k 2 [1, 0, 1, 0] [] n [(5, vI v5_2), (1, vI v1_2), (0, vO h17 v0_2)]
theorem s2 (k : Nat) (n : Nat) (v0_2 : y6) (v1_2 v5_2 : Int) : l2 k (n + 1) v0_2 v1_2 v5_2 =
 (if (decide (v5_2 < ((v0_2.length : Int)))) = true then
  gd ((0 : Int) ≤ v5_2) <| gd (v5_2 < (v0_2.length : Int)) <| (laws_markTermS.f k (v0_2.getD (v5_2.toNat) ([], ([], []))).1 v1_2).bind fun r1 =>
  gd ((0 : Int) ≤ v5_2) <| gd (v5_2 < ((v0_2.set (v5_2.toNat) (r1.2, (v0_2.getD (v5_2.toNat) ([], ([], []))).2)).length : Int)) <| (laws_markIntS.f k ((v0_2.set (v5_2.toNat) (r1.2, (v0_2.getD (v5_2.toNat) ([], ([], []))).2)).getD (v5_2.toNat) ([], ([], []))).2.1 r1.1).bind fun r2 =>
  gd ((0 : Int) ≤ v5_2) <| gd (v5_2 < (((v0_2.set (v5_2.toNat) (r1.2, (v0_2.getD (v5_2.toNat) ([], ([], []))).2)).set (v5_2.toNat) (((v0_2.set (v5_2.toNat) (r1.2, (v0_2.getD (v5_2.toNat) ([], ([], []))).2)).getD (v5_2.toNat) ([], ([], []))).1, (r2.2, ((v0_2.set (v5_2.toNat) (r1.2, (v0_2.getD (v5_2.toNat) ([], ([], []))).2)).getD (v5_2.toNat) ([], ([], []))).2.2))).length : Int)) <| (laws_markTermSS.f k (((v0_2.set (v5_2.toNat) (r1.2, (v0_2.getD (v5_2.toNat) ([], ([], []))).2)).set (v5_2.toNat) (((v0_2.set (v5_2.toNat) (r1.2, (v0_2.getD (v5_2.toNat) ([], ([], []))).2)).getD (v5_2.toNat) ([], ([], []))).1, (r2.2, ((v0_2.set (v5_2.toNat) (r1.2, (v0_2.getD (v5_2.toNat) ([], ([], []))).2)).getD (v5_2.toNat) ([], ([], []))).2.2))).getD (v5_2.toNat) ([], ([], []))).2.2 r2.1).bind fun r3 =>
  l2 k n (((v0_2.set (v5_2.toNat) (r1.2, (v0_2.getD (v5_2.toNat) ([], ([], []))).2)).set (v5_2.toNat) (((v0_2.set (v5_2.toNat) (r1.2, (v0_2.getD (v5_2.toNat) ([], ([], []))).2)).getD (v5_2.toNat) ([], ([], []))).1, (r2.2, ((v0_2.set (v5_2.toNat) (r1.2, (v0_2.getD (v5_2.toNat) ([], ([], []))).2)).getD (v5_2.toNat) ([], ([], []))).2.2))).set (v5_2.toNat) ((((v0_2.set (v5_2.toNat) (r1.2, (v0_2.getD (v5_2.toNat) ([], ([], []))).2)).set (v5_2.toNat) (((v0_2.set (v5_2.toNat) (r1.2, (v0_2.getD (v5_2.toNat) ([], ([], []))).2)).getD (v5_2.toNat) ([], ([], []))).1, (r2.2, ((v0_2.set (v5_2.toNat) (r1.2, (v0_2.getD (v5_2.toNat) ([], ([], []))).2)).getD (v5_2.toNat) ([], ([], []))).2.2))).getD (v5_2.toNat) ([], ([], []))).1, ((((v0_2.set (v5_2.toNat) (r1.2, (v0_2.getD (v5_2.toNat) ([], ([], []))).2)).set (v5_2.toNat) (((v0_2.set (v5_2.toNat) (r1.2, (v0_2.getD (v5_2.toNat) ([], ([], []))).2)).getD (v5_2.toNat) ([], ([], []))).1, (r2.2, ((v0_2.set (v5_2.toNat) (r1.2, (v0_2.getD (v5_2.toNat) ([], ([], []))).2)).getD (v5_2.toNat) ([], ([], []))).2.2))).getD (v5_2.toNat) ([], ([], []))).2.1, r3.2))) r3.1 (w64 (v5_2 + 1))
 else
  some (v1_2, v0_2)) := by kernel_rfl
theorem z2 (k : Nat) (v0_2 : y6) (v1_2 v5_2 : Int) : l2 k 0 v0_2 v1_2 v5_2 = none := by kernel_rfl
theorem s (k : Nat) (p0 : y6) (p1 : Int) : f k p0 p1 =
 (l2 k k p0 p1 0) := by kernel_rfl
theorem ok (k : Nat) : Ok Tryz.prog 61 (sem k) := Fd.ok (cx_ok ⟨laws_markTermS.ok k, laws_markIntS.ok k, laws_markTermSS.ok k, trivial⟩) ⟨Tryz.func61, rfl, by kernel_rfl⟩ rfl
attribute [irreducible] f l2
end laws_markRuleS
/-! loop.example/wholecheck/laws.markSystem -/
namespace laws_markSystem
noncomputable def D : Fd := ⟨Tryz.f21, 1, I, .sh, [.loan (.ag (.pr (.ow (.ag (.pr .sh (.pr .sh .sh)))) (.ow (.ag (.pr (.ow (.ag (.pr .sh (.pr .sh (.pr .sh .sh))))) (.pr (.ow .sh) (.ow (.ow (.ag (.pr .sh (.pr .sh (.pr .sh .sh)))))))))))), .sh], h20, h21⟩
noncomputable def C (k : Nat) : Ctx := cx [(60, laws_markVarS.sem k), (61, laws_markRuleS.sem k)] [] [] [0] [] [] []
noncomputable def sem (k : Nat) : Sem := D.sem (D.ev (C k) k)
noncomputable def f (k : Nat) (p0 : y7) (p1 : Int) : Option (Int × y7) := D.ev (C k) k (p0, p1, ())
theorem s (k : Nat) (p0 : y7) (p1 : Int) : f k p0 p1 =
 ((laws_markVarS.f k p0.1 p1).bind fun r1 =>
 (laws_markRuleS.f k p0.2 r1.1).bind fun r2 =>
 some (r2.1, (r1.2, r2.2))) := by kernel_rfl
theorem ok (k : Nat) : Ok Tryz.prog 21 (sem k) := Fd.ok (cx_ok ⟨laws_markVarS.ok k, laws_markRuleS.ok k, trivial⟩) ⟨Tryz.func21, rfl, by kernel_rfl⟩ rfl
attribute [irreducible] f
end laws_markSystem
/-! loop.example/wholecheck/laws.markBlocks -/
namespace laws_markBlocks
noncomputable def D : Fd := ⟨Tryz.f22, 1, I, .sh, [.loan (.ag (.ow .sh)), .sh], h22, h23⟩
noncomputable def C (k : Nat) : Ctx := cx [(23, laws_markIntS.sem k)] [] [] [0] [] [] []
noncomputable def sem (k : Nat) : Sem := D.sem (D.ev (C k) k)
noncomputable def f (k : Nat) (p0 : (List Int)) (p1 : Int) : Option (Int × (List Int)) := D.ev (C k) k (p0, p1, ())
theorem s (k : Nat) (p0 : (List Int)) (p1 : Int) : f k p0 p1 =
 ((laws_markIntS.f k p0 p1).bind fun r1 =>
 some (r1.1, r1.2)) := by kernel_rfl
theorem ok (k : Nat) : Ok Tryz.prog 22 (sem k) := Fd.ok (cx_ok ⟨laws_markIntS.ok k, trivial⟩) ⟨Tryz.func22, rfl, by kernel_rfl⟩ rfl
attribute [irreducible] f
end laws_markBlocks
/-! loop.example/wholecheck/laws.heldIntS -/
namespace laws_heldIntS
noncomputable def D : Fd := ⟨Tryz.f44, 1, I, .sh, [.sh, .sh], .unit, h10⟩
noncomputable def C (k : Nat) : Ctx := cx [] [] [(2, [(0, none), (1, none), (5, none)])] [] [] [] []
noncomputable def sem (k : Nat) : Sem := D.sem (D.ev (C k) k)
noncomputable def f (k : Nat) (p0 : (List Int)) (p1 : Int) : Option (Int × Unit) := D.ev (C k) k (p0, p1, ())
noncomputable def l2 (k : Nat) (p0 : (List Int)) (n : Nat) (v1_2 v5_2 : Int) : Option (Int × Unit) :=
 D.lp (C k) k 2 [1, 0, 1, 0] [] n [(5, vI v5_2), (1, vI v1_2), (0, vS h9 p0)]
theorem s2 (k : Nat) (p0 : (List Int)) (n : Nat) (v1_2 v5_2 : Int) : l2 k p0 (n + 1) v1_2 v5_2 =
 (if (decide (v5_2 < ((p0.length : Int)))) = true then
  gd ((0 : Int) ≤ v5_2) <| gd (v5_2 < (p0.length : Int)) <| if ((p0.getD (v5_2.toNat) 0) != v1_2) = true then
   some ((-1), ())
  else
   l2 k p0 n (w64 (v1_2 + 1)) (w64 (v5_2 + 1))
 else
  some (v1_2, ())) := by kernel_rfl
theorem z2 (k : Nat) (p0 : (List Int)) (v1_2 v5_2 : Int) : l2 k p0 0 v1_2 v5_2 = none := by kernel_rfl
theorem s (k : Nat) (p0 : (List Int)) (p1 : Int) : f k p0 p1 =
 (l2 k p0 k p1 0) := by kernel_rfl
theorem ok (k : Nat) : Ok Tryz.prog 44 (sem k) := Fd.ok (cx_ok trivial) ⟨Tryz.func44, rfl, by kernel_rfl⟩ rfl
attribute [irreducible] f l2
end laws_heldIntS
/-! loop.example/wholecheck/laws.FnExactBlockWay -/
namespace laws_FnExactBlockWay
noncomputable def D : Fd := ⟨Tryz.f9, 1, .bool, .sh, [.sh, .sh, .sh], .unit, h58⟩
noncomputable def C (k : Nat) : Ctx := cx [(10, laws_szSystem.sem k), (11, laws_szBlocks.sem k), (26, laws_szTermS.sem k), (13, laws_toSystem.sem k), (14, laws_toBlocks.sem k), (28, laws_toTermS.sem k), (45, spec_BlockWay.sem k), (46, impl_BlockWay.sem k), (20, laws_eqIntS.sem k), (18, laws_eqSystem.sem k), (19, laws_eqBlocks.sem k), (30, laws_eqTermS.sem k), (21, laws_markSystem.sem k), (22, laws_markBlocks.sem k), (31, laws_markTermS.sem k), (23, laws_markIntS.sem k), (44, laws_heldIntS.sem k)] [] [] [] [(11, [0, 2, 4, 1, 3, 5, 6, 7, 8, 9, 10, 11]), (18, [0, 1, 2, 3, 4]), (20, [0, 1, 2, 3, 4]), (38, [0, 2, 4, 1, 3, 5, 6, 7, 8, 9, 10, 11])] [((11, 1), [4]), ((18, 2), [10]), ((20, 2), [11]), ((38, 1), [4])] []
noncomputable def sem (k : Nat) : Sem := D.sem (D.ev (C k) k)
noncomputable def f (k : Nat) (p0 : y7) (p1 : (List Int)) (p2 : y2) : Option (Bool × Unit) := D.ev (C k) k (p0, p1, p2, ())
theorem s (k : Nat) (p0 : y7) (p1 : (List Int)) (p2 : y2) : f k p0 p1 p2 =
 ((laws_szSystem.f k p0 1048576).bind fun r1 =>
 if (decide (r1.1 < 0)) = true then
  some (true, ())
 else
  (laws_szBlocks.f k p1 r1.1).bind fun r2 =>
  if (decide (r2.1 < 0)) = true then
   some (true, ())
  else
   (laws_szTermS.f k p2 r2.1).bind fun r3 =>
   if (decide (r3.1 < 0)) = true then
    some (true, ())
   else
    (laws_toSystem.f k p0).bind fun r4 =>
    (laws_toBlocks.f k p1).bind fun r5 =>
    (laws_toTermS.f k p2).bind fun r6 =>
    (spec_BlockWay.f k r4.1 r5.1 r6.1).bind fun r7 =>
    (laws_toSystem.f k p0).bind fun r8 =>
    (laws_toBlocks.f k p1).bind fun r9 =>
    (laws_toTermS.f k p2).bind fun r10 =>
    (impl_BlockWay.f k r8.1 r9.1 r10.1).bind fun r11 =>
    (laws_eqIntS.f k r11.1.1 r7.1.1).bind fun r12 =>
    if (!r12.1) = true then
     some (false, ())
    else
     if (r11.1.2 != r7.1.2) = true then
      some (false, ())
     else
      (laws_toSystem.f k p0).bind fun r13 =>
      (laws_eqSystem.f k r8.1 r13.1).bind fun r14 =>
      if (!r14.1) = true then
       some (false, ())
      else
       (laws_toBlocks.f k p1).bind fun r15 =>
       (laws_eqBlocks.f k r9.1 r15.1).bind fun r16 =>
       if (!r16.1) = true then
        some (false, ())
       else
        (laws_toTermS.f k p2).bind fun r17 =>
        (laws_eqTermS.f k r10.1 r17.1).bind fun r18 =>
        if (!r18.1) = true then
         some (false, ())
        else
         (laws_markSystem.f k r8.1 1).bind fun r19 =>
         (laws_markBlocks.f k r9.1 r19.1).bind fun r20 =>
         (laws_markTermS.f k r10.1 r20.1).bind fun r21 =>
         if (decide (r21.1 < 0)) = true then
          some (false, ())
         else
          (laws_eqIntS.f k r11.1.1 r7.1.1).bind fun r22 =>
          if (!r22.1) = true then
           some (false, ())
          else
           if (r11.1.2 != r7.1.2) = true then
            some (false, ())
           else
            (laws_markIntS.f k r11.1.1 1).bind fun r23 =>
            (laws_heldIntS.f k r23.2 1).bind fun r24 =>
            if (decide (r24.1 < 0)) = true then
             some (false, ())
            else
             if (r24.1 != r23.1) = true then
              some (false, ())
             else
              (laws_toSystem.f k p0).bind fun r25 =>
              (laws_toBlocks.f k p1).bind fun r26 =>
              (laws_toTermS.f k p2).bind fun r27 =>
              (impl_BlockWay.f k r25.1 r26.1 r27.1).bind fun r28 =>
              (laws_eqIntS.f k r28.1.1 r7.1.1).bind fun r29 =>
              if (!r29.1) = true then
               some (false, ())
              else
               if (r28.1.2 != r7.1.2) = true then
                some (false, ())
               else
                (laws_heldIntS.f k r23.2 1).bind fun r30 =>
                if (decide (r30.1 < 0)) = true then
                 some (false, ())
                else
                 if (r30.1 != r23.1) = true then
                  some (false, ())
                 else
                  some (true, ())) := by kernel_rfl
theorem ok (k : Nat) : Ok Tryz.prog 9 (sem k) := Fd.ok (cx_ok ⟨laws_szSystem.ok k, laws_szBlocks.ok k, laws_szTermS.ok k, laws_toSystem.ok k, laws_toBlocks.ok k, laws_toTermS.ok k, spec_BlockWay.ok k, impl_BlockWay.ok k, laws_eqIntS.ok k, laws_eqSystem.ok k, laws_eqBlocks.ok k, laws_eqTermS.ok k, laws_markSystem.ok k, laws_markBlocks.ok k, laws_markTermS.ok k, laws_markIntS.ok k, laws_heldIntS.ok k, trivial⟩) ⟨Tryz.func9, rfl, by kernel_rfl⟩ rfl
attribute [irreducible] f
end laws_FnExactBlockWay
end Go.Ev
