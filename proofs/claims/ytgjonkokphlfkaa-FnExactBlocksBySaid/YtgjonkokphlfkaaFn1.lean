/- What the functions of the program compute, as plain functions, with the proof that they do. -/
import Derived.Test.YtgjonkokphlfkaaEv4
import Derived.Test.YtgjonkokphlfkaaProg
import Derived.KernelRfl
set_option maxRecDepth 100000
set_option linter.unusedVariables false
set_option autoImplicit false
noncomputable section
namespace Go.Ev
open Go.Proofs
abbrev y0 : Type := List (Int × (Int × Int))
abbrev h0 : S := .pair I (.pair I I)
abbrev h1 : S := .agg h0
abbrev h2 : S := .slice false h1
abbrev h3 : S := .pair I .unit
abbrev h4 : S := .pair h2 h3
abbrev y1 : Type := Int × (Int × (Int × Int))
abbrev y2 : Type := List y1
abbrev h5 : S := .pair I h0
abbrev h6 : S := .agg h5
abbrev h7 : S := .slice false h6
abbrev h8 : S := .pair h7 h3
abbrev h9 : S := .slice false I
abbrev h10 : S := .pair h9 h3
abbrev y3 : Type := List y2
abbrev h11 : S := .slice false h7
abbrev h12 : S := .pair h11 h3
abbrev y4 : Type := (List Int) × y3
abbrev y5 : Type := y2 × y4
abbrev h13 : S := .pair h9 h11
abbrev h14 : S := .pair h7 h13
abbrev h15 : S := .agg h14
abbrev h16 : S := .pair h15 h3
abbrev y6 : Type := List y5
abbrev h17 : S := .slice false h15
abbrev h18 : S := .pair h17 h3
abbrev y7 : Type := y0 × y6
abbrev h19 : S := .pair h2 h17
abbrev h20 : S := .agg h19
abbrev h21 : S := .pair h20 h3
abbrev h22 : S := .pair h1 .unit
abbrev h23 : S := .pair h2 .unit
abbrev h24 : S := .pair h6 .unit
abbrev h25 : S := .pair h7 .unit
abbrev h26 : S := .pair h9 .unit
abbrev h27 : S := .pair h11 .unit
abbrev h28 : S := .pair h15 .unit
abbrev h29 : S := .pair h17 .unit
abbrev h30 : S := .pair h20 .unit
abbrev h31 : S := .pair I h3
abbrev h32 : S := .pair I h31
abbrev h33 : S := .pair h6 h10
abbrev h34 : S := .ptr h6
abbrev h35 : S := .pair h7 h31
abbrev h36 : S := .ptr h15
abbrev h37 : S := .ptr h20
abbrev h38 : S := .pair h20 h27
abbrev h39 : S := .pair .bool .unit
abbrev h40 : S := .pair h7 h26
abbrev h41 : S := .pair h11 h26
abbrev h42 : S := .pair h9 h26
abbrev h43 : S := .agg h9
abbrev h44 : S := .slice false h9
abbrev h45 : S := .pair h44 .unit
abbrev h46 : S := .ptr h43
abbrev h47 : S := .pair h43 .bool
abbrev y8 : Type := (Int × (Int × Int)) → Option Bool
abbrev h48 : S := .func h1 .bool
abbrev h49 : S := .pair h48 .unit
abbrev h50 : S := .pair h2 h49
abbrev h51 : S := .slice true I
abbrev h52 : S := .pair h37 .unit
abbrev h53 : S := .pair h15 h52
abbrev y9 : Type := y5 → Option Bool
abbrev h54 : S := .func h15 .bool
abbrev h55 : S := .pair h54 .unit
abbrev h56 : S := .pair h17 h55
abbrev h57 : S := .pair h7 h52
abbrev y10 : Type := y2 → Option Bool
abbrev h58 : S := .func h7 .bool
abbrev h59 : S := .pair h58 .unit
abbrev h60 : S := .pair h11 h59
abbrev h61 : S := .slice true h9
abbrev h62 : S := .ptr h44
abbrev h63 : S := .pair h62 .unit
abbrev h64 : S := .pair I h63
abbrev h65 : S := .pair (.func I I) .unit
abbrev h66 : S := .pair I h65
abbrev h67 : S := .pair h43 .unit
abbrev h68 : S := .pair h43 h67
abbrev h69 : S := .pair h1 h22
abbrev h70 : S := .pair h2 h23
abbrev h71 : S := .pair h6 h24
abbrev h72 : S := .pair h7 h25
abbrev h73 : S := .pair h11 h27
abbrev h74 : S := .pair h15 h28
abbrev h75 : S := .pair h17 h29
abbrev h76 : S := .pair h20 h30
abbrev h77 : S := .pair h43 h3
noncomputable def tys : List (Nat × S) := [(3, I), (4, .bool), (22, h2), (23, h17), (25, h20), (26, h9), (31, h43), (34, h2), (35, h17), (37, h20), (48, h11), (51, h11), (60, h44), (74, h7), (79, h7), (84, (.func I I)), (89, h15), (92, h1), (94, h1), (96, h15), (108, h6), (110, h6), (112, h58), (114, (.map I I)), (118, h48), (121, h54)]
theorem tys_ok : tysB Try.prog tys = true := by kernel_rfl
theorem mix : Try.prog.follows .mixedOrders = true := by kernel_rfl
abbrev HD : Type := List (Nat × List (Nat × Option (S × M)))
noncomputable def cx (e : List (Nat × Sem)) (h : List ((Nat × Nat) × Nat)) (d : HD) (x : List Nat) (o : List (Nat × List Nat)) (i : List ((Nat × Nat) × List Nat)) (j : HD) : Ctx := mkC tys e (hintOf h) (headOf d) x (ordOf o) (hidOf i) (jnOf j)
theorem cx_ok {e : List (Nat × Sem)} {h : List ((Nat × Nat) × Nat)} {d : HD} {x : List Nat} {o : List (Nat × List Nat)} {i : List ((Nat × Nat) × List Nat)} {j : HD} (w : EnvOk Try.prog e) : CtxOk Try.prog (cx e h d x o i j) := mkC_ok tys_ok w mix
/-! loop.example/wholecheck/laws.szVarS -/
namespace laws_szVarS
noncomputable def D : Fd := ⟨Try.f25, 1, I, .sh, [.sh, .sh], .unit, h4⟩
noncomputable def C (k : Nat) : Ctx := cx [] [] [] [] [] [] []
noncomputable def sem (k : Nat) : Sem := D.sem (D.ev (C k) k)
noncomputable def f (k : Nat) (p0 : y0) (p1 : Int) : Option (Int × Unit) := D.ev (C k) k (p0, p1, ())
theorem s (k : Nat) (p0 : y0) (p1 : Int) : f k p0 p1 =
 (if (decide ((w64 (p1 - ((p0.length : Int)))) < 0)) = true then
  some ((-1), ())
 else
  some (w64 (p1 - ((p0.length : Int))), ())) := by kernel_rfl
theorem ok (k : Nat) : Ok Try.prog 25 (sem k) := Fd.ok (cx_ok trivial) ⟨Try.func25, rfl, by kernel_rfl⟩ rfl
attribute [irreducible] f
end laws_szVarS
/-! loop.example/wholecheck/laws.szTermS -/
namespace laws_szTermS
noncomputable def D : Fd := ⟨Try.f44, 1, I, .sh, [.sh, .sh], .unit, h8⟩
noncomputable def C (k : Nat) : Ctx := cx [] [] [] [] [] [] []
noncomputable def sem (k : Nat) : Sem := D.sem (D.ev (C k) k)
noncomputable def f (k : Nat) (p0 : y2) (p1 : Int) : Option (Int × Unit) := D.ev (C k) k (p0, p1, ())
theorem s (k : Nat) (p0 : y2) (p1 : Int) : f k p0 p1 =
 (if (decide ((w64 (p1 - ((p0.length : Int)))) < 0)) = true then
  some ((-1), ())
 else
  some (w64 (p1 - ((p0.length : Int))), ())) := by kernel_rfl
theorem ok (k : Nat) : Ok Try.prog 44 (sem k) := Fd.ok (cx_ok trivial) ⟨Try.func44, rfl, by kernel_rfl⟩ rfl
attribute [irreducible] f
end laws_szTermS
/-! loop.example/wholecheck/laws.szIntS -/
namespace laws_szIntS
noncomputable def D : Fd := ⟨Try.f27, 1, I, .sh, [.sh, .sh], .unit, h10⟩
noncomputable def C (k : Nat) : Ctx := cx [] [] [] [] [] [] []
noncomputable def sem (k : Nat) : Sem := D.sem (D.ev (C k) k)
noncomputable def f (k : Nat) (p0 : (List Int)) (p1 : Int) : Option (Int × Unit) := D.ev (C k) k (p0, p1, ())
theorem s (k : Nat) (p0 : (List Int)) (p1 : Int) : f k p0 p1 =
 (if (decide ((w64 (p1 - ((p0.length : Int)))) < 0)) = true then
  some ((-1), ())
 else
  some (w64 (p1 - ((p0.length : Int))), ())) := by kernel_rfl
theorem ok (k : Nat) : Ok Try.prog 27 (sem k) := Fd.ok (cx_ok trivial) ⟨Try.func27, rfl, by kernel_rfl⟩ rfl
attribute [irreducible] f
end laws_szIntS
/-! loop.example/wholecheck/laws.szTermSS -/
namespace laws_szTermSS
noncomputable def D : Fd := ⟨Try.f19, 1, I, .sh, [.sh, .sh], .unit, h12⟩
noncomputable def C (k : Nat) : Ctx := cx [(44, laws_szTermS.sem k)] [] [(5, [(0, none), (1, none), (5, none)])] [] [] [] []
noncomputable def sem (k : Nat) : Sem := D.sem (D.ev (C k) k)
noncomputable def f (k : Nat) (p0 : y3) (p1 : Int) : Option (Int × Unit) := D.ev (C k) k (p0, p1, ())
noncomputable def l5 (k : Nat) (p0 : y3) (n : Nat) (v1_5 v5_5 : Int) : Option (Int × Unit) :=
 D.lp (C k) k 5 [1, 1, 1, 0, 1, 0] [] n [(5, vI v5_5), (1, vI v1_5), (0, vS h11 p0)]
theorem s5 (k : Nat) (p0 : y3) (n : Nat) (v1_5 v5_5 : Int) : l5 k p0 (n + 1) v1_5 v5_5 =
 (if (decide (v5_5 < ((p0.length : Int)))) = true then
  gd ((0 : Int) ≤ v5_5) <| gd (v5_5 < (p0.length : Int)) <| (laws_szTermS.f k (p0.getD (v5_5.toNat) []) v1_5).bind fun r1 =>
  if (decide (r1.1 < 0)) = true then
   some ((-1), ())
  else
   l5 k p0 n r1.1 (w64 (v5_5 + 1))
 else
  some (v1_5, ())) := by kernel_rfl
theorem z5 (k : Nat) (p0 : y3) (v1_5 v5_5 : Int) : l5 k p0 0 v1_5 v5_5 = none := by kernel_rfl
theorem s (k : Nat) (p0 : y3) (p1 : Int) : f k p0 p1 =
 (if (decide ((w64 (p1 - ((p0.length : Int)))) < 0)) = true then
  some ((-1), ())
 else
  l5 k p0 k (w64 (p1 - ((p0.length : Int)))) 0) := by kernel_rfl
theorem ok (k : Nat) : Ok Try.prog 19 (sem k) := Fd.ok (cx_ok ⟨laws_szTermS.ok k, trivial⟩) ⟨Try.func19, rfl, by kernel_rfl⟩ rfl
attribute [irreducible] f l5
end laws_szTermSS
/-! loop.example/wholecheck/laws.szRule -/
namespace laws_szRule
noncomputable def D : Fd := ⟨Try.f57, 1, I, .sh, [.sh, .sh], .unit, h16⟩
noncomputable def C (k : Nat) : Ctx := cx [(44, laws_szTermS.sem k), (27, laws_szIntS.sem k), (19, laws_szTermSS.sem k)] [] [] [] [] [] []
noncomputable def sem (k : Nat) : Sem := D.sem (D.ev (C k) k)
noncomputable def f (k : Nat) (p0 : y5) (p1 : Int) : Option (Int × Unit) := D.ev (C k) k (p0, p1, ())
theorem s (k : Nat) (p0 : y5) (p1 : Int) : f k p0 p1 =
 ((laws_szTermS.f k p0.1 p1).bind fun r1 =>
 if (decide (r1.1 < 0)) = true then
  some ((-1), ())
 else
  (laws_szIntS.f k p0.2.1 r1.1).bind fun r2 =>
  if (decide (r2.1 < 0)) = true then
   some ((-1), ())
  else
   (laws_szTermSS.f k p0.2.2 r2.1).bind fun r3 =>
   if (decide (r3.1 < 0)) = true then
    some ((-1), ())
   else
    some (r3.1, ())) := by kernel_rfl
theorem ok (k : Nat) : Ok Try.prog 57 (sem k) := Fd.ok (cx_ok ⟨laws_szTermS.ok k, laws_szIntS.ok k, laws_szTermSS.ok k, trivial⟩) ⟨Try.func57, rfl, by kernel_rfl⟩ rfl
attribute [irreducible] f
end laws_szRule
/-! loop.example/wholecheck/laws.szRuleS -/
namespace laws_szRuleS
noncomputable def D : Fd := ⟨Try.f26, 1, I, .sh, [.sh, .sh], .unit, h18⟩
noncomputable def C (k : Nat) : Ctx := cx [(57, laws_szRule.sem k)] [] [(5, [(0, none), (1, none), (5, none)])] [] [] [] []
noncomputable def sem (k : Nat) : Sem := D.sem (D.ev (C k) k)
noncomputable def f (k : Nat) (p0 : y6) (p1 : Int) : Option (Int × Unit) := D.ev (C k) k (p0, p1, ())
noncomputable def l5 (k : Nat) (p0 : y6) (n : Nat) (v1_5 v5_5 : Int) : Option (Int × Unit) :=
 D.lp (C k) k 5 [1, 1, 1, 0, 1, 0] [] n [(5, vI v5_5), (1, vI v1_5), (0, vS h17 p0)]
theorem s5 (k : Nat) (p0 : y6) (n : Nat) (v1_5 v5_5 : Int) : l5 k p0 (n + 1) v1_5 v5_5 =
 (if (decide (v5_5 < ((p0.length : Int)))) = true then
  gd ((0 : Int) ≤ v5_5) <| gd (v5_5 < (p0.length : Int)) <| (laws_szRule.f k (p0.getD (v5_5.toNat) ([], ([], []))) v1_5).bind fun r1 =>
  if (decide (r1.1 < 0)) = true then
   some ((-1), ())
  else
   l5 k p0 n r1.1 (w64 (v5_5 + 1))
 else
  some (v1_5, ())) := by kernel_rfl
theorem z5 (k : Nat) (p0 : y6) (v1_5 v5_5 : Int) : l5 k p0 0 v1_5 v5_5 = none := by kernel_rfl
theorem s (k : Nat) (p0 : y6) (p1 : Int) : f k p0 p1 =
 (if (decide ((w64 (p1 - ((p0.length : Int)))) < 0)) = true then
  some ((-1), ())
 else
  l5 k p0 k (w64 (p1 - ((p0.length : Int)))) 0) := by kernel_rfl
theorem ok (k : Nat) : Ok Try.prog 26 (sem k) := Fd.ok (cx_ok ⟨laws_szRule.ok k, trivial⟩) ⟨Try.func26, rfl, by kernel_rfl⟩ rfl
attribute [irreducible] f l5
end laws_szRuleS
/-! loop.example/wholecheck/laws.szSystem -/
namespace laws_szSystem
noncomputable def D : Fd := ⟨Try.f5, 1, I, .sh, [.sh, .sh], .unit, h21⟩
noncomputable def C (k : Nat) : Ctx := cx [(25, laws_szVarS.sem k), (26, laws_szRuleS.sem k)] [] [] [] [] [] []
noncomputable def sem (k : Nat) : Sem := D.sem (D.ev (C k) k)
noncomputable def f (k : Nat) (p0 : y7) (p1 : Int) : Option (Int × Unit) := D.ev (C k) k (p0, p1, ())
theorem s (k : Nat) (p0 : y7) (p1 : Int) : f k p0 p1 =
 ((laws_szVarS.f k p0.1 p1).bind fun r1 =>
 if (decide (r1.1 < 0)) = true then
  some ((-1), ())
 else
  (laws_szRuleS.f k p0.2 r1.1).bind fun r2 =>
  if (decide (r2.1 < 0)) = true then
   some ((-1), ())
  else
   some (r2.1, ())) := by kernel_rfl
theorem ok (k : Nat) : Ok Try.prog 5 (sem k) := Fd.ok (cx_ok ⟨laws_szVarS.ok k, laws_szRuleS.ok k, trivial⟩) ⟨Try.func5, rfl, by kernel_rfl⟩ rfl
attribute [irreducible] f
end laws_szSystem
/-! loop.example/wholecheck/laws.toVar -/
namespace laws_toVar
noncomputable def D : Fd := ⟨Try.f60, 1, h1, .sh, [.sh], .unit, h22⟩
noncomputable def C (k : Nat) : Ctx := cx [] [] [] [] [] [] []
noncomputable def sem (k : Nat) : Sem := D.sem (D.ev (C k) k)
noncomputable def f (k : Nat) (p0 : (Int × (Int × Int))) : Option ((Int × (Int × Int)) × Unit) := D.ev (C k) k (p0, ())
theorem s (k : Nat) (p0 : (Int × (Int × Int))) : f k p0 =
 (some (p0, ())) := by kernel_rfl
theorem ok (k : Nat) : Ok Try.prog 60 (sem k) := Fd.ok (cx_ok trivial) ⟨Try.func60, rfl, by kernel_rfl⟩ rfl
attribute [irreducible] f
end laws_toVar
/-! loop.example/wholecheck/laws.toVarS -/
namespace laws_toVarS
noncomputable def D : Fd := ⟨Try.f33, 1, h2, (.ow (.ag (.pr .sh (.pr .sh .sh)))), [.sh], .unit, h23⟩
noncomputable def C (k : Nat) : Ctx := cx [(60, laws_toVar.sem k)] [] [(3, [(0, none), (3, some (h2, (.ow (.ag (.pr .sh (.pr .sh .sh)))))), (4, none)])] [] [] [] []
noncomputable def sem (k : Nat) : Sem := D.sem (D.ev (C k) k)
noncomputable def f (k : Nat) (p0 : y0) : Option (y0 × Unit) := D.ev (C k) k (p0, ())
noncomputable def l3 (k : Nat) (p0 : y0) (n : Nat) (v3_3 : y0) (v4_3 : Int) : Option (y0 × Unit) :=
 D.lp (C k) k 3 [1, 1, 0, 1, 0] [] n [(4, vI v4_3), (3, vO h2 v3_3), (0, vS h2 p0)]
theorem s3 (k : Nat) (p0 : y0) (n : Nat) (v3_3 : y0) (v4_3 : Int) : l3 k p0 (n + 1) v3_3 v4_3 =
 (if (decide (v4_3 < ((p0.length : Int)))) = true then
  gd ((0 : Int) ≤ v4_3) <| gd (v4_3 < (p0.length : Int)) <| (laws_toVar.f k (p0.getD (v4_3.toNat) (0, (0, 0)))).bind fun r1 =>
  gd ((0 : Int) ≤ v4_3) <| gd (v4_3 < (v3_3.length : Int)) <| l3 k p0 n (v3_3.set (v4_3.toNat) r1.1) (w64 (v4_3 + 1))
 else
  some (v3_3, ())) := by kernel_rfl
theorem z3 (k : Nat) (p0 : y0) (v3_3 : y0) (v4_3 : Int) : l3 k p0 0 v3_3 v4_3 = none := by kernel_rfl
theorem s (k : Nat) (p0 : y0) : f k p0 =
 (gd ((0 : Int) ≤ ((p0.length : Int))) <| gd (((p0.length : Int)) ≤ 1099511627776) <| l3 k p0 k ((List.replicate ((p0.length : Int)).toNat (0, (0, 0)) : (List (Int × (Int × Int))))) 0) := by kernel_rfl
theorem ok (k : Nat) : Ok Try.prog 33 (sem k) := Fd.ok (cx_ok ⟨laws_toVar.ok k, trivial⟩) ⟨Try.func33, rfl, by kernel_rfl⟩ rfl
attribute [irreducible] f l3
end laws_toVarS
/-! loop.example/wholecheck/laws.toTerm -/
namespace laws_toTerm
noncomputable def D : Fd := ⟨Try.f75, 1, h6, .sh, [.sh], .unit, h24⟩
noncomputable def C (k : Nat) : Ctx := cx [] [] [] [] [] [] []
noncomputable def sem (k : Nat) : Sem := D.sem (D.ev (C k) k)
noncomputable def f (k : Nat) (p0 : y1) : Option (y1 × Unit) := D.ev (C k) k (p0, ())
theorem s (k : Nat) (p0 : y1) : f k p0 =
 (some (p0, ())) := by kernel_rfl
theorem ok (k : Nat) : Ok Try.prog 75 (sem k) := Fd.ok (cx_ok trivial) ⟨Try.func75, rfl, by kernel_rfl⟩ rfl
attribute [irreducible] f
end laws_toTerm
/-! loop.example/wholecheck/laws.toTermS -/
namespace laws_toTermS
noncomputable def D : Fd := ⟨Try.f49, 1, h7, (.ow (.ag (.pr .sh (.pr .sh (.pr .sh .sh))))), [.sh], .unit, h25⟩
noncomputable def C (k : Nat) : Ctx := cx [(75, laws_toTerm.sem k)] [] [(3, [(0, none), (3, some (h7, (.ow (.ag (.pr .sh (.pr .sh (.pr .sh .sh))))))), (4, none)])] [] [] [] []
noncomputable def sem (k : Nat) : Sem := D.sem (D.ev (C k) k)
noncomputable def f (k : Nat) (p0 : y2) : Option (y2 × Unit) := D.ev (C k) k (p0, ())
noncomputable def l3 (k : Nat) (p0 : y2) (n : Nat) (v3_3 : y2) (v4_3 : Int) : Option (y2 × Unit) :=
 D.lp (C k) k 3 [1, 1, 0, 1, 0] [] n [(4, vI v4_3), (3, vO h7 v3_3), (0, vS h7 p0)]
theorem s3 (k : Nat) (p0 : y2) (n : Nat) (v3_3 : y2) (v4_3 : Int) : l3 k p0 (n + 1) v3_3 v4_3 =
 (if (decide (v4_3 < ((p0.length : Int)))) = true then
  gd ((0 : Int) ≤ v4_3) <| gd (v4_3 < (p0.length : Int)) <| (laws_toTerm.f k (p0.getD (v4_3.toNat) (0, (0, (0, 0))))).bind fun r1 =>
  gd ((0 : Int) ≤ v4_3) <| gd (v4_3 < (v3_3.length : Int)) <| l3 k p0 n (v3_3.set (v4_3.toNat) r1.1) (w64 (v4_3 + 1))
 else
  some (v3_3, ())) := by kernel_rfl
theorem z3 (k : Nat) (p0 : y2) (v3_3 : y2) (v4_3 : Int) : l3 k p0 0 v3_3 v4_3 = none := by kernel_rfl
theorem s (k : Nat) (p0 : y2) : f k p0 =
 (gd ((0 : Int) ≤ ((p0.length : Int))) <| gd (((p0.length : Int)) ≤ 1099511627776) <| l3 k p0 k ((List.replicate ((p0.length : Int)).toNat (0, (0, (0, 0))) : (List (Int × (Int × (Int × Int)))))) 0) := by kernel_rfl
theorem ok (k : Nat) : Ok Try.prog 49 (sem k) := Fd.ok (cx_ok ⟨laws_toTerm.ok k, trivial⟩) ⟨Try.func49, rfl, by kernel_rfl⟩ rfl
attribute [irreducible] f l3
end laws_toTermS
/-! loop.example/wholecheck/laws.toIntS -/
namespace laws_toIntS
noncomputable def D : Fd := ⟨Try.f10, 1, h9, (.ow .sh), [.sh], .unit, h26⟩
noncomputable def C (k : Nat) : Ctx := cx [] [] [(3, [(0, none), (3, none), (4, none)])] [] [] [] []
noncomputable def sem (k : Nat) : Sem := D.sem (D.ev (C k) k)
noncomputable def f (k : Nat) (p0 : (List Int)) : Option ((List Int) × Unit) := D.ev (C k) k (p0, ())
noncomputable def l3 (k : Nat) (p0 : (List Int)) (n : Nat) (v3_3 : (List Int)) (v4_3 : Int) : Option ((List Int) × Unit) :=
 D.lp (C k) k 3 [1, 1, 0, 1, 0] [] n [(4, vI v4_3), (3, vO h9 v3_3), (0, vS h9 p0)]
theorem s3 (k : Nat) (p0 : (List Int)) (n : Nat) (v3_3 : (List Int)) (v4_3 : Int) : l3 k p0 (n + 1) v3_3 v4_3 =
 (if (decide (v4_3 < ((p0.length : Int)))) = true then
  gd ((0 : Int) ≤ v4_3) <| gd (v4_3 < (p0.length : Int)) <| gd ((0 : Int) ≤ v4_3) <| gd (v4_3 < (v3_3.length : Int)) <| l3 k p0 n (v3_3.set (v4_3.toNat) (p0.getD (v4_3.toNat) 0)) (w64 (v4_3 + 1))
 else
  some (v3_3, ())) := by kernel_rfl
theorem z3 (k : Nat) (p0 : (List Int)) (v3_3 : (List Int)) (v4_3 : Int) : l3 k p0 0 v3_3 v4_3 = none := by kernel_rfl
theorem s (k : Nat) (p0 : (List Int)) : f k p0 =
 (gd ((0 : Int) ≤ ((p0.length : Int))) <| gd (((p0.length : Int)) ≤ 1099511627776) <| l3 k p0 k ((List.replicate ((p0.length : Int)).toNat 0 : (List Int))) 0) := by kernel_rfl
theorem ok (k : Nat) : Ok Try.prog 10 (sem k) := Fd.ok (cx_ok trivial) ⟨Try.func10, rfl, by kernel_rfl⟩ rfl
attribute [irreducible] f l3
end laws_toIntS
/-! loop.example/wholecheck/laws.toTermSS -/
namespace laws_toTermSS
noncomputable def D : Fd := ⟨Try.f21, 1, h11, (.ow (.ow (.ag (.pr .sh (.pr .sh (.pr .sh .sh)))))), [.sh], .unit, h27⟩
noncomputable def C (k : Nat) : Ctx := cx [(49, laws_toTermS.sem k)] [] [(3, [(0, none), (3, none), (4, none)])] [] [] [] []
noncomputable def sem (k : Nat) : Sem := D.sem (D.ev (C k) k)
noncomputable def f (k : Nat) (p0 : y3) : Option (y3 × Unit) := D.ev (C k) k (p0, ())
noncomputable def l3 (k : Nat) (p0 : y3) (n : Nat) (v3_3 : y3) (v4_3 : Int) : Option (y3 × Unit) :=
 D.lp (C k) k 3 [1, 1, 0, 1, 0] [] n [(4, vI v4_3), (3, vO h11 v3_3), (0, vS h11 p0)]
theorem s3 (k : Nat) (p0 : y3) (n : Nat) (v3_3 : y3) (v4_3 : Int) : l3 k p0 (n + 1) v3_3 v4_3 =
 (if (decide (v4_3 < ((p0.length : Int)))) = true then
  gd ((0 : Int) ≤ v4_3) <| gd (v4_3 < (p0.length : Int)) <| (laws_toTermS.f k (p0.getD (v4_3.toNat) [])).bind fun r1 =>
  gd ((0 : Int) ≤ v4_3) <| gd (v4_3 < (v3_3.length : Int)) <| l3 k p0 n (v3_3.set (v4_3.toNat) r1.1) (w64 (v4_3 + 1))
 else
  some (v3_3, ())) := by kernel_rfl
theorem z3 (k : Nat) (p0 : y3) (v3_3 : y3) (v4_3 : Int) : l3 k p0 0 v3_3 v4_3 = none := by kernel_rfl
theorem s (k : Nat) (p0 : y3) : f k p0 =
 (gd ((0 : Int) ≤ ((p0.length : Int))) <| gd (((p0.length : Int)) ≤ 1099511627776) <| l3 k p0 k ((List.replicate ((p0.length : Int)).toNat [] : (List (List (Int × (Int × (Int × Int))))))) 0) := by kernel_rfl
theorem ok (k : Nat) : Ok Try.prog 21 (sem k) := Fd.ok (cx_ok ⟨laws_toTermS.ok k, trivial⟩) ⟨Try.func21, rfl, by kernel_rfl⟩ rfl
attribute [irreducible] f l3
end laws_toTermSS
/-! loop.example/wholecheck/laws.toRule -/
namespace laws_toRule
noncomputable def D : Fd := ⟨Try.f61, 1, h15, (.ag (.pr (.ow (.ag (.pr .sh (.pr .sh (.pr .sh .sh))))) (.pr (.ow .sh) (.ow (.ow (.ag (.pr .sh (.pr .sh (.pr .sh .sh))))))))), [.sh], .unit, h28⟩
noncomputable def C (k : Nat) : Ctx := cx [(49, laws_toTermS.sem k), (10, laws_toIntS.sem k), (21, laws_toTermSS.sem k)] [] [] [] [] [] []
noncomputable def sem (k : Nat) : Sem := D.sem (D.ev (C k) k)
noncomputable def f (k : Nat) (p0 : y5) : Option (y5 × Unit) := D.ev (C k) k (p0, ())
theorem s (k : Nat) (p0 : y5) : f k p0 =
 ((laws_toTermS.f k p0.1).bind fun r1 =>
 (laws_toIntS.f k p0.2.1).bind fun r2 =>
 (laws_toTermSS.f k p0.2.2).bind fun r3 =>
 some ((r1.1, (r2.1, r3.1)), ())) := by kernel_rfl
theorem ok (k : Nat) : Ok Try.prog 61 (sem k) := Fd.ok (cx_ok ⟨laws_toTermS.ok k, laws_toIntS.ok k, laws_toTermSS.ok k, trivial⟩) ⟨Try.func61, rfl, by kernel_rfl⟩ rfl
attribute [irreducible] f
end laws_toRule
/-! loop.example/wholecheck/laws.toRuleS -/
namespace laws_toRuleS
noncomputable def D : Fd := ⟨Try.f34, 1, h17, (.ow (.ag (.pr (.ow (.ag (.pr .sh (.pr .sh (.pr .sh .sh))))) (.pr (.ow .sh) (.ow (.ow (.ag (.pr .sh (.pr .sh (.pr .sh .sh)))))))))), [.sh], .unit, h29⟩
noncomputable def C (k : Nat) : Ctx := cx [(61, laws_toRule.sem k)] [] [(3, [(0, none), (3, none), (4, none)])] [] [] [] []
noncomputable def sem (k : Nat) : Sem := D.sem (D.ev (C k) k)
noncomputable def f (k : Nat) (p0 : y6) : Option (y6 × Unit) := D.ev (C k) k (p0, ())
noncomputable def l3 (k : Nat) (p0 : y6) (n : Nat) (v3_3 : y6) (v4_3 : Int) : Option (y6 × Unit) :=
 D.lp (C k) k 3 [1, 1, 0, 1, 0] [] n [(4, vI v4_3), (3, vO h17 v3_3), (0, vS h17 p0)]
theorem s3 (k : Nat) (p0 : y6) (n : Nat) (v3_3 : y6) (v4_3 : Int) : l3 k p0 (n + 1) v3_3 v4_3 =
 (if (decide (v4_3 < ((p0.length : Int)))) = true then
  gd ((0 : Int) ≤ v4_3) <| gd (v4_3 < (p0.length : Int)) <| (laws_toRule.f k (p0.getD (v4_3.toNat) ([], ([], [])))).bind fun r1 =>
  gd ((0 : Int) ≤ v4_3) <| gd (v4_3 < (v3_3.length : Int)) <| l3 k p0 n (v3_3.set (v4_3.toNat) r1.1) (w64 (v4_3 + 1))
 else
  some (v3_3, ())) := by kernel_rfl
theorem z3 (k : Nat) (p0 : y6) (v3_3 : y6) (v4_3 : Int) : l3 k p0 0 v3_3 v4_3 = none := by kernel_rfl
theorem s (k : Nat) (p0 : y6) : f k p0 =
 (gd ((0 : Int) ≤ ((p0.length : Int))) <| gd (((p0.length : Int)) ≤ 1099511627776) <| l3 k p0 k ((List.replicate ((p0.length : Int)).toNat ([], ([], [])) : (List ((List (Int × (Int × (Int × Int)))) × ((List Int) × (List (List (Int × (Int × (Int × Int)))))))))) 0) := by kernel_rfl
theorem ok (k : Nat) : Ok Try.prog 34 (sem k) := Fd.ok (cx_ok ⟨laws_toRule.ok k, trivial⟩) ⟨Try.func34, rfl, by kernel_rfl⟩ rfl
attribute [irreducible] f l3
end laws_toRuleS
/-! loop.example/wholecheck/laws.toSystem -/
namespace laws_toSystem
noncomputable def D : Fd := ⟨Try.f8, 1, h20, (.ag (.pr (.ow (.ag (.pr .sh (.pr .sh .sh)))) (.ow (.ag (.pr (.ow (.ag (.pr .sh (.pr .sh (.pr .sh .sh))))) (.pr (.ow .sh) (.ow (.ow (.ag (.pr .sh (.pr .sh (.pr .sh .sh)))))))))))), [.sh], .unit, h30⟩
noncomputable def C (k : Nat) : Ctx := cx [(33, laws_toVarS.sem k), (34, laws_toRuleS.sem k)] [] [] [] [] [] []
noncomputable def sem (k : Nat) : Sem := D.sem (D.ev (C k) k)
noncomputable def f (k : Nat) (p0 : y7) : Option (y7 × Unit) := D.ev (C k) k (p0, ())
theorem s (k : Nat) (p0 : y7) : f k p0 =
 ((laws_toVarS.f k p0.1).bind fun r1 =>
 (laws_toRuleS.f k p0.2).bind fun r2 =>
 some ((r1.1, r2.1), ())) := by kernel_rfl
theorem ok (k : Nat) : Ok Try.prog 8 (sem k) := Fd.ok (cx_ok ⟨laws_toVarS.ok k, laws_toRuleS.ok k, trivial⟩) ⟨Try.func8, rfl, by kernel_rfl⟩ rfl
attribute [irreducible] f
end laws_toSystem
/-! loop.example/wholecheck/spec.l1In -/
namespace spec_l1In
noncomputable def D : Fd := ⟨Try.f58, 1, .bool, .sh, [.sh, .sh, .sh], .unit, h32⟩
noncomputable def C (k : Nat) : Ctx := cx [] [] [] [] [] [] []
noncomputable def sem (k : Nat) : Sem := D.sem (D.ev (C k) k)
noncomputable def f (k : Nat) (p0 p1 p2 : Int) : Option (Bool × Unit) := D.ev (C k) k (p0, p1, p2, ())
theorem s (k : Nat) (p0 p1 p2 : Int) : f k p0 p1 p2 =
 (if (decide (p0 ≥ p1)) = true then
  some (decide (p0 ≤ p2), ())
 else
  some (false, ())) := by kernel_rfl
theorem ok (k : Nat) : Ok Try.prog 58 (sem k) := Fd.ok (cx_ok trivial) ⟨Try.func58, rfl, by kernel_rfl⟩ rfl
attribute [irreducible] f
end spec_l1In
/-! loop.example/wholecheck/spec.l1One -/
namespace spec_l1One
noncomputable def D : Fd := ⟨Try.f103, 1, .bool, .sh, [.sh], .unit, h3⟩
noncomputable def C (k : Nat) : Ctx := cx [] [] [] [] [] [] []
noncomputable def sem (k : Nat) : Sem := D.sem (D.ev (C k) k)
noncomputable def f (k : Nat) (p0 : Int) : Option (Bool × Unit) := D.ev (C k) k (p0, ())
theorem s (k : Nat) (p0 : Int) : f k p0 =
 (some (p0 == 7, ())) := by kernel_rfl
theorem ok (k : Nat) : Ok Try.prog 103 (sem k) := Fd.ok (cx_ok trivial) ⟨Try.func103, rfl, by kernel_rfl⟩ rfl
attribute [irreducible] f
end spec_l1One
/-! loop.example/wholecheck/spec.l1Kind -/
namespace spec_l1Kind
noncomputable def D : Fd := ⟨Try.f99, 1, I, .sh, [.sh, .sh, .sh], .unit, h33⟩
noncomputable def C (k : Nat) : Ctx := cx [(58, spec_l1In.sem k), (103, spec_l1One.sem k)] [] [] [] [] [] [(3, [(1, none), (2, none), (3, none)]), (5, [(1, none), (3, none)]), (10, [(1, none), (3, none), (7, none)])]
noncomputable def sem (k : Nat) : Sem := D.sem (D.ev (C k) k)
noncomputable def f (k : Nat) (p0 : y1) (p1 : (List Int)) (p2 : Int) : Option (Int × Unit) := D.ev (C k) k (p0, p1, p2, ())
noncomputable def lj3 (k : Nat) (p0 : y1) (p1 : (List Int)) (p2 : Int) (n : Nat) : Option (Int × Unit) :=
 D.jn (C k) k 3 [1] [] n [(3, .val h34 (.ow .sh) p0), (2, vI p2), (1, vS h9 p1)]
noncomputable def lj5 (k : Nat) (p0 : y1) (p1 : (List Int)) (n : Nat) : Option (Int × Unit) :=
 D.jn (C k) k 5 [1, 1] [] n [(3, .val h34 (.ow .sh) p0), (1, vS h9 p1)]
noncomputable def lj10 (k : Nat) (p0 : y1) (p1 : (List Int)) (n : Nat) (v7_j10 : Int) : Option (Int × Unit) :=
 D.jn (C k) k 10 [1, 1, 1, 1, 1] [] n [(7, vI v7_j10), (3, .val h34 (.ow .sh) p0), (1, vS h9 p1)]
theorem sj10 (k : Nat) (p0 : y1) (p1 : (List Int)) (n : Nat) (v7_j10 : Int) : lj10 k p0 p1 (n + 1) v7_j10 =
 (gd ((0 : Int) ≤ p0.2.2.1) <| gd (p0.2.2.1 < (p1.length : Int)) <| if ((p1.getD (p0.2.2.1.toNat) 0) != v7_j10) = true then
  some (0, ())
 else
  gd ((0 : Int) ≤ p0.2.2.2) <| gd (p0.2.2.2 < (p1.length : Int)) <| if ((p1.getD (p0.2.2.2.toNat) 0) != v7_j10) = true then
   some (0, ())
  else
   (spec_l1One.f k p0.1).bind fun r6 =>
   if r6.1 = true then
    if (p0.2.2.2 != p0.2.2.1) = true then
     some (0, ())
    else
     if (decide (p0.1 ≥ 5)) = true then
      some (2, ())
     else
      some (1, ())
   else
    if (decide (p0.1 ≥ 5)) = true then
     some (2, ())
    else
     some (1, ())) := by kernel_rfl
theorem zj10 (k : Nat) (p0 : y1) (p1 : (List Int)) (v7_j10 : Int) : lj10 k p0 p1 0 v7_j10 = none := by kernel_rfl
theorem sj5 (k : Nat) (p0 : y1) (p1 : (List Int)) (n : Nat) : lj5 k p0 p1 (n + 1) =
 ((spec_l1In.f k p0.1 2 9).bind fun r3 =>
 if (!r3.1) = true then
  some (0, ())
 else
  if (p0.2.1 != 0) = true then
   some (0, ())
  else
   (spec_l1In.f k p0.2.2.1 0 (w64 (((p1.length : Int)) - 1))).bind fun r4 =>
   if (!r4.1) = true then
    some (0, ())
   else
    (spec_l1In.f k p0.2.2.2 0 (w64 (((p1.length : Int)) - 1))).bind fun r5 =>
    if (!r5.1) = true then
     some (0, ())
    else
     if (decide (p0.1 ≥ 7)) = true then
      lj10 k p0 p1 k 2
     else
      lj10 k p0 p1 k 1) := by kernel_rfl
theorem zj5 (k : Nat) (p0 : y1) (p1 : (List Int)) : lj5 k p0 p1 0 = none := by kernel_rfl
theorem sj3 (k : Nat) (p0 : y1) (p1 : (List Int)) (p2 : Int) (n : Nat) : lj3 k p0 p1 p2 (n + 1) =
 (if (p0.1 == 1) = true then
  (spec_l1In.f k p0.2.1 0 (w64 (p2 - 1))).bind fun r2 =>
  if r2.1 = true then
   if (p0.2.2.1 == 0) = true then
    if (p0.2.2.2 == 0) = true then
     some (1, ())
    else
     lj5 k p0 p1 k
   else
    lj5 k p0 p1 k
  else
   lj5 k p0 p1 k
 else
  lj5 k p0 p1 k) := by kernel_rfl
theorem zj3 (k : Nat) (p0 : y1) (p1 : (List Int)) (p2 : Int) : lj3 k p0 p1 p2 0 = none := by kernel_rfl
theorem s (k : Nat) (p0 : y1) (p1 : (List Int)) (p2 : Int) : f k p0 p1 p2 =
 (if (p0.1 == 0) = true then
  (spec_l1In.f k p0.2.1 (-9999) 9999).bind fun r1 =>
  if r1.1 = true then
   if (p0.2.2.1 == 0) = true then
    if (p0.2.2.2 == 0) = true then
     some (1, ())
    else
     lj3 k p0 p1 p2 k
   else
    lj3 k p0 p1 p2 k
  else
   lj3 k p0 p1 p2 k
 else
  lj3 k p0 p1 p2 k) := by kernel_rfl
theorem ok (k : Nat) : Ok Try.prog 99 (sem k) := Fd.ok (cx_ok ⟨spec_l1In.ok k, spec_l1One.ok k, trivial⟩) ⟨Try.func99, rfl, by kernel_rfl⟩ rfl
attribute [irreducible] f lj3 lj5 lj10
end spec_l1Kind
/-! loop.example/wholecheck/spec.KindsOf -/
namespace spec_KindsOf
noncomputable def D : Fd := ⟨Try.f90, 1, h9, (.ow .sh), [.sh, .sh], .unit, h8⟩
noncomputable def C (k : Nat) : Ctx := cx [(58, spec_l1In.sem k), (99, spec_l1Kind.sem k)] [] [(5, [(0, none), (1, none), (5, none), (6, none)])] [] [] [] []
noncomputable def sem (k : Nat) : Sem := D.sem (D.ev (C k) k)
noncomputable def f (k : Nat) (p0 : y2) (p1 : Int) : Option ((List Int) × Unit) := D.ev (C k) k (p0, p1, ())
noncomputable def l5 (k : Nat) (p0 : y2) (p1 : Int) (n : Nat) (v5_5 : (List Int)) (v6_5 : Int) : Option ((List Int) × Unit) :=
 D.lp (C k) k 5 [1, 1, 1, 0, 1, 0] [] n [(6, vI v6_5), (5, vO h9 v5_5), (1, vI p1), (0, vS h7 p0)]
theorem s5 (k : Nat) (p0 : y2) (p1 : Int) (n : Nat) (v5_5 : (List Int)) (v6_5 : Int) : l5 k p0 p1 (n + 1) v5_5 v6_5 =
 (if (decide (v6_5 < ((p0.length : Int)))) = true then
  gd ((0 : Int) ≤ v6_5) <| gd (v6_5 < (p0.length : Int)) <| (spec_l1Kind.f k (p0.getD (v6_5.toNat) (0, (0, (0, 0)))) v5_5 p1).bind fun r3 =>
  if (r3.1 == 0) = true then
   some ([], ())
  else
   gd ((v5_5.length : Int) + ([r3.1].length : Int) ≤ 1099511627776) <| l5 k p0 p1 n (v5_5 ++ [r3.1]) (w64 (v6_5 + 1))
 else
  some (v5_5, ())) := by kernel_rfl
theorem z5 (k : Nat) (p0 : y2) (p1 : Int) (v5_5 : (List Int)) (v6_5 : Int) : l5 k p0 p1 0 v5_5 v6_5 = none := by kernel_rfl
theorem s (k : Nat) (p0 : y2) (p1 : Int) : f k p0 p1 =
 ((spec_l1In.f k p1 0 5).bind fun r1 =>
 if (!r1.1) = true then
  some ([], ())
 else
  (spec_l1In.f k ((p0.length : Int)) 1 40).bind fun r2 =>
  if (!r2.1) = true then
   some ([], ())
  else
   l5 k p0 p1 k [] 0) := by kernel_rfl
theorem ok (k : Nat) : Ok Try.prog 90 (sem k) := Fd.ok (cx_ok ⟨spec_l1In.ok k, spec_l1Kind.ok k, trivial⟩) ⟨Try.func90, rfl, by kernel_rfl⟩ rfl
attribute [irreducible] f l5
end spec_KindsOf
/-! loop.example/wholecheck/spec.l2Is -/
namespace spec_l2Is
noncomputable def D : Fd := ⟨Try.f70, 1, .bool, .sh, [.sh, .sh, .sh], .unit, h35⟩
noncomputable def C (k : Nat) : Ctx := cx [(90, spec_KindsOf.sem k)] [] [] [] [] [] []
noncomputable def sem (k : Nat) : Sem := D.sem (D.ev (C k) k)
noncomputable def f (k : Nat) (p0 : y2) (p1 p2 : Int) : Option (Bool × Unit) := D.ev (C k) k (p0, p1, p2, ())
theorem s (k : Nat) (p0 : y2) (p1 p2 : Int) : f k p0 p1 p2 =
 ((spec_KindsOf.f k p0 p1).bind fun r1 =>
 if (decide (((r1.1.length : Int)) > 0)) = true then
  gd ((0 : Int) ≤ (w64 (((r1.1.length : Int)) - 1))) <| gd ((w64 (((r1.1.length : Int)) - 1)) < (r1.1.length : Int)) <| some ((r1.1.getD ((w64 (((r1.1.length : Int)) - 1)).toNat) 0) == p2, ())
 else
  some (false, ())) := by kernel_rfl
theorem ok (k : Nat) : Ok Try.prog 70 (sem k) := Fd.ok (cx_ok ⟨spec_KindsOf.ok k, trivial⟩) ⟨Try.func70, rfl, by kernel_rfl⟩ rfl
attribute [irreducible] f
end spec_l2Is
/-! loop.example/wholecheck/spec.l2Var -/
namespace spec_l2Var
noncomputable def D : Fd := ⟨Try.f91, 1, .bool, .sh, [.sh], .unit, h22⟩
noncomputable def C (k : Nat) : Ctx := cx [(58, spec_l1In.sem k)] [] [] [] [] [] []
noncomputable def sem (k : Nat) : Sem := D.sem (D.ev (C k) k)
noncomputable def f (k : Nat) (p0 : (Int × (Int × Int))) : Option (Bool × Unit) := D.ev (C k) k (p0, ())
theorem s (k : Nat) (p0 : (Int × (Int × Int))) : f k p0 =
 ((spec_l1In.f k p0.1 (-9999) 9999).bind fun r1 =>
 if r1.1 = true then
  (spec_l1In.f k p0.2.1 p0.1 9999).bind fun r2 =>
  if r2.1 = true then
   if (decide ((w64 (p0.2.1 - p0.1)) < 20)) = true then
    (spec_l1In.f k p0.2.2 p0.1 p0.2.1).bind fun r3 =>
    some (r3.1, ())
   else
    some (false, ())
  else
   some (false, ())
 else
  some (false, ())) := by kernel_rfl
theorem ok (k : Nat) : Ok Try.prog 91 (sem k) := Fd.ok (cx_ok ⟨spec_l1In.ok k, trivial⟩) ⟨Try.func91, rfl, by kernel_rfl⟩ rfl
attribute [irreducible] f
end spec_l2Var
/-! loop.example/wholecheck/spec.l2Rule -/
namespace spec_l2Rule
noncomputable def D : Fd := ⟨Try.f92, 1, .bool, .sh, [.sh, .sh], .unit, h16⟩
noncomputable def C (k : Nat) : Ctx := cx [(70, spec_l2Is.sem k), (58, spec_l1In.sem k)] [] [(4, [(1, none), (2, none), (5, none)])] [] [(6, [0, 1, 2, 3, 4, 5, 6, 7, 8, 9, 10, 11, 12, 13, 14, 15, 16, 17, 18, 19, 20, 21, 22, 23, 24, 25, 26, 27, 28, 29, 30, 31, 32, 33, 34, 35, 36])] [] []
noncomputable def sem (k : Nat) : Sem := D.sem (D.ev (C k) k)
noncomputable def f (k : Nat) (p0 : y5) (p1 : Int) : Option (Bool × Unit) := D.ev (C k) k (p0, p1, ())
noncomputable def l4 (k : Nat) (p0 : y5) (p1 : Int) (n : Nat) (v5_4 : Int) : Option (Bool × Unit) :=
 D.lp (C k) k 4 [1, 1, 0, 1, 0] [] n [(5, vI v5_4), (2, .val h36 (.ow .sh) p0), (1, vI p1)]
theorem s4 (k : Nat) (p0 : y5) (p1 : Int) (n : Nat) (v5_4 : Int) : l4 k p0 p1 (n + 1) v5_4 =
 (if (decide (v5_4 < ((p0.2.1.length : Int)))) = true then
  gd ((0 : Int) ≤ v5_4) <| gd (v5_4 < (p0.2.1.length : Int)) <| (spec_l1In.f k (p0.2.1.getD (v5_4.toNat) 0) 0 (w64 (p1 - 1))).bind fun r2 =>
  if (!r2.1) = true then
   some (false, ())
  else
   if (decide (v5_4 > 0)) = true then
    gd ((0 : Int) ≤ v5_4) <| gd (v5_4 < (p0.2.1.length : Int)) <| gd ((0 : Int) ≤ (w64 (v5_4 - 1))) <| gd ((w64 (v5_4 - 1)) < (p0.2.1.length : Int)) <| if (decide ((p0.2.1.getD (v5_4.toNat) 0) ≤ (p0.2.1.getD ((w64 (v5_4 - 1)).toNat) 0))) = true then
     some (false, ())
    else
     gd ((0 : Int) ≤ v5_4) <| gd (v5_4 < (p0.2.2.length : Int)) <| (spec_l2Is.f k (p0.2.2.getD (v5_4.toNat) []) p1 1).bind fun r3 =>
     if (!r3.1) = true then
      some (false, ())
     else
      l4 k p0 p1 n (w64 (v5_4 + 1))
   else
    gd ((0 : Int) ≤ v5_4) <| gd (v5_4 < (p0.2.2.length : Int)) <| (spec_l2Is.f k (p0.2.2.getD (v5_4.toNat) []) p1 1).bind fun r4 =>
    if (!r4.1) = true then
     some (false, ())
    else
     l4 k p0 p1 n (w64 (v5_4 + 1))
 else
  some (true, ())) := by kernel_rfl
theorem z4 (k : Nat) (p0 : y5) (p1 : Int) (v5_4 : Int) : l4 k p0 p1 0 v5_4 = none := by kernel_rfl
theorem s (k : Nat) (p0 : y5) (p1 : Int) : f k p0 p1 =
 ((spec_l2Is.f k p0.1 p1 2).bind fun r1 =>
 if (!r1.1) = true then
  some (false, ())
 else
  if (((p0.2.1.length : Int)) != ((p0.2.2.length : Int))) = true then
   some (false, ())
  else
   if (decide (((p0.2.1.length : Int)) > p1)) = true then
    some (false, ())
   else
    l4 k p0 p1 k 0) := by kernel_rfl
theorem ok (k : Nat) : Ok Try.prog 92 (sem k) := Fd.ok (cx_ok ⟨spec_l2Is.ok k, spec_l1In.ok k, trivial⟩) ⟨Try.func92, rfl, by kernel_rfl⟩ rfl
attribute [irreducible] f l4
end spec_l2Rule
/-! loop.example/wholecheck/spec.SystemValid -/
namespace spec_SystemValid
noncomputable def D : Fd := ⟨Try.f71, 1, .bool, .sh, [.sh], .unit, h30⟩
noncomputable def C (k : Nat) : Ctx := cx [(58, spec_l1In.sem k), (91, spec_l2Var.sem k), (92, spec_l2Rule.sem k)] [((9, 16), 3)] [(5, [(1, none), (3, none), (4, none)]), (11, [(1, none), (3, none), (5, none)])] [] [(9, [0, 1, 2, 3, 4, 5, 6, 7, 8, 9, 10, 11, 12, 13, 14, 15, 16]), (13, [0, 1, 2, 3, 4, 5, 6, 7, 8, 9])] [] []
noncomputable def sem (k : Nat) : Sem := D.sem (D.ev (C k) k)
noncomputable def f (k : Nat) (p0 : y7) : Option (Bool × Unit) := D.ev (C k) k (p0, ())
noncomputable def l5 (k : Nat) (p0 : y7) (n : Nat) (v3_5 v4_5 : Int) : Option (Bool × Unit) :=
 D.lp (C k) k 5 [1, 1, 1, 0, 1, 0] [] n [(4, vI v4_5), (3, vI v3_5), (1, .val h37 (.ow .sh) p0)]
noncomputable def l11 (k : Nat) (p0 : y7) (v3_5 : Int) (n : Nat) (v5_11 : Int) : Option (Bool × Unit) :=
 D.lp (C k) k 11 [1, 1, 1, 1, 0, 1, 0] [] n [(5, vI v5_11), (3, vI v3_5), (1, .val h37 (.ow .sh) p0)]
theorem s11 (k : Nat) (p0 : y7) (v3_5 : Int) (n : Nat) (v5_11 : Int) : l11 k p0 v3_5 (n + 1) v5_11 =
 (if (decide (v5_11 < ((p0.2.length : Int)))) = true then
  gd ((0 : Int) ≤ v5_11) <| gd (v5_11 < (p0.2.length : Int)) <| (spec_l2Rule.f k (p0.2.getD (v5_11.toNat) ([], ([], []))) ((p0.1.length : Int))).bind fun r3 =>
  if (!r3.1) = true then
   some (false, ())
  else
   l11 k p0 v3_5 n (w64 (v5_11 + 1))
 else
  some (decide (v3_5 ≤ 400), ())) := by kernel_rfl
theorem z11 (k : Nat) (p0 : y7) (v3_5 : Int) (v5_11 : Int) : l11 k p0 v3_5 0 v5_11 = none := by kernel_rfl
theorem s5 (k : Nat) (p0 : y7) (n : Nat) (v3_5 v4_5 : Int) : l5 k p0 (n + 1) v3_5 v4_5 =
 (if (decide (v4_5 < ((p0.1.length : Int)))) = true then
  gd ((0 : Int) ≤ v4_5) <| gd (v4_5 < (p0.1.length : Int)) <| (spec_l2Var.f k (p0.1.getD (v4_5.toNat) (0, (0, 0)))).bind fun r2 =>
  if (!r2.1) = true then
   some (false, ())
  else
   gd ((0 : Int) ≤ v4_5) <| gd (v4_5 < (p0.1.length : Int)) <| gd ((0 : Int) ≤ v4_5) <| gd (v4_5 < (p0.1.length : Int)) <| l5 k p0 n (w64 (v3_5 * (w64 ((w64 ((p0.1.getD (v4_5.toNat) (0, (0, 0))).2.1 - (p0.1.getD (v4_5.toNat) (0, (0, 0))).1)) + 1)))) (w64 (v4_5 + 1))
 else
  l11 k p0 v3_5 k 0) := by kernel_rfl
theorem z5 (k : Nat) (p0 : y7) (v3_5 v4_5 : Int) : l5 k p0 0 v3_5 v4_5 = none := by kernel_rfl
theorem s (k : Nat) (p0 : y7) : f k p0 =
 ((spec_l1In.f k ((p0.1.length : Int)) 1 5).bind fun r1 =>
 if (!r1.1) = true then
  some (false, ())
 else
  if (decide (((p0.2.length : Int)) > 8)) = true then
   some (false, ())
  else
   l5 k p0 k 1 0) := by kernel_rfl
theorem ok (k : Nat) : Ok Try.prog 71 (sem k) := Fd.ok (cx_ok ⟨spec_l1In.ok k, spec_l2Var.ok k, spec_l2Rule.ok k, trivial⟩) ⟨Try.func71, rfl, by kernel_rfl⟩ rfl
attribute [irreducible] f l5 l11
end spec_SystemValid
/-! loop.example/wholecheck/spec.l20Facts -/
namespace spec_l20Facts
noncomputable def D : Fd := ⟨Try.f45, 1, .bool, .sh, [.sh, .sh], .unit, h38⟩
noncomputable def C (k : Nat) : Ctx := cx [(70, spec_l2Is.sem k), (71, spec_SystemValid.sem k)] [] [(2, [(1, none), (2, none), (5, none)])] [] [(4, [0, 1, 2, 3, 4, 5, 6, 7, 8])] [] []
noncomputable def sem (k : Nat) : Sem := D.sem (D.ev (C k) k)
noncomputable def f (k : Nat) (p0 : y7) (p1 : y3) : Option (Bool × Unit) := D.ev (C k) k (p0, p1, ())
noncomputable def l2 (k : Nat) (p0 : y7) (p1 : y3) (n : Nat) (v5_2 : Int) : Option (Bool × Unit) :=
 D.lp (C k) k 2 [1, 0, 1, 0] [] n [(5, vI v5_2), (2, .val h37 (.ow .sh) p0), (1, vS h11 p1)]
theorem s2 (k : Nat) (p0 : y7) (p1 : y3) (n : Nat) (v5_2 : Int) : l2 k p0 p1 (n + 1) v5_2 =
 (if (decide (v5_2 < ((p1.length : Int)))) = true then
  gd ((0 : Int) ≤ v5_2) <| gd (v5_2 < (p1.length : Int)) <| (spec_l2Is.f k (p1.getD (v5_2.toNat) []) ((p0.1.length : Int)) 2).bind fun r1 =>
  if (!r1.1) = true then
   some (false, ())
  else
   l2 k p0 p1 n (w64 (v5_2 + 1))
 else
  (spec_SystemValid.f k p0).bind fun r2 =>
  if r2.1 = true then
   some (decide (((p1.length : Int)) ≤ 4), ())
  else
   some (false, ())) := by kernel_rfl
theorem z2 (k : Nat) (p0 : y7) (p1 : y3) (v5_2 : Int) : l2 k p0 p1 0 v5_2 = none := by kernel_rfl
theorem s (k : Nat) (p0 : y7) (p1 : y3) : f k p0 p1 =
 (l2 k p0 p1 k 0) := by kernel_rfl
theorem ok (k : Nat) : Ok Try.prog 45 (sem k) := Fd.ok (cx_ok ⟨spec_l2Is.ok k, spec_SystemValid.ok k, trivial⟩) ⟨Try.func45, rfl, by kernel_rfl⟩ rfl
attribute [irreducible] f l2
end spec_l20Facts
/-! loop.example/wholecheck/spec.SizeOf -/
namespace spec_SizeOf
noncomputable def D : Fd := ⟨Try.f46, 1, I, .sh, [.sh], .unit, h30⟩
noncomputable def C (k : Nat) : Ctx := cx [(71, spec_SystemValid.sem k)] [((7, 16), 3)] [(5, [(1, none), (3, none), (4, none)])] [] [(7, [0, 1, 2, 3, 4, 5, 6, 7, 8, 9, 10, 11, 12, 13, 14, 15, 16])] [] []
noncomputable def sem (k : Nat) : Sem := D.sem (D.ev (C k) k)
noncomputable def f (k : Nat) (p0 : y7) : Option (Int × Unit) := D.ev (C k) k (p0, ())
noncomputable def l5 (k : Nat) (p0 : y7) (n : Nat) (v3_5 v4_5 : Int) : Option (Int × Unit) :=
 D.lp (C k) k 5 [1, 1, 1, 0, 1, 0] [] n [(4, vI v4_5), (3, vI v3_5), (1, .val h37 (.ow .sh) p0)]
theorem s5 (k : Nat) (p0 : y7) (n : Nat) (v3_5 v4_5 : Int) : l5 k p0 (n + 1) v3_5 v4_5 =
 (if (decide (v4_5 < ((p0.1.length : Int)))) = true then
  gd ((0 : Int) ≤ v4_5) <| gd (v4_5 < (p0.1.length : Int)) <| gd ((0 : Int) ≤ v4_5) <| gd (v4_5 < (p0.1.length : Int)) <| l5 k p0 n (w64 (v3_5 * (w64 ((w64 ((p0.1.getD (v4_5.toNat) (0, (0, 0))).2.1 - (p0.1.getD (v4_5.toNat) (0, (0, 0))).1)) + 1)))) (w64 (v4_5 + 1))
 else
  some (v3_5, ())) := by kernel_rfl
theorem z5 (k : Nat) (p0 : y7) (v3_5 v4_5 : Int) : l5 k p0 0 v3_5 v4_5 = none := by kernel_rfl
theorem s (k : Nat) (p0 : y7) : f k p0 =
 ((spec_SystemValid.f k p0).bind fun r1 =>
 if (!r1.1) = true then
  some (0, ())
 else
  l5 k p0 k 1 0) := by kernel_rfl
theorem ok (k : Nat) : Ok Try.prog 46 (sem k) := Fd.ok (cx_ok ⟨spec_SystemValid.ok k, trivial⟩) ⟨Try.func46, rfl, by kernel_rfl⟩ rfl
attribute [irreducible] f l5
end spec_SizeOf
/-! loop.example/wholecheck/spec.FirstState -/
namespace spec_FirstState
noncomputable def D : Fd := ⟨Try.f74, 1, h9, (.ow .sh), [.sh], .unit, h30⟩
noncomputable def C (k : Nat) : Ctx := cx [(71, spec_SystemValid.sem k)] [] [(3, [(1, none), (3, none), (4, none)])] [] [] [] []
noncomputable def sem (k : Nat) : Sem := D.sem (D.ev (C k) k)
noncomputable def f (k : Nat) (p0 : y7) : Option ((List Int) × Unit) := D.ev (C k) k (p0, ())
noncomputable def l3 (k : Nat) (p0 : y7) (n : Nat) (v3_3 : (List Int)) (v4_3 : Int) : Option ((List Int) × Unit) :=
 D.lp (C k) k 3 [1, 1, 0, 1, 0] [] n [(4, vI v4_3), (3, vO h9 v3_3), (1, .val h37 (.ow .sh) p0)]
theorem s3 (k : Nat) (p0 : y7) (n : Nat) (v3_3 : (List Int)) (v4_3 : Int) : l3 k p0 (n + 1) v3_3 v4_3 =
 (if (decide (v4_3 < ((p0.1.length : Int)))) = true then
  (spec_SystemValid.f k p0).bind fun r1 =>
  if r1.1 = true then
   gd ((0 : Int) ≤ v4_3) <| gd (v4_3 < (p0.1.length : Int)) <| gd ((v3_3.length : Int) + ([(p0.1.getD (v4_3.toNat) (0, (0, 0))).2.2].length : Int) ≤ 1099511627776) <| l3 k p0 n (v3_3 ++ [(p0.1.getD (v4_3.toNat) (0, (0, 0))).2.2]) (w64 (v4_3 + 1))
  else
   some (v3_3, ())
 else
  some (v3_3, ())) := by kernel_rfl
theorem z3 (k : Nat) (p0 : y7) (v3_3 : (List Int)) (v4_3 : Int) : l3 k p0 0 v3_3 v4_3 = none := by kernel_rfl
theorem s (k : Nat) (p0 : y7) : f k p0 =
 (l3 k p0 k [] 0) := by kernel_rfl
theorem ok (k : Nat) : Ok Try.prog 74 (sem k) := Fd.ok (cx_ok ⟨spec_SystemValid.ok k, trivial⟩) ⟨Try.func74, rfl, by kernel_rfl⟩ rfl
attribute [irreducible] f l3
end spec_FirstState
/-! loop.example/wholecheck/spec.l3Copy -/
namespace spec_l3Copy
noncomputable def D : Fd := ⟨Try.f73, 1, h9, (.ow .sh), [.sh], .unit, h26⟩
noncomputable def C (k : Nat) : Ctx := cx [] [] [(3, [(0, none), (3, none), (4, none)])] [] [] [] []
noncomputable def sem (k : Nat) : Sem := D.sem (D.ev (C k) k)
noncomputable def f (k : Nat) (p0 : (List Int)) : Option ((List Int) × Unit) := D.ev (C k) k (p0, ())
noncomputable def l3 (k : Nat) (p0 : (List Int)) (n : Nat) (v3_3 : (List Int)) (v4_3 : Int) : Option ((List Int) × Unit) :=
 D.lp (C k) k 3 [1, 1, 0, 1, 0] [] n [(4, vI v4_3), (3, vO h9 v3_3), (0, vS h9 p0)]
theorem s3 (k : Nat) (p0 : (List Int)) (n : Nat) (v3_3 : (List Int)) (v4_3 : Int) : l3 k p0 (n + 1) v3_3 v4_3 =
 (if (decide (v4_3 < ((p0.length : Int)))) = true then
  gd ((0 : Int) ≤ v4_3) <| gd (v4_3 < (p0.length : Int)) <| gd ((v3_3.length : Int) + ([(p0.getD (v4_3.toNat) 0)].length : Int) ≤ 1099511627776) <| l3 k p0 n (v3_3 ++ [(p0.getD (v4_3.toNat) 0)]) (w64 (v4_3 + 1))
 else
  some (v3_3, ())) := by kernel_rfl
theorem z3 (k : Nat) (p0 : (List Int)) (v3_3 : (List Int)) (v4_3 : Int) : l3 k p0 0 v3_3 v4_3 = none := by kernel_rfl
theorem s (k : Nat) (p0 : (List Int)) : f k p0 =
 (l3 k p0 k [] 0) := by kernel_rfl
theorem ok (k : Nat) : Ok Try.prog 73 (sem k) := Fd.ok (cx_ok trivial) ⟨Try.func73, rfl, by kernel_rfl⟩ rfl
attribute [irreducible] f l3
end spec_l3Copy
/-! loop.example/wholecheck/spec.l4State -/
namespace spec_l4State
noncomputable def D : Fd := ⟨Try.f48, 1, h9, (.ow .sh), [.sh, .sh], .unit, h21⟩
noncomputable def C (k : Nat) : Ctx := cx [(74, spec_FirstState.sem k), (73, spec_l3Copy.sem k)] [] [(3, [(1, none), (2, none), (5, none), (6, none)])] [] [(5, [0, 1, 2, 3, 4, 5, 6, 7, 8, 9, 10, 11, 12, 13, 14]), (6, [0, 1, 2, 3, 4, 5, 6, 7, 8, 9, 10, 11, 12, 13])] [] []
noncomputable def sem (k : Nat) : Sem := D.sem (D.ev (C k) k)
noncomputable def f (k : Nat) (p0 : y7) (p1 : Int) : Option ((List Int) × Unit) := D.ev (C k) k (p0, p1, ())
noncomputable def l3 (k : Nat) (p0 : y7) (n : Nat) (v1_3 : Int) (v5_3 : (List Int)) (v6_3 : Int) : Option ((List Int) × Unit) :=
 D.lp (C k) k 3 [1, 1, 0, 1, 0] [] n [(6, vI v6_3), (5, vO h9 v5_3), (2, .val h37 (.ow .sh) p0), (1, vI v1_3)]
theorem s3 (k : Nat) (p0 : y7) (n : Nat) (v1_3 : Int) (v5_3 : (List Int)) (v6_3 : Int) : l3 k p0 (n + 1) v1_3 v5_3 v6_3 =
 (if (decide (v6_3 ≥ 0)) = true then
  gd ((0 : Int) ≤ v6_3) <| gd (v6_3 < (p0.1.length : Int)) <| gd ((0 : Int) ≤ v6_3) <| gd (v6_3 < (p0.1.length : Int)) <| gd ((0 : Int) ≤ v6_3) <| gd (v6_3 < (p0.1.length : Int)) <| gd (((w64 ((w64 ((p0.1.getD (v6_3.toNat) (0, (0, 0))).2.1 - (p0.1.getD (v6_3.toNat) (0, (0, 0))).1)) + 1)) : Int) ≠ 0) <| gd ((0 : Int) ≤ v6_3) <| gd (v6_3 < (v5_3.length : Int)) <| gd (((w64 ((w64 ((p0.1.getD (v6_3.toNat) (0, (0, 0))).2.1 - (p0.1.getD (v6_3.toNat) (0, (0, 0))).1)) + 1)) : Int) ≠ 0) <| l3 k p0 n (w64 (v1_3.tdiv (w64 ((w64 ((p0.1.getD (v6_3.toNat) (0, (0, 0))).2.1 - (p0.1.getD (v6_3.toNat) (0, (0, 0))).1)) + 1)))) (v5_3.set (v6_3.toNat) (w64 ((p0.1.getD (v6_3.toNat) (0, (0, 0))).1 + (v1_3.tmod (w64 ((w64 ((p0.1.getD (v6_3.toNat) (0, (0, 0))).2.1 - (p0.1.getD (v6_3.toNat) (0, (0, 0))).1)) + 1)))))) (w64 (v6_3 - 1))
 else
  some (v5_3, ())) := by kernel_rfl
theorem z3 (k : Nat) (p0 : y7) (v1_3 : Int) (v5_3 : (List Int)) (v6_3 : Int) : l3 k p0 0 v1_3 v5_3 v6_3 = none := by kernel_rfl
theorem s (k : Nat) (p0 : y7) (p1 : Int) : f k p0 p1 =
 ((spec_FirstState.f k p0).bind fun r1 =>
 (spec_l3Copy.f k r1.1).bind fun r2 =>
 l3 k p0 k p1 r2.1 (w64 (((p0.1.length : Int)) - 1))) := by kernel_rfl
theorem ok (k : Nat) : Ok Try.prog 48 (sem k) := Fd.ok (cx_ok ⟨spec_FirstState.ok k, spec_l3Copy.ok k, trivial⟩) ⟨Try.func48, rfl, by kernel_rfl⟩ rfl
attribute [irreducible] f l3
end spec_l4State
/-! loop.example/wholecheck/spec.l1Held -/
namespace spec_l1Held
noncomputable def D : Fd := ⟨Try.f104, 1, I, .sh, [.sh], .unit, h3⟩
noncomputable def C (k : Nat) : Ctx := cx [] [] [] [] [] [] []
noncomputable def sem (k : Nat) : Sem := D.sem (D.ev (C k) k)
noncomputable def f (k : Nat) (p0 : Int) : Option (Int × Unit) := D.ev (C k) k (p0, ())
theorem s (k : Nat) (p0 : Int) : f k p0 =
 (if (decide (p0 > 9999)) = true then
  some (9999, ())
 else
  if (decide (p0 < (-9999))) = true then
   some ((-9999), ())
  else
   some (p0, ())) := by kernel_rfl
theorem ok (k : Nat) : Ok Try.prog 104 (sem k) := Fd.ok (cx_ok trivial) ⟨Try.func104, rfl, by kernel_rfl⟩ rfl
attribute [irreducible] f
end spec_l1Held
/-! loop.example/wholecheck/spec.l1Truth -/
namespace spec_l1Truth
noncomputable def D : Fd := ⟨Try.f30, 1, I, .sh, [.sh], .unit, h39⟩
noncomputable def C (k : Nat) : Ctx := cx [] [] [] [] [] [] []
noncomputable def sem (k : Nat) : Sem := D.sem (D.ev (C k) k)
noncomputable def f (k : Nat) (p0 : Bool) : Option (Int × Unit) := D.ev (C k) k (p0, ())
theorem s (k : Nat) (p0 : Bool) : f k p0 =
 (if p0 = true then
  some (1, ())
 else
  some (0, ())) := by kernel_rfl
theorem ok (k : Nat) : Ok Try.prog 30 (sem k) := Fd.ok (cx_ok trivial) ⟨Try.func30, rfl, by kernel_rfl⟩ rfl
attribute [irreducible] f
end spec_l1Truth
/-! loop.example/wholecheck/spec.l1Do -/
namespace spec_l1Do
noncomputable def D : Fd := ⟨Try.f100, 1, I, .sh, [.sh, .sh, .sh], .unit, h32⟩
noncomputable def C (k : Nat) : Ctx := cx [(104, spec_l1Held.sem k), (30, spec_l1Truth.sem k)] [] [] [] [] [] []
noncomputable def sem (k : Nat) : Sem := D.sem (D.ev (C k) k)
noncomputable def f (k : Nat) (p0 p1 p2 : Int) : Option (Int × Unit) := D.ev (C k) k (p0, p1, p2, ())
theorem s (k : Nat) (p0 p1 p2 : Int) : f k p0 p1 p2 =
 (if (p0 == 2) = true then
  (spec_l1Held.f k (w64 (p1 + p2))).bind fun r1 =>
  some (r1.1, ())
 else
  if (p0 == 3) = true then
   (spec_l1Held.f k (w64 (p1 - p2))).bind fun r2 =>
   some (r2.1, ())
  else
   if (p0 == 4) = true then
    (spec_l1Held.f k (w64 (p1 * p2))).bind fun r3 =>
    some (r3.1, ())
   else
    if (p0 == 5) = true then
     (spec_l1Truth.f k (decide (p1 < p2))).bind fun r4 =>
     some (r4.1, ())
    else
     if (p0 == 6) = true then
      (spec_l1Truth.f k (p1 == p2)).bind fun r5 =>
      some (r5.1, ())
     else
      if (p0 == 7) = true then
       some (w64 (1 - p1), ())
      else
       if (p0 == 8) = true then
        some (w64 (p1 * p2), ())
       else
        (spec_l1Truth.f k (decide ((w64 (p1 + p2)) > 0))).bind fun r6 =>
        some (r6.1, ())) := by kernel_rfl
theorem ok (k : Nat) : Ok Try.prog 100 (sem k) := Fd.ok (cx_ok ⟨spec_l1Held.ok k, spec_l1Truth.ok k, trivial⟩) ⟨Try.func100, rfl, by kernel_rfl⟩ rfl
attribute [irreducible] f
end spec_l1Do
/-! loop.example/wholecheck/spec.l1Values -/
namespace spec_l1Values
noncomputable def D : Fd := ⟨Try.f93, 1, h9, (.ow .sh), [.sh, .sh], .unit, h40⟩
noncomputable def C (k : Nat) : Ctx := cx [(100, spec_l1Do.sem k)] [((10, 16), 3)] [(3, [(0, none), (1, none), (5, none), (6, none)])] [] [(10, [0, 1, 2, 3, 4, 5, 6, 7, 8, 9, 10, 11, 12, 13, 14, 15, 16])] [] []
noncomputable def sem (k : Nat) : Sem := D.sem (D.ev (C k) k)
noncomputable def f (k : Nat) (p0 : y2) (p1 : (List Int)) : Option ((List Int) × Unit) := D.ev (C k) k (p0, p1, ())
noncomputable def l3 (k : Nat) (p0 : y2) (p1 : (List Int)) (n : Nat) (v5_3 : (List Int)) (v6_3 : Int) : Option ((List Int) × Unit) :=
 D.lp (C k) k 3 [1, 1, 0, 1, 0] [] n [(6, vI v6_3), (5, vO h9 v5_3), (1, vS h9 p1), (0, vS h7 p0)]
theorem s3 (k : Nat) (p0 : y2) (p1 : (List Int)) (n : Nat) (v5_3 : (List Int)) (v6_3 : Int) : l3 k p0 p1 (n + 1) v5_3 v6_3 =
 (if (decide (v6_3 < ((p0.length : Int)))) = true then
  gd ((0 : Int) ≤ v6_3) <| gd (v6_3 < (p0.length : Int)) <| if ((p0.getD (v6_3.toNat) (0, (0, (0, 0)))).1 == 0) = true then
   gd ((v5_3.length : Int) + ([(p0.getD (v6_3.toNat) (0, (0, (0, 0)))).2.1].length : Int) ≤ 1099511627776) <| l3 k p0 p1 n (v5_3 ++ [(p0.getD (v6_3.toNat) (0, (0, (0, 0)))).2.1]) (w64 (v6_3 + 1))
  else
   if ((p0.getD (v6_3.toNat) (0, (0, (0, 0)))).1 == 1) = true then
    gd ((0 : Int) ≤ (p0.getD (v6_3.toNat) (0, (0, (0, 0)))).2.1) <| gd ((p0.getD (v6_3.toNat) (0, (0, (0, 0)))).2.1 < (p1.length : Int)) <| gd ((v5_3.length : Int) + ([(p1.getD ((p0.getD (v6_3.toNat) (0, (0, (0, 0)))).2.1.toNat) 0)].length : Int) ≤ 1099511627776) <| l3 k p0 p1 n (v5_3 ++ [(p1.getD ((p0.getD (v6_3.toNat) (0, (0, (0, 0)))).2.1.toNat) 0)]) (w64 (v6_3 + 1))
   else
    gd ((0 : Int) ≤ (p0.getD (v6_3.toNat) (0, (0, (0, 0)))).2.2.1) <| gd ((p0.getD (v6_3.toNat) (0, (0, (0, 0)))).2.2.1 < (v5_3.length : Int)) <| gd ((0 : Int) ≤ (p0.getD (v6_3.toNat) (0, (0, (0, 0)))).2.2.2) <| gd ((p0.getD (v6_3.toNat) (0, (0, (0, 0)))).2.2.2 < (v5_3.length : Int)) <| (spec_l1Do.f k (p0.getD (v6_3.toNat) (0, (0, (0, 0)))).1 (v5_3.getD ((p0.getD (v6_3.toNat) (0, (0, (0, 0)))).2.2.1.toNat) 0) (v5_3.getD ((p0.getD (v6_3.toNat) (0, (0, (0, 0)))).2.2.2.toNat) 0)).bind fun r1 =>
    gd ((v5_3.length : Int) + ([r1.1].length : Int) ≤ 1099511627776) <| l3 k p0 p1 n (v5_3 ++ [r1.1]) (w64 (v6_3 + 1))
 else
  some (v5_3, ())) := by kernel_rfl
theorem z3 (k : Nat) (p0 : y2) (p1 : (List Int)) (v5_3 : (List Int)) (v6_3 : Int) : l3 k p0 p1 0 v5_3 v6_3 = none := by kernel_rfl
theorem s (k : Nat) (p0 : y2) (p1 : (List Int)) : f k p0 p1 =
 (l3 k p0 p1 k [] 0) := by kernel_rfl
theorem ok (k : Nat) : Ok Try.prog 93 (sem k) := Fd.ok (cx_ok ⟨spec_l1Do.ok k, trivial⟩) ⟨Try.func93, rfl, by kernel_rfl⟩ rfl
attribute [irreducible] f l3
end spec_l1Values
/-! loop.example/wholecheck/spec.l2Last -/
namespace spec_l2Last
noncomputable def D : Fd := ⟨Try.f72, 1, I, .sh, [.sh, .sh], .unit, h40⟩
noncomputable def C (k : Nat) : Ctx := cx [(93, spec_l1Values.sem k)] [] [] [] [] [] []
noncomputable def sem (k : Nat) : Sem := D.sem (D.ev (C k) k)
noncomputable def f (k : Nat) (p0 : y2) (p1 : (List Int)) : Option (Int × Unit) := D.ev (C k) k (p0, p1, ())
theorem s (k : Nat) (p0 : y2) (p1 : (List Int)) : f k p0 p1 =
 ((spec_l1Values.f k p0 p1).bind fun r1 =>
 gd ((0 : Int) ≤ (w64 (((p0.length : Int)) - 1))) <| gd ((w64 (((p0.length : Int)) - 1)) < (r1.1.length : Int)) <| some (r1.1.getD ((w64 (((p0.length : Int)) - 1)).toNat) 0, ())) := by kernel_rfl
theorem ok (k : Nat) : Ok Try.prog 72 (sem k) := Fd.ok (cx_ok ⟨spec_l1Values.ok k, trivial⟩) ⟨Try.func72, rfl, by kernel_rfl⟩ rfl
attribute [irreducible] f
end spec_l2Last
/-! loop.example/wholecheck/spec.l20Of -/
namespace spec_l20Of
noncomputable def D : Fd := ⟨Try.f47, 1, h9, (.ow .sh), [.sh, .sh], .unit, h41⟩
noncomputable def C (k : Nat) : Ctx := cx [(72, spec_l2Last.sem k)] [] [(3, [(0, none), (1, none), (5, none), (6, none)])] [] [] [] []
noncomputable def sem (k : Nat) : Sem := D.sem (D.ev (C k) k)
noncomputable def f (k : Nat) (p0 : y3) (p1 : (List Int)) : Option ((List Int) × Unit) := D.ev (C k) k (p0, p1, ())
noncomputable def l3 (k : Nat) (p0 : y3) (p1 : (List Int)) (n : Nat) (v5_3 : (List Int)) (v6_3 : Int) : Option ((List Int) × Unit) :=
 D.lp (C k) k 3 [1, 1, 0, 1, 0] [] n [(6, vI v6_3), (5, vO h9 v5_3), (1, vS h9 p1), (0, vS h11 p0)]
theorem s3 (k : Nat) (p0 : y3) (p1 : (List Int)) (n : Nat) (v5_3 : (List Int)) (v6_3 : Int) : l3 k p0 p1 (n + 1) v5_3 v6_3 =
 (if (decide (v6_3 < ((p0.length : Int)))) = true then
  gd ((0 : Int) ≤ v6_3) <| gd (v6_3 < (p0.length : Int)) <| (spec_l2Last.f k (p0.getD (v6_3.toNat) []) p1).bind fun r1 =>
  gd ((v5_3.length : Int) + ([r1.1].length : Int) ≤ 1099511627776) <| l3 k p0 p1 n (v5_3 ++ [r1.1]) (w64 (v6_3 + 1))
 else
  some (v5_3, ())) := by kernel_rfl
theorem z3 (k : Nat) (p0 : y3) (p1 : (List Int)) (v5_3 : (List Int)) (v6_3 : Int) : l3 k p0 p1 0 v5_3 v6_3 = none := by kernel_rfl
theorem s (k : Nat) (p0 : y3) (p1 : (List Int)) : f k p0 p1 =
 (l3 k p0 p1 k [] 0) := by kernel_rfl
theorem ok (k : Nat) : Ok Try.prog 47 (sem k) := Fd.ok (cx_ok ⟨spec_l2Last.ok k, trivial⟩) ⟨Try.func47, rfl, by kernel_rfl⟩ rfl
attribute [irreducible] f l3
end spec_l20Of
/-! loop.example/wholecheck/spec.l2Same -/
namespace spec_l2Same
noncomputable def D : Fd := ⟨Try.f59, 1, .bool, .sh, [.sh, .sh], .unit, h42⟩
noncomputable def C (k : Nat) : Ctx := cx [] [] [(4, [(0, none), (1, none), (5, none)])] [] [(6, [0, 1, 2, 3, 4, 5, 6, 7, 8])] [] []
noncomputable def sem (k : Nat) : Sem := D.sem (D.ev (C k) k)
noncomputable def f (k : Nat) (p0 p1 : (List Int)) : Option (Bool × Unit) := D.ev (C k) k (p0, p1, ())
noncomputable def l4 (k : Nat) (p0 p1 : (List Int)) (n : Nat) (v5_4 : Int) : Option (Bool × Unit) :=
 D.lp (C k) k 4 [1, 1, 0, 1, 0] [] n [(5, vI v5_4), (1, vS h9 p1), (0, vS h9 p0)]
theorem s4 (k : Nat) (p0 p1 : (List Int)) (n : Nat) (v5_4 : Int) : l4 k p0 p1 (n + 1) v5_4 =
 (if (decide (v5_4 < ((p0.length : Int)))) = true then
  gd ((0 : Int) ≤ v5_4) <| gd (v5_4 < (p0.length : Int)) <| gd ((0 : Int) ≤ v5_4) <| gd (v5_4 < (p1.length : Int)) <| if ((p0.getD (v5_4.toNat) 0) != (p1.getD (v5_4.toNat) 0)) = true then
   some (false, ())
  else
   l4 k p0 p1 n (w64 (v5_4 + 1))
 else
  some (true, ())) := by kernel_rfl
theorem z4 (k : Nat) (p0 p1 : (List Int)) (v5_4 : Int) : l4 k p0 p1 0 v5_4 = none := by kernel_rfl
theorem s (k : Nat) (p0 p1 : (List Int)) : f k p0 p1 =
 (if (((p0.length : Int)) != ((p1.length : Int))) = true then
  some (false, ())
 else
  l4 k p0 p1 k 0) := by kernel_rfl
theorem ok (k : Nat) : Ok Try.prog 59 (sem k) := Fd.ok (cx_ok trivial) ⟨Try.func59, rfl, by kernel_rfl⟩ rfl
attribute [irreducible] f l4
end spec_l2Same
/-! loop.example/wholecheck/spec.l28Rows -/
namespace spec_l28Rows
noncomputable def D : Fd := ⟨Try.f32, 1, h43, (.ag (.ow .sh)), [.sh], .unit, h45⟩
noncomputable def C (k : Nat) : Ctx := cx [(59, spec_l2Same.sem k)] [] [(3, [(0, none), (2, none), (3, none), (4, none)]), (7, [(0, none), (2, none), (3, none), (4, none), (5, none), (6, none)])] [] [(9, [0, 1, 2, 3, 4, 5, 6, 7, 8])] [] []
noncomputable def sem (k : Nat) : Sem := D.sem (D.ev (C k) k)
noncomputable def f (k : Nat) (p0 : (List (List Int))) : Option ((List Int) × Unit) := D.ev (C k) k (p0, ())
noncomputable def l3 (k : Nat) (p0 : (List (List Int))) (n : Nat) (v3_3 : (List Int)) (v4_3 : Int) : Option ((List Int) × Unit) :=
 D.lp (C k) k 3 [1, 1, 0, 1, 0] [] n [(4, vI v4_3), (3, vO h46 v3_3), (2, vO h46 []), (0, vS h44 p0)]
noncomputable def l7 (k n3 : Nat) (p0 : (List (List Int))) (v3_3 : (List Int)) (v4_3 : Int) (n : Nat) (v5_7 v6_7 : Int) : Option ((List Int) × Unit) :=
 D.lp (C k) k 7 [1, 1, 0, 1, 0, 0, 1, 0, 0, 1, 0, 1, 0] [n3] n [(6, vI v6_7), (5, vI v5_7), (4, vI v4_3), (3, vO h46 v3_3), (2, vO h46 []), (0, vS h44 p0)]
theorem s7 (k n3 : Nat) (p0 : (List (List Int))) (v3_3 : (List Int)) (v4_3 : Int) (n : Nat) (v5_7 v6_7 : Int) : l7 k n3 p0 v3_3 v4_3 (n + 1) v5_7 v6_7 =
 (if (decide (v6_7 ≥ 0)) = true then
  gd ((0 : Int) ≤ v6_7) <| gd (v6_7 < (p0.length : Int)) <| gd ((0 : Int) ≤ v4_3) <| gd (v4_3 < (p0.length : Int)) <| (spec_l2Same.f k (p0.getD (v6_7.toNat) []) (p0.getD (v4_3.toNat) [])).bind fun r1 =>
  if r1.1 = true then
   l7 k n3 p0 v3_3 v4_3 n v6_7 (w64 (v6_7 - 1))
  else
   l7 k n3 p0 v3_3 v4_3 n v5_7 (w64 (v6_7 - 1))
 else
  gd ((v3_3.length : Int) + ([v5_7].length : Int) ≤ 1099511627776) <| gd ((0 : Nat) = 0) <| gd ((0 : Nat) = 0) <| l3 k p0 n3 (v3_3 ++ [v5_7]) (w64 (v4_3 + 1))) := by kernel_rfl
theorem z7 (k n3 : Nat) (p0 : (List (List Int))) (v3_3 : (List Int)) (v4_3 : Int) (v5_7 v6_7 : Int) : l7 k n3 p0 v3_3 v4_3 0 v5_7 v6_7 = none := by kernel_rfl
theorem s3 (k : Nat) (p0 : (List (List Int))) (n : Nat) (v3_3 : (List Int)) (v4_3 : Int) : l3 k p0 (n + 1) v3_3 v4_3 =
 (if (decide (v4_3 < ((p0.length : Int)))) = true then
  l7 k n p0 v3_3 v4_3 k v4_3 (w64 (v4_3 - 1))
 else
  some (v3_3, ())) := by kernel_rfl
theorem z3 (k : Nat) (p0 : (List (List Int))) (v3_3 : (List Int)) (v4_3 : Int) : l3 k p0 0 v3_3 v4_3 = none := by kernel_rfl
theorem s (k : Nat) (p0 : (List (List Int))) : f k p0 =
 (l3 k p0 k [] 0) := by kernel_rfl
theorem ok (k : Nat) : Ok Try.prog 32 (sem k) := Fd.ok (cx_ok ⟨spec_l2Same.ok k, trivial⟩) ⟨Try.func32, rfl, by kernel_rfl⟩ rfl
attribute [irreducible] f l3 l7
end spec_l28Rows
/-! loop.example/wholecheck/spec.BlocksBy -/
namespace spec_BlocksBy
noncomputable def D : Fd := ⟨Try.f20, 2, h47, (.pr (.ag (.ow .sh)) .sh), [.sh, .sh], .unit, h38⟩
noncomputable def C (k : Nat) : Ctx := cx [(45, spec_l20Facts.sem k), (46, spec_SizeOf.sem k), (48, spec_l4State.sem k), (47, spec_l20Of.sem k), (32, spec_l28Rows.sem k)] [] [(5, [(1, none), (2, none), (4, none), (6, none), (7, none)])] [] [] [] []
noncomputable def sem (k : Nat) : Sem := D.sem (D.ev (C k) k)
noncomputable def f (k : Nat) (p0 : y7) (p1 : y3) : Option (((List Int) × Bool) × Unit) := D.ev (C k) k (p0, p1, ())
noncomputable def l5 (k : Nat) (p0 : y7) (p1 : y3) (n : Nat) (v6_5 : (List (List Int))) (v7_5 : Int) : Option (((List Int) × Bool) × Unit) :=
 D.lp (C k) k 5 [1, 1, 1, 0, 1, 0] [] n [(7, vI v7_5), (6, vO h44 v6_5), (4, vO h46 []), (2, .val h37 (.ow .sh) p0), (1, vS h11 p1)]
theorem s5 (k : Nat) (p0 : y7) (p1 : y3) (n : Nat) (v6_5 : (List (List Int))) (v7_5 : Int) : l5 k p0 p1 (n + 1) v6_5 v7_5 =
 ((spec_SizeOf.f k p0).bind fun r2 =>
 if (decide (v7_5 < r2.1)) = true then
  (spec_l4State.f k p0 v7_5).bind fun r3 =>
  (spec_l20Of.f k p1 r3.1).bind fun r4 =>
  gd ((v6_5.length : Int) + ([r4.1].length : Int) ≤ 1099511627776) <| l5 k p0 p1 n (v6_5 ++ [r4.1]) (w64 (v7_5 + 1))
 else
  (spec_l28Rows.f k v6_5).bind fun r5 =>
  some ((r5.1, true), ())) := by kernel_rfl
theorem z5 (k : Nat) (p0 : y7) (p1 : y3) (v6_5 : (List (List Int))) (v7_5 : Int) : l5 k p0 p1 0 v6_5 v7_5 = none := by kernel_rfl
theorem s (k : Nat) (p0 : y7) (p1 : y3) : f k p0 p1 =
 ((spec_l20Facts.f k p0 p1).bind fun r1 =>
 if (!r1.1) = true then
  some (([], false), ())
 else
  l5 k p0 p1 k [] 0) := by kernel_rfl
theorem ok (k : Nat) : Ok Try.prog 20 (sem k) := Fd.ok (cx_ok ⟨spec_l20Facts.ok k, spec_SizeOf.ok k, spec_l4State.ok k, spec_l20Of.ok k, spec_l28Rows.ok k, trivial⟩) ⟨Try.func20, rfl, by kernel_rfl⟩ rfl
attribute [irreducible] f l5
end spec_BlocksBy
/-! loop.example/wholecheck/impl.in -/
namespace impl_in
noncomputable def D : Fd := ⟨Try.f64, 1, .bool, .sh, [.sh, .sh, .sh], .unit, h32⟩
noncomputable def C (k : Nat) : Ctx := cx [] [] [] [] [] [] []
noncomputable def sem (k : Nat) : Sem := D.sem (D.ev (C k) k)
noncomputable def f (k : Nat) (p0 p1 p2 : Int) : Option (Bool × Unit) := D.ev (C k) k (p0, p1, p2, ())
theorem s (k : Nat) (p0 p1 p2 : Int) : f k p0 p1 p2 =
 (if (decide (p0 ≥ p1)) = true then
  some (decide (p0 ≤ p2), ())
 else
  some (false, ())) := by kernel_rfl
theorem ok (k : Nat) : Ok Try.prog 64 (sem k) := Fd.ok (cx_ok trivial) ⟨Try.func64, rfl, by kernel_rfl⟩ rfl
attribute [irreducible] f
end impl_in
/-! loop.example/wholecheck/impl.varOk -/
namespace impl_varOk
noncomputable def D : Fd := ⟨Try.f86, 1, .bool, .sh, [.sh], .unit, h22⟩
noncomputable def C (k : Nat) : Ctx := cx [(64, impl_in.sem k)] [] [] [] [] [] []
noncomputable def sem (k : Nat) : Sem := D.sem (D.ev (C k) k)
noncomputable def f (k : Nat) (p0 : (Int × (Int × Int))) : Option (Bool × Unit) := D.ev (C k) k (p0, ())
theorem s (k : Nat) (p0 : (Int × (Int × Int))) : f k p0 =
 ((impl_in.f k p0.1 (-9999) 9999).bind fun r1 =>
 if r1.1 = true then
  (impl_in.f k p0.2.1 p0.1 9999).bind fun r2 =>
  if r2.1 = true then
   if (decide ((w64 (p0.2.1 - p0.1)) < 20)) = true then
    (impl_in.f k p0.2.2 p0.1 p0.2.1).bind fun r3 =>
    some (r3.1, ())
   else
    some (false, ())
  else
   some (false, ())
 else
  some (false, ())) := by kernel_rfl
theorem ok (k : Nat) : Ok Try.prog 86 (sem k) := Fd.ok (cx_ok ⟨impl_in.ok k, trivial⟩) ⟨Try.func86, rfl, by kernel_rfl⟩ rfl
attribute [irreducible] f
end impl_varOk
/-! loop.example/wholecheck/impl.SystemValid$1 -/
namespace impl_SystemValid_1
noncomputable def D : Fd := ⟨Try.f85, 1, .bool, .sh, [.sh], .unit, h22⟩
noncomputable def C (k : Nat) : Ctx := cx [(86, impl_varOk.sem k)] [] [] [] [] [] []
noncomputable def sem (k : Nat) : Sem := D.sem (D.ev (C k) k)
noncomputable def f (k : Nat) (p0 : (Int × (Int × Int))) : Option (Bool × Unit) := D.ev (C k) k (p0, ())
theorem s (k : Nat) (p0 : (Int × (Int × Int))) : f k p0 =
 ((impl_varOk.f k p0).bind fun r1 =>
 some (!r1.1, ())) := by kernel_rfl
theorem ok (k : Nat) : Ok Try.prog 85 (sem k) := Fd.ok (cx_ok ⟨impl_varOk.ok k, trivial⟩) ⟨Try.func85, rfl, by kernel_rfl⟩ rfl
attribute [irreducible] f
end impl_SystemValid_1
/-! slices.IndexFunc[[]loop.example/wholecheck/impl.Var,loop.example/wholecheck/impl.Var] -/
namespace slices_IndexFunc_impl_Var_impl_Var
noncomputable def D : Fd := ⟨Try.f97, 1, I, .sh, [.sh, .sh], .unit, h50⟩
noncomputable def C (k : Nat) : Ctx := cx [] [] [(2, [(0, none), (1, none), (7, none), (8, none)])] [] [] [] []
noncomputable def sem (k : Nat) : Sem := D.sem (D.ev (C k) k)
noncomputable def f (k : Nat) (p0 : y0) (p1 : y8) : Option (Int × Unit) := D.ev (C k) k (p0, p1, ())
noncomputable def l2 (k : Nat) (p0 : y0) (p1 : y8) (n : Nat) (v8_2 : Int) : Option (Int × Unit) :=
 D.lp (C k) k 2 [1, 0, 1, 0] [] n [(8, vI v8_2), (7, vI ((p0.length : Int))), (1, vS h48 p1), (0, vS h2 p0)]
theorem s2 (k : Nat) (p0 : y0) (p1 : y8) (n : Nat) (v8_2 : Int) : l2 k p0 p1 (n + 1) v8_2 =
 (if (decide (v8_2 < ((p0.length : Int)))) = true then
  gd ((0 : Int) ≤ v8_2) <| gd (v8_2 < (p0.length : Int)) <| (p1 (p0.getD (v8_2.toNat) (0, (0, 0)))).bind fun r1 =>
  if r1 = true then
   some (v8_2, ())
  else
   l2 k p0 p1 n (w64 (v8_2 + 1))
 else
  some ((-1), ())) := by kernel_rfl
theorem z2 (k : Nat) (p0 : y0) (p1 : y8) (v8_2 : Int) : l2 k p0 p1 0 v8_2 = none := by kernel_rfl
theorem s (k : Nat) (p0 : y0) (p1 : y8) : f k p0 p1 =
 (l2 k p0 p1 k 0) := by kernel_rfl
theorem ok (k : Nat) : Ok Try.prog 97 (sem k) := Fd.ok (cx_ok trivial) ⟨Try.func97, rfl, by kernel_rfl⟩ rfl
attribute [irreducible] f l2
end slices_IndexFunc_impl_Var_impl_Var
/-! slices.ContainsFunc[[]loop.example/wholecheck/impl.Var,loop.example/wholecheck/impl.Var] -/
namespace slices_ContainsFunc_impl_Var_impl_Var
noncomputable def D : Fd := ⟨Try.f84, 1, .bool, .sh, [.sh, .sh], .unit, h50⟩
noncomputable def C (k : Nat) : Ctx := cx [(97, slices_IndexFunc_impl_Var_impl_Var.sem k)] [] [] [] [] [] []
noncomputable def sem (k : Nat) : Sem := D.sem (D.ev (C k) k)
noncomputable def f (k : Nat) (p0 : y0) (p1 : y8) : Option (Bool × Unit) := D.ev (C k) k (p0, p1, ())
theorem s (k : Nat) (p0 : y0) (p1 : y8) : f k p0 p1 =
 ((slices_IndexFunc_impl_Var_impl_Var.f k p0 p1).bind fun r1 =>
 some (decide (r1.1 ≥ 0), ())) := by kernel_rfl
theorem ok (k : Nat) : Ok Try.prog 84 (sem k) := Fd.ok (cx_ok ⟨slices_IndexFunc_impl_Var_impl_Var.ok k, trivial⟩) ⟨Try.func84, rfl, by kernel_rfl⟩ rfl
attribute [irreducible] f
end slices_ContainsFunc_impl_Var_impl_Var
/-! loop.example/wholecheck/impl.size -/
namespace impl_size
noncomputable def D : Fd := ⟨Try.f79, 1, I, .sh, [.sh], .unit, h23⟩
noncomputable def C (k : Nat) : Ctx := cx [] [] [(3, [(3, none), (6, none), (7, none), (8, none)])] [] [] [] []
noncomputable def sem (k : Nat) : Sem := D.sem (D.ev (C k) k)
noncomputable def f (k : Nat) (p0 : y0) : Option (Int × Unit) := D.ev (C k) k (p0, ())
noncomputable def l3 (k : Nat) (p0 : y0) (n : Nat) (v3_3 v8_3 : Int) : Option (Int × Unit) :=
 D.lp (C k) k 3 [1, 1, 0, 1, 0] [] n [(8, vI v8_3), (7, vI ((p0.length : Int))), (6, vS h2 p0), (3, vI v3_3)]
theorem s3 (k : Nat) (p0 : y0) (n : Nat) (v3_3 v8_3 : Int) : l3 k p0 (n + 1) v3_3 v8_3 =
 (if (decide (v8_3 < ((p0.length : Int)))) = true then
  gd ((0 : Int) ≤ v8_3) <| gd (v8_3 < (p0.length : Int)) <| l3 k p0 n (w64 (v3_3 * (w64 ((w64 ((p0.getD (v8_3.toNat) (0, (0, 0))).2.1 - (p0.getD (v8_3.toNat) (0, (0, 0))).1)) + 1)))) (w64 (v8_3 + 1))
 else
  some (v3_3, ())) := by kernel_rfl
theorem z3 (k : Nat) (p0 : y0) (v3_3 v8_3 : Int) : l3 k p0 0 v3_3 v8_3 = none := by kernel_rfl
theorem s (k : Nat) (p0 : y0) : f k p0 =
 (l3 k p0 k 1 0) := by kernel_rfl
theorem ok (k : Nat) : Ok Try.prog 79 (sem k) := Fd.ok (cx_ok trivial) ⟨Try.func79, rfl, by kernel_rfl⟩ rfl
attribute [irreducible] f l3
end impl_size
/-! loop.example/wholecheck/impl.parts -/
namespace impl_parts
noncomputable def D : Fd := ⟨Try.f101, 3, h0, (.pr .sh (.pr .sh .sh)), [.sh], .unit, h3⟩
noncomputable def C (k : Nat) : Ctx := cx [] [] [] [] [] [] [(8, [(5, none), (10, none)])]
noncomputable def sem (k : Nat) : Sem := D.sem (D.ev (C k) k)
noncomputable def f (k : Nat) (p0 : Int) : Option ((Int × (Int × Int)) × Unit) := D.ev (C k) k (p0, ())
noncomputable def lj8 (k : Nat) (p0 : Int) (n : Nat) (v10_j8 : Bool) : Option ((Int × (Int × Int)) × Unit) :=
 D.jn (C k) k 8 [1, 0, 1, 0, 1, 1] [] n [(10, vB v10_j8), (5, vI p0)]
theorem sj8 (k : Nat) (p0 : Int) (n : Nat) (v10_j8 : Bool) : lj8 k p0 (n + 1) v10_j8 =
 (if v10_j8 = true then
  some ((2, (1, 2)), ())
 else
  if (p0 == 7) = true then
   some ((1, (2, 2)), ())
  else
   if (p0 == 8) = true then
    if (p0 == 8) = true then
     some ((2, (2, 2)), ())
    else
     some ((0, (0, 1)), ())
   else
    if (p0 == 9) = true then
     some ((2, (2, 2)), ())
    else
     some ((0, (0, 1)), ())) := by kernel_rfl
theorem zj8 (k : Nat) (p0 : Int) (v10_j8 : Bool) : lj8 k p0 0 v10_j8 = none := by kernel_rfl
theorem s (k : Nat) (p0 : Int) : f k p0 =
 (if (p0 == 2) = true then
  if (p0 == 2) = true then
   some ((2, (1, 1)), ())
  else
   if (p0 == 5) = true then
    lj8 k p0 k (p0 == 5)
   else
    lj8 k p0 k (p0 == 6)
 else
  if (p0 == 3) = true then
   if (p0 == 3) = true then
    some ((2, (1, 1)), ())
   else
    if (p0 == 5) = true then
     lj8 k p0 k (p0 == 5)
    else
     lj8 k p0 k (p0 == 6)
  else
   if (p0 == 4) = true then
    some ((2, (1, 1)), ())
   else
    if (p0 == 5) = true then
     lj8 k p0 k (p0 == 5)
    else
     lj8 k p0 k (p0 == 6)) := by kernel_rfl
theorem ok (k : Nat) : Ok Try.prog 101 (sem k) := Fd.ok (cx_ok trivial) ⟨Try.func101, rfl, by kernel_rfl⟩ rfl
attribute [irreducible] f lj8
end impl_parts
/-! loop.example/wholecheck/impl.kindsOf -/
namespace impl_kindsOf
noncomputable def D : Fd := ⟨Try.f95, 1, h51, (.ow .sh), [.sh, .sh], .unit, h8⟩
noncomputable def C (k : Nat) : Ctx := cx [(64, impl_in.sem k), (101, impl_parts.sem k)] [] [(5, [(1, none), (5, none), (24, none), (25, none), (26, none)])] [] [] [] []
noncomputable def sem (k : Nat) : Sem := D.sem (D.ev (C k) k)
noncomputable def f (k : Nat) (p0 : y2) (p1 : Int) : Option ((List Int) × Unit) := D.ev (C k) k (p0, p1, ())
noncomputable def l5 (k : Nat) (p0 : y2) (p1 : Int) (n : Nat) (v5_5 : (List Int)) (v26_5 : Int) : Option ((List Int) × Unit) :=
 D.lp (C k) k 5 [1, 1, 1, 0, 1, 0] [] n [(26, vI v26_5), (25, vI ((p0.length : Int))), (24, vS h7 p0), (5, vO h9 v5_5), (1, vI p1)]
theorem s5 (k : Nat) (p0 : y2) (p1 : Int) (n : Nat) (v5_5 : (List Int)) (v26_5 : Int) : l5 k p0 p1 (n + 1) v5_5 v26_5 =
 (if (decide (v26_5 < ((p0.length : Int)))) = true then
  gd ((0 : Int) ≤ v26_5) <| gd (v26_5 < (p0.length : Int)) <| (impl_parts.f k (p0.getD (v26_5.toNat) (0, (0, (0, 0)))).1).bind fun r3 =>
  (impl_in.f k (p0.getD (v26_5.toNat) (0, (0, (0, 0)))).1 0 9).bind fun r4 =>
  if ((p0.getD (v26_5.toNat) (0, (0, (0, 0)))).1 == 0) = true then
   (impl_in.f k (p0.getD (v26_5.toNat) (0, (0, (0, 0)))).2.1 (-9999) 9999).bind fun r5 =>
   if r5.1 = true then
    if ((p0.getD (v26_5.toNat) (0, (0, (0, 0)))).2.2.1 == 0) = true then
     if (!((p0.getD (v26_5.toNat) (0, (0, (0, 0)))).2.2.2 == 0)) = true then
      some ([], ())
     else
      gd ((v5_5.length : Int) + ([r3.1.2.2].length : Int) ≤ 1099511627776) <| l5 k p0 p1 n (v5_5 ++ [r3.1.2.2]) (w64 (v26_5 + 1))
    else
     if (!false) = true then
      some ([], ())
     else
      gd ((v5_5.length : Int) + ([r3.1.2.2].length : Int) ≤ 1099511627776) <| l5 k p0 p1 n (v5_5 ++ [r3.1.2.2]) (w64 (v26_5 + 1))
   else
    if (!false) = true then
     some ([], ())
    else
     gd ((v5_5.length : Int) + ([r3.1.2.2].length : Int) ≤ 1099511627776) <| l5 k p0 p1 n (v5_5 ++ [r3.1.2.2]) (w64 (v26_5 + 1))
  else
   if ((p0.getD (v26_5.toNat) (0, (0, (0, 0)))).1 == 1) = true then
    (impl_in.f k (p0.getD (v26_5.toNat) (0, (0, (0, 0)))).2.1 0 (w64 (p1 - 1))).bind fun r6 =>
    if r6.1 = true then
     if ((p0.getD (v26_5.toNat) (0, (0, (0, 0)))).2.2.1 == 0) = true then
      if (!((p0.getD (v26_5.toNat) (0, (0, (0, 0)))).2.2.2 == 0)) = true then
       some ([], ())
      else
       gd ((v5_5.length : Int) + ([r3.1.2.2].length : Int) ≤ 1099511627776) <| l5 k p0 p1 n (v5_5 ++ [r3.1.2.2]) (w64 (v26_5 + 1))
     else
      if (!false) = true then
       some ([], ())
      else
       gd ((v5_5.length : Int) + ([r3.1.2.2].length : Int) ≤ 1099511627776) <| l5 k p0 p1 n (v5_5 ++ [r3.1.2.2]) (w64 (v26_5 + 1))
    else
     if (!false) = true then
      some ([], ())
     else
      gd ((v5_5.length : Int) + ([r3.1.2.2].length : Int) ≤ 1099511627776) <| l5 k p0 p1 n (v5_5 ++ [r3.1.2.2]) (w64 (v26_5 + 1))
   else
    if r4.1 = true then
     if ((p0.getD (v26_5.toNat) (0, (0, (0, 0)))).2.1 == 0) = true then
      (impl_in.f k (p0.getD (v26_5.toNat) (0, (0, (0, 0)))).2.2.1 0 (w64 (v26_5 - 1))).bind fun r7 =>
      if r7.1 = true then
       (impl_in.f k (p0.getD (v26_5.toNat) (0, (0, (0, 0)))).2.2.2 0 (w64 (v26_5 - 1))).bind fun r8 =>
       if r8.1 = true then
        gd ((0 : Int) ≤ (p0.getD (v26_5.toNat) (0, (0, (0, 0)))).2.2.1) <| gd ((p0.getD (v26_5.toNat) (0, (0, (0, 0)))).2.2.1 < (v5_5.length : Int)) <| if ((v5_5.getD ((p0.getD (v26_5.toNat) (0, (0, (0, 0)))).2.2.1.toNat) 0) == r3.1.2.1) = true then
         gd ((0 : Int) ≤ (p0.getD (v26_5.toNat) (0, (0, (0, 0)))).2.2.2) <| gd ((p0.getD (v26_5.toNat) (0, (0, (0, 0)))).2.2.2 < (v5_5.length : Int)) <| if ((v5_5.getD ((p0.getD (v26_5.toNat) (0, (0, (0, 0)))).2.2.2.toNat) 0) == r3.1.2.1) = true then
          if (r3.1.1 == 2) = true then
           if (!true) = true then
            some ([], ())
           else
            gd ((v5_5.length : Int) + ([r3.1.2.2].length : Int) ≤ 1099511627776) <| l5 k p0 p1 n (v5_5 ++ [r3.1.2.2]) (w64 (v26_5 + 1))
          else
           if (!((p0.getD (v26_5.toNat) (0, (0, (0, 0)))).2.2.1 == (p0.getD (v26_5.toNat) (0, (0, (0, 0)))).2.2.2)) = true then
            some ([], ())
           else
            gd ((v5_5.length : Int) + ([r3.1.2.2].length : Int) ≤ 1099511627776) <| l5 k p0 p1 n (v5_5 ++ [r3.1.2.2]) (w64 (v26_5 + 1))
         else
          if (!false) = true then
           some ([], ())
          else
           gd ((v5_5.length : Int) + ([r3.1.2.2].length : Int) ≤ 1099511627776) <| l5 k p0 p1 n (v5_5 ++ [r3.1.2.2]) (w64 (v26_5 + 1))
        else
         if (!false) = true then
          some ([], ())
         else
          gd ((v5_5.length : Int) + ([r3.1.2.2].length : Int) ≤ 1099511627776) <| l5 k p0 p1 n (v5_5 ++ [r3.1.2.2]) (w64 (v26_5 + 1))
       else
        if (!false) = true then
         some ([], ())
        else
         gd ((v5_5.length : Int) + ([r3.1.2.2].length : Int) ≤ 1099511627776) <| l5 k p0 p1 n (v5_5 ++ [r3.1.2.2]) (w64 (v26_5 + 1))
      else
       if (!false) = true then
        some ([], ())
       else
        gd ((v5_5.length : Int) + ([r3.1.2.2].length : Int) ≤ 1099511627776) <| l5 k p0 p1 n (v5_5 ++ [r3.1.2.2]) (w64 (v26_5 + 1))
     else
      if (!false) = true then
       some ([], ())
      else
       gd ((v5_5.length : Int) + ([r3.1.2.2].length : Int) ≤ 1099511627776) <| l5 k p0 p1 n (v5_5 ++ [r3.1.2.2]) (w64 (v26_5 + 1))
    else
     if (!r4.1) = true then
      some ([], ())
     else
      gd ((v5_5.length : Int) + ([r3.1.2.2].length : Int) ≤ 1099511627776) <| l5 k p0 p1 n (v5_5 ++ [r3.1.2.2]) (w64 (v26_5 + 1))
 else
  gd (v5_5.length ≠ 0) <| some (v5_5, ())) := by kernel_rfl
theorem z5 (k : Nat) (p0 : y2) (p1 : Int) (v5_5 : (List Int)) (v26_5 : Int) : l5 k p0 p1 0 v5_5 v26_5 = none := by kernel_rfl
theorem s (k : Nat) (p0 : y2) (p1 : Int) : f k p0 p1 =
 ((impl_in.f k p1 0 5).bind fun r1 =>
 if (!r1.1) = true then
  some ([], ())
 else
  (impl_in.f k ((p0.length : Int)) 1 40).bind fun r2 =>
  if (!r2.1) = true then
   some ([], ())
  else
   gd ((0 : Int) ≤ 0) <| gd ((0 : Int) ≤ ((p0.length : Int))) <| gd (((p0.length : Int)) ≤ 1099511627776) <| l5 k p0 p1 k ((List.replicate ((0 : Int)).toNat 0 : (List Int))) 0) := by kernel_rfl
theorem ok (k : Nat) : Ok Try.prog 95 (sem k) := Fd.ok (cx_ok ⟨impl_in.ok k, impl_parts.ok k, trivial⟩) ⟨Try.func95, rfl, by kernel_rfl⟩ rfl
attribute [irreducible] f l5
end impl_kindsOf
/-! loop.example/wholecheck/impl.kindOf -/
namespace impl_kindOf
noncomputable def D : Fd := ⟨Try.f78, 1, I, .sh, [.sh, .sh], .unit, h8⟩
noncomputable def C (k : Nat) : Ctx := cx [(95, impl_kindsOf.sem k)] [] [] [] [] [] []
noncomputable def sem (k : Nat) : Sem := D.sem (D.ev (C k) k)
noncomputable def f (k : Nat) (p0 : y2) (p1 : Int) : Option (Int × Unit) := D.ev (C k) k (p0, p1, ())
theorem s (k : Nat) (p0 : y2) (p1 : Int) : f k p0 p1 =
 ((impl_kindsOf.f k p0 p1).bind fun r1 =>
 if (decide (r1.1.length = 0)) = true then
  some (0, ())
 else
  gd ((0 : Int) ≤ (w64 (((r1.1.length : Int)) - 1))) <| gd ((w64 (((r1.1.length : Int)) - 1)) < (r1.1.length : Int)) <| some (r1.1.getD ((w64 (((r1.1.length : Int)) - 1)).toNat) 0, ())) := by kernel_rfl
theorem ok (k : Nat) : Ok Try.prog 78 (sem k) := Fd.ok (cx_ok ⟨impl_kindsOf.ok k, trivial⟩) ⟨Try.func78, rfl, by kernel_rfl⟩ rfl
attribute [irreducible] f
end impl_kindOf
/-! loop.example/wholecheck/impl.ruleOk -/
namespace impl_ruleOk
noncomputable def D : Fd := ⟨Try.f89, 1, .bool, .sh, [.sh, .sh], .unit, h16⟩
noncomputable def C (k : Nat) : Ctx := cx [(78, impl_kindOf.sem k), (64, impl_in.sem k)] [] [(4, [(1, none), (2, none), (22, none), (23, none), (24, none)])] [] [] [] []
noncomputable def sem (k : Nat) : Sem := D.sem (D.ev (C k) k)
noncomputable def f (k : Nat) (p0 : y5) (p1 : Int) : Option (Bool × Unit) := D.ev (C k) k (p0, p1, ())
noncomputable def l4 (k : Nat) (p0 : y5) (p1 : Int) (n : Nat) (v24_4 : Int) : Option (Bool × Unit) :=
 D.lp (C k) k 4 [1, 1, 0, 1, 0] [] n [(24, vI v24_4), (23, vI ((p0.2.1.length : Int))), (22, vS h9 p0.2.1), (2, .val h36 (.ow .sh) p0), (1, vI p1)]
theorem s4 (k : Nat) (p0 : y5) (p1 : Int) (n : Nat) (v24_4 : Int) : l4 k p0 p1 (n + 1) v24_4 =
 (if (decide (v24_4 < ((p0.2.1.length : Int)))) = true then
  gd ((0 : Int) ≤ v24_4) <| gd (v24_4 < (p0.2.1.length : Int)) <| (impl_in.f k (p0.2.1.getD (v24_4.toNat) 0) 0 (w64 (p1 - 1))).bind fun r2 =>
  if (!r2.1) = true then
   some (false, ())
  else
   if (decide (v24_4 > 0)) = true then
    gd ((0 : Int) ≤ (w64 (v24_4 - 1))) <| gd ((w64 (v24_4 - 1)) < (p0.2.1.length : Int)) <| if (decide ((p0.2.1.getD ((w64 (v24_4 - 1)).toNat) 0) ≥ (p0.2.1.getD (v24_4.toNat) 0))) = true then
     some (false, ())
    else
     gd ((0 : Int) ≤ v24_4) <| gd (v24_4 < (p0.2.2.length : Int)) <| (impl_kindOf.f k (p0.2.2.getD (v24_4.toNat) []) p1).bind fun r3 =>
     if (r3.1 != 1) = true then
      some (false, ())
     else
      l4 k p0 p1 n (w64 (v24_4 + 1))
   else
    gd ((0 : Int) ≤ v24_4) <| gd (v24_4 < (p0.2.2.length : Int)) <| (impl_kindOf.f k (p0.2.2.getD (v24_4.toNat) []) p1).bind fun r4 =>
    if (r4.1 != 1) = true then
     some (false, ())
    else
     l4 k p0 p1 n (w64 (v24_4 + 1))
 else
  some (true, ())) := by kernel_rfl
theorem z4 (k : Nat) (p0 : y5) (p1 : Int) (v24_4 : Int) : l4 k p0 p1 0 v24_4 = none := by kernel_rfl
theorem s (k : Nat) (p0 : y5) (p1 : Int) : f k p0 p1 =
 ((impl_kindOf.f k p0.1 p1).bind fun r1 =>
 if (r1.1 != 2) = true then
  some (false, ())
 else
  if (((p0.2.1.length : Int)) != ((p0.2.2.length : Int))) = true then
   some (false, ())
  else
   l4 k p0 p1 k 0) := by kernel_rfl
theorem ok (k : Nat) : Ok Try.prog 89 (sem k) := Fd.ok (cx_ok ⟨impl_kindOf.ok k, impl_in.ok k, trivial⟩) ⟨Try.func89, rfl, by kernel_rfl⟩ rfl
attribute [irreducible] f l4
end impl_ruleOk
/-! loop.example/wholecheck/impl.SystemValid$2 -/
namespace impl_SystemValid_2
noncomputable def D : Fd := ⟨Try.f88, 1, .bool, .sh, [.sh, .sh], .unit, h53⟩
noncomputable def C (k : Nat) : Ctx := cx [(89, impl_ruleOk.sem k)] [] [] [] [] [] []
noncomputable def sem (k : Nat) : Sem := D.sem (D.ev (C k) k)
noncomputable def f (k : Nat) (p0 : y5) (p1 : y7) : Option (Bool × Unit) := D.ev (C k) k (p0, p1, ())
theorem s (k : Nat) (p0 : y5) (p1 : y7) : f k p0 p1 =
 ((impl_ruleOk.f k p0 ((p1.1.length : Int))).bind fun r1 =>
 some (!r1.1, ())) := by kernel_rfl
theorem ok (k : Nat) : Ok Try.prog 88 (sem k) := Fd.ok (cx_ok ⟨impl_ruleOk.ok k, trivial⟩) ⟨Try.func88, rfl, by kernel_rfl⟩ rfl
attribute [irreducible] f
end impl_SystemValid_2
/-! slices.IndexFunc[[]loop.example/wholecheck/impl.Rule,loop.example/wholecheck/impl.Rule] -/
namespace slices_IndexFunc_impl_Rule_impl_Rule
noncomputable def D : Fd := ⟨Try.f98, 1, I, .sh, [.sh, .sh], .unit, h56⟩
noncomputable def C (k : Nat) : Ctx := cx [] [] [(2, [(0, none), (1, none), (7, none), (8, none)])] [] [] [] []
noncomputable def sem (k : Nat) : Sem := D.sem (D.ev (C k) k)
noncomputable def f (k : Nat) (p0 : y6) (p1 : y9) : Option (Int × Unit) := D.ev (C k) k (p0, p1, ())
noncomputable def l2 (k : Nat) (p0 : y6) (p1 : y9) (n : Nat) (v8_2 : Int) : Option (Int × Unit) :=
 D.lp (C k) k 2 [1, 0, 1, 0] [] n [(8, vI v8_2), (7, vI ((p0.length : Int))), (1, vS h54 p1), (0, vS h17 p0)]
theorem s2 (k : Nat) (p0 : y6) (p1 : y9) (n : Nat) (v8_2 : Int) : l2 k p0 p1 (n + 1) v8_2 =
 (if (decide (v8_2 < ((p0.length : Int)))) = true then
  gd ((0 : Int) ≤ v8_2) <| gd (v8_2 < (p0.length : Int)) <| (p1 (p0.getD (v8_2.toNat) ([], ([], [])))).bind fun r1 =>
  if r1 = true then
   some (v8_2, ())
  else
   l2 k p0 p1 n (w64 (v8_2 + 1))
 else
  some ((-1), ())) := by kernel_rfl
theorem z2 (k : Nat) (p0 : y6) (p1 : y9) (v8_2 : Int) : l2 k p0 p1 0 v8_2 = none := by kernel_rfl
theorem s (k : Nat) (p0 : y6) (p1 : y9) : f k p0 p1 =
 (l2 k p0 p1 k 0) := by kernel_rfl
theorem ok (k : Nat) : Ok Try.prog 98 (sem k) := Fd.ok (cx_ok trivial) ⟨Try.func98, rfl, by kernel_rfl⟩ rfl
attribute [irreducible] f l2
end slices_IndexFunc_impl_Rule_impl_Rule
/-! slices.ContainsFunc[[]loop.example/wholecheck/impl.Rule,loop.example/wholecheck/impl.Rule] -/
namespace slices_ContainsFunc_impl_Rule_impl_Rule
noncomputable def D : Fd := ⟨Try.f87, 1, .bool, .sh, [.sh, .sh], .unit, h56⟩
noncomputable def C (k : Nat) : Ctx := cx [(98, slices_IndexFunc_impl_Rule_impl_Rule.sem k)] [] [] [] [] [] []
noncomputable def sem (k : Nat) : Sem := D.sem (D.ev (C k) k)
noncomputable def f (k : Nat) (p0 : y6) (p1 : y9) : Option (Bool × Unit) := D.ev (C k) k (p0, p1, ())
theorem s (k : Nat) (p0 : y6) (p1 : y9) : f k p0 p1 =
 ((slices_IndexFunc_impl_Rule_impl_Rule.f k p0 p1).bind fun r1 =>
 some (decide (r1.1 ≥ 0), ())) := by kernel_rfl
theorem ok (k : Nat) : Ok Try.prog 87 (sem k) := Fd.ok (cx_ok ⟨slices_IndexFunc_impl_Rule_impl_Rule.ok k, trivial⟩) ⟨Try.func87, rfl, by kernel_rfl⟩ rfl
attribute [irreducible] f
end slices_ContainsFunc_impl_Rule_impl_Rule
/-! loop.example/wholecheck/impl.SystemValid -/
namespace impl_SystemValid
noncomputable def D : Fd := ⟨Try.f62, 1, .bool, .sh, [.sh], .unit, h30⟩
noncomputable def C (k : Nat) : Ctx := cx [(64, impl_in.sem k), (85, impl_SystemValid_1.sem k), (84, slices_ContainsFunc_impl_Var_impl_Var.sem k), (79, impl_size.sem k), (88, impl_SystemValid_2.sem k), (87, slices_ContainsFunc_impl_Rule_impl_Rule.sem k)] [] [] [] [] [] []
noncomputable def sem (k : Nat) : Sem := D.sem (D.ev (C k) k)
noncomputable def f (k : Nat) (p0 : y7) : Option (Bool × Unit) := D.ev (C k) k (p0, ())
theorem s (k : Nat) (p0 : y7) : f k p0 =
 ((impl_in.f k ((p0.1.length : Int)) 1 5).bind fun r1 =>
 if (!r1.1) = true then
  some (false, ())
 else
  if (decide (((p0.2.length : Int)) > 8)) = true then
   some (false, ())
  else
   (slices_ContainsFunc_impl_Var_impl_Var.f k p0.1 (fun p => (impl_SystemValid_1.f k p).bind fun r => some r.1)).bind fun r2 =>
   if r2.1 = true then
    some (false, ())
   else
    (impl_size.f k p0.1).bind fun r3 =>
    if (decide (r3.1 > 400)) = true then
     some (false, ())
    else
     (slices_ContainsFunc_impl_Rule_impl_Rule.f k p0.2 (fun p => (impl_SystemValid_2.f k p p0).bind fun r => some r.1)).bind fun r4 =>
     some (!r4.1, ())) := by kernel_rfl
theorem ok (k : Nat) : Ok Try.prog 62 (sem k) := Fd.ok (cx_ok ⟨impl_in.ok k, impl_SystemValid_1.ok k, slices_ContainsFunc_impl_Var_impl_Var.ok k, impl_size.ok k, impl_SystemValid_2.ok k, slices_ContainsFunc_impl_Rule_impl_Rule.ok k, trivial⟩) ⟨Try.func62, rfl, by kernel_rfl⟩ rfl
attribute [irreducible] f
end impl_SystemValid
/-! loop.example/wholecheck/impl.factsOk$1 -/
namespace impl_factsOk_1
noncomputable def D : Fd := ⟨Try.f77, 1, .bool, .sh, [.sh, .sh], .unit, h57⟩
noncomputable def C (k : Nat) : Ctx := cx [(78, impl_kindOf.sem k)] [] [] [] [] [] []
noncomputable def sem (k : Nat) : Sem := D.sem (D.ev (C k) k)
noncomputable def f (k : Nat) (p0 : y2) (p1 : y7) : Option (Bool × Unit) := D.ev (C k) k (p0, p1, ())
theorem s (k : Nat) (p0 : y2) (p1 : y7) : f k p0 p1 =
 ((impl_kindOf.f k p0 ((p1.1.length : Int))).bind fun r1 =>
 some (r1.1 != 2, ())) := by kernel_rfl
theorem ok (k : Nat) : Ok Try.prog 77 (sem k) := Fd.ok (cx_ok ⟨impl_kindOf.ok k, trivial⟩) ⟨Try.func77, rfl, by kernel_rfl⟩ rfl
attribute [irreducible] f
end impl_factsOk_1
/-! slices.IndexFunc[[][]loop.example/wholecheck/impl.Term,[]loop.example/wholecheck/impl.Term] -/
namespace slices_IndexFunc_impl_Term_impl_Term
noncomputable def D : Fd := ⟨Try.f94, 1, I, .sh, [.sh, .sh], .unit, h60⟩
noncomputable def C (k : Nat) : Ctx := cx [] [] [(2, [(0, none), (1, none), (7, none), (8, none)])] [] [] [] []
noncomputable def sem (k : Nat) : Sem := D.sem (D.ev (C k) k)
noncomputable def f (k : Nat) (p0 : y3) (p1 : y10) : Option (Int × Unit) := D.ev (C k) k (p0, p1, ())
noncomputable def l2 (k : Nat) (p0 : y3) (p1 : y10) (n : Nat) (v8_2 : Int) : Option (Int × Unit) :=
 D.lp (C k) k 2 [1, 0, 1, 0] [] n [(8, vI v8_2), (7, vI ((p0.length : Int))), (1, vS h58 p1), (0, vS h11 p0)]
theorem s2 (k : Nat) (p0 : y3) (p1 : y10) (n : Nat) (v8_2 : Int) : l2 k p0 p1 (n + 1) v8_2 =
 (if (decide (v8_2 < ((p0.length : Int)))) = true then
  gd ((0 : Int) ≤ v8_2) <| gd (v8_2 < (p0.length : Int)) <| (p1 (p0.getD (v8_2.toNat) [])).bind fun r1 =>
  if r1 = true then
   some (v8_2, ())
  else
   l2 k p0 p1 n (w64 (v8_2 + 1))
 else
  some ((-1), ())) := by kernel_rfl
theorem z2 (k : Nat) (p0 : y3) (p1 : y10) (v8_2 : Int) : l2 k p0 p1 0 v8_2 = none := by kernel_rfl
theorem s (k : Nat) (p0 : y3) (p1 : y10) : f k p0 p1 =
 (l2 k p0 p1 k 0) := by kernel_rfl
theorem ok (k : Nat) : Ok Try.prog 94 (sem k) := Fd.ok (cx_ok trivial) ⟨Try.func94, rfl, by kernel_rfl⟩ rfl
attribute [irreducible] f l2
end slices_IndexFunc_impl_Term_impl_Term
/-! slices.ContainsFunc[[][]loop.example/wholecheck/impl.Term,[]loop.example/wholecheck/impl.Term] -/
namespace slices_ContainsFunc_impl_Term_impl_Term
noncomputable def D : Fd := ⟨Try.f76, 1, .bool, .sh, [.sh, .sh], .unit, h60⟩
noncomputable def C (k : Nat) : Ctx := cx [(94, slices_IndexFunc_impl_Term_impl_Term.sem k)] [] [] [] [] [] []
noncomputable def sem (k : Nat) : Sem := D.sem (D.ev (C k) k)
noncomputable def f (k : Nat) (p0 : y3) (p1 : y10) : Option (Bool × Unit) := D.ev (C k) k (p0, p1, ())
theorem s (k : Nat) (p0 : y3) (p1 : y10) : f k p0 p1 =
 ((slices_IndexFunc_impl_Term_impl_Term.f k p0 p1).bind fun r1 =>
 some (decide (r1.1 ≥ 0), ())) := by kernel_rfl
theorem ok (k : Nat) : Ok Try.prog 76 (sem k) := Fd.ok (cx_ok ⟨slices_IndexFunc_impl_Term_impl_Term.ok k, trivial⟩) ⟨Try.func76, rfl, by kernel_rfl⟩ rfl
attribute [irreducible] f
end slices_ContainsFunc_impl_Term_impl_Term
/-! loop.example/wholecheck/impl.factsOk -/
namespace impl_factsOk
noncomputable def D : Fd := ⟨Try.f50, 1, .bool, .sh, [.sh, .sh], .unit, h38⟩
noncomputable def C (k : Nat) : Ctx := cx [(62, impl_SystemValid.sem k), (77, impl_factsOk_1.sem k), (76, slices_ContainsFunc_impl_Term_impl_Term.sem k)] [] [] [] [] [] []
noncomputable def sem (k : Nat) : Sem := D.sem (D.ev (C k) k)
noncomputable def f (k : Nat) (p0 : y7) (p1 : y3) : Option (Bool × Unit) := D.ev (C k) k (p0, p1, ())
theorem s (k : Nat) (p0 : y7) (p1 : y3) : f k p0 p1 =
 ((impl_SystemValid.f k p0).bind fun r1 =>
 if r1.1 = true then
  if (decide (((p1.length : Int)) ≤ 4)) = true then
   (slices_ContainsFunc_impl_Term_impl_Term.f k p1 (fun p => (impl_factsOk_1.f k p p0).bind fun r => some r.1)).bind fun r2 =>
   some (!r2.1, ())
  else
   some (false, ())
 else
  some (false, ())) := by kernel_rfl
theorem ok (k : Nat) : Ok Try.prog 50 (sem k) := Fd.ok (cx_ok ⟨impl_SystemValid.ok k, impl_factsOk_1.ok k, slices_ContainsFunc_impl_Term_impl_Term.ok k, trivial⟩) ⟨Try.func50, rfl, by kernel_rfl⟩ rfl
attribute [irreducible] f
end impl_factsOk
/-! loop.example/wholecheck/impl.stateAt -/
namespace impl_stateAt
noncomputable def D : Fd := ⟨Try.f81, 1, h9, (.ow .sh), [.sh, .sh], .unit, h21⟩
noncomputable def C (k : Nat) : Ctx := cx [] [] [(3, [(1, none), (2, none), (5, none), (6, none)])] [] [(7, [0, 1, 2, 3, 4, 5, 6, 7, 8, 9])] [] []
noncomputable def sem (k : Nat) : Sem := D.sem (D.ev (C k) k)
noncomputable def f (k : Nat) (p0 : y7) (p1 : Int) : Option ((List Int) × Unit) := D.ev (C k) k (p0, p1, ())
noncomputable def l3 (k : Nat) (p0 : y7) (n : Nat) (v1_3 : Int) (v5_3 : (List Int)) (v6_3 : Int) : Option ((List Int) × Unit) :=
 D.lp (C k) k 3 [1, 1, 0, 1, 0] [] n [(6, vI v6_3), (5, vO h9 v5_3), (2, .val h37 (.ow .sh) p0), (1, vI v1_3)]
theorem s3 (k : Nat) (p0 : y7) (n : Nat) (v1_3 : Int) (v5_3 : (List Int)) (v6_3 : Int) : l3 k p0 (n + 1) v1_3 v5_3 v6_3 =
 (if (decide (v6_3 ≥ 0)) = true then
  gd ((0 : Int) ≤ v6_3) <| gd (v6_3 < (p0.1.length : Int)) <| gd (((w64 ((w64 ((p0.1.getD (v6_3.toNat) (0, (0, 0))).2.1 - (p0.1.getD (v6_3.toNat) (0, (0, 0))).1)) + 1)) : Int) ≠ 0) <| gd ((0 : Int) ≤ v6_3) <| gd (v6_3 < (v5_3.length : Int)) <| gd (((w64 ((w64 ((p0.1.getD (v6_3.toNat) (0, (0, 0))).2.1 - (p0.1.getD (v6_3.toNat) (0, (0, 0))).1)) + 1)) : Int) ≠ 0) <| l3 k p0 n (w64 (v1_3.tdiv (w64 ((w64 ((p0.1.getD (v6_3.toNat) (0, (0, 0))).2.1 - (p0.1.getD (v6_3.toNat) (0, (0, 0))).1)) + 1)))) (v5_3.set (v6_3.toNat) (w64 ((p0.1.getD (v6_3.toNat) (0, (0, 0))).1 + (v1_3.tmod (w64 ((w64 ((p0.1.getD (v6_3.toNat) (0, (0, 0))).2.1 - (p0.1.getD (v6_3.toNat) (0, (0, 0))).1)) + 1)))))) (w64 (v6_3 - 1))
 else
  some (v5_3, ())) := by kernel_rfl
theorem z3 (k : Nat) (p0 : y7) (v1_3 : Int) (v5_3 : (List Int)) (v6_3 : Int) : l3 k p0 0 v1_3 v5_3 v6_3 = none := by kernel_rfl
theorem s (k : Nat) (p0 : y7) (p1 : Int) : f k p0 p1 =
 (gd ((0 : Int) ≤ ((p0.1.length : Int))) <| gd (((p0.1.length : Int)) ≤ 1099511627776) <| l3 k p0 k p1 ((List.replicate ((p0.1.length : Int)).toNat 0 : (List Int))) (w64 (((((List.replicate ((p0.1.length : Int)).toNat 0 : (List Int))).length : Int)) - 1))) := by kernel_rfl
theorem ok (k : Nat) : Ok Try.prog 81 (sem k) := Fd.ok (cx_ok trivial) ⟨Try.func81, rfl, by kernel_rfl⟩ rfl
attribute [irreducible] f l3
end impl_stateAt
/-! loop.example/wholecheck/impl.held -/
namespace impl_held
noncomputable def D : Fd := ⟨Try.f105, 1, I, .sh, [.sh], .unit, h3⟩
noncomputable def C (k : Nat) : Ctx := cx [] [] [] [] [] [] []
noncomputable def sem (k : Nat) : Sem := D.sem (D.ev (C k) k)
noncomputable def f (k : Nat) (p0 : Int) : Option (Int × Unit) := D.ev (C k) k (p0, ())
theorem s (k : Nat) (p0 : Int) : f k p0 =
 (some (mx (-9999) (mn 9999 p0), ())) := by kernel_rfl
theorem ok (k : Nat) : Ok Try.prog 105 (sem k) := Fd.ok (cx_ok trivial) ⟨Try.func105, rfl, by kernel_rfl⟩ rfl
attribute [irreducible] f
end impl_held
/-! loop.example/wholecheck/impl.bit -/
namespace impl_bit
noncomputable def D : Fd := ⟨Try.f67, 1, I, .sh, [.sh], .unit, h39⟩
noncomputable def C (k : Nat) : Ctx := cx [] [] [] [] [] [] []
noncomputable def sem (k : Nat) : Sem := D.sem (D.ev (C k) k)
noncomputable def f (k : Nat) (p0 : Bool) : Option (Int × Unit) := D.ev (C k) k (p0, ())
theorem s (k : Nat) (p0 : Bool) : f k p0 =
 (if p0 = true then
  some (1, ())
 else
  some (0, ())) := by kernel_rfl
theorem ok (k : Nat) : Ok Try.prog 67 (sem k) := Fd.ok (cx_ok trivial) ⟨Try.func67, rfl, by kernel_rfl⟩ rfl
attribute [irreducible] f
end impl_bit
/-! loop.example/wholecheck/impl.do -/
namespace impl_do
noncomputable def D : Fd := ⟨Try.f102, 1, I, .sh, [.sh, .sh, .sh], .unit, h32⟩
noncomputable def C (k : Nat) : Ctx := cx [(105, impl_held.sem k), (67, impl_bit.sem k)] [] [] [] [] [] []
noncomputable def sem (k : Nat) : Sem := D.sem (D.ev (C k) k)
noncomputable def f (k : Nat) (p0 p1 p2 : Int) : Option (Int × Unit) := D.ev (C k) k (p0, p1, p2, ())
theorem s (k : Nat) (p0 p1 p2 : Int) : f k p0 p1 p2 =
 (if (p0 == 2) = true then
  (impl_held.f k (w64 (p1 + p2))).bind fun r1 =>
  some (r1.1, ())
 else
  if (p0 == 3) = true then
   (impl_held.f k (w64 (p1 - p2))).bind fun r2 =>
   some (r2.1, ())
  else
   if (p0 == 4) = true then
    (impl_held.f k (w64 (p1 * p2))).bind fun r3 =>
    some (r3.1, ())
   else
    if (p0 == 5) = true then
     (impl_bit.f k (decide (p1 < p2))).bind fun r4 =>
     some (r4.1, ())
    else
     if (p0 == 6) = true then
      (impl_bit.f k (p1 == p2)).bind fun r5 =>
      some (r5.1, ())
     else
      if (p0 == 7) = true then
       some (w64 (1 - p1), ())
      else
       if (p0 == 8) = true then
        some (mn p1 p2, ())
       else
        some (mx p1 p2, ())) := by kernel_rfl
theorem ok (k : Nat) : Ok Try.prog 102 (sem k) := Fd.ok (cx_ok ⟨impl_held.ok k, impl_bit.ok k, trivial⟩) ⟨Try.func102, rfl, by kernel_rfl⟩ rfl
attribute [irreducible] f
end impl_do
/-! loop.example/wholecheck/impl.eval -/
namespace impl_eval
noncomputable def D : Fd := ⟨Try.f96, 1, I, .sh, [.sh, .sh], .unit, h40⟩
noncomputable def C (k : Nat) : Ctx := cx [(102, impl_do.sem k)] [] [(3, [(1, none), (5, none), (11, none), (12, none), (13, none)])] [] [(6, [0, 1, 2, 3, 4, 5, 6, 7, 8, 9, 10, 11, 12, 13, 14, 15, 16])] [] []
noncomputable def sem (k : Nat) : Sem := D.sem (D.ev (C k) k)
noncomputable def f (k : Nat) (p0 : y2) (p1 : (List Int)) : Option (Int × Unit) := D.ev (C k) k (p0, p1, ())
noncomputable def l3 (k : Nat) (p0 : y2) (p1 : (List Int)) (n : Nat) (v5_3 : (List Int)) (v13_3 : Int) : Option (Int × Unit) :=
 D.lp (C k) k 3 [1, 1, 0, 1, 0] [] n [(13, vI v13_3), (12, vI ((p0.length : Int))), (11, vS h7 p0), (5, vO h9 v5_3), (1, vS h9 p1)]
theorem s3 (k : Nat) (p0 : y2) (p1 : (List Int)) (n : Nat) (v5_3 : (List Int)) (v13_3 : Int) : l3 k p0 p1 (n + 1) v5_3 v13_3 =
 (if (decide (v13_3 < ((p0.length : Int)))) = true then
  gd ((0 : Int) ≤ v13_3) <| gd (v13_3 < (p0.length : Int)) <| if ((p0.getD (v13_3.toNat) (0, (0, (0, 0)))).1 == 0) = true then
   gd ((0 : Int) ≤ v13_3) <| gd (v13_3 < (v5_3.length : Int)) <| l3 k p0 p1 n (v5_3.set (v13_3.toNat) (p0.getD (v13_3.toNat) (0, (0, (0, 0)))).2.1) (w64 (v13_3 + 1))
  else
   if ((p0.getD (v13_3.toNat) (0, (0, (0, 0)))).1 == 1) = true then
    gd ((0 : Int) ≤ (p0.getD (v13_3.toNat) (0, (0, (0, 0)))).2.1) <| gd ((p0.getD (v13_3.toNat) (0, (0, (0, 0)))).2.1 < (p1.length : Int)) <| gd ((0 : Int) ≤ v13_3) <| gd (v13_3 < (v5_3.length : Int)) <| l3 k p0 p1 n (v5_3.set (v13_3.toNat) (p1.getD ((p0.getD (v13_3.toNat) (0, (0, (0, 0)))).2.1.toNat) 0)) (w64 (v13_3 + 1))
   else
    gd ((0 : Int) ≤ (p0.getD (v13_3.toNat) (0, (0, (0, 0)))).2.2.1) <| gd ((p0.getD (v13_3.toNat) (0, (0, (0, 0)))).2.2.1 < (v5_3.length : Int)) <| gd ((0 : Int) ≤ (p0.getD (v13_3.toNat) (0, (0, (0, 0)))).2.2.2) <| gd ((p0.getD (v13_3.toNat) (0, (0, (0, 0)))).2.2.2 < (v5_3.length : Int)) <| (impl_do.f k (p0.getD (v13_3.toNat) (0, (0, (0, 0)))).1 (v5_3.getD ((p0.getD (v13_3.toNat) (0, (0, (0, 0)))).2.2.1.toNat) 0) (v5_3.getD ((p0.getD (v13_3.toNat) (0, (0, (0, 0)))).2.2.2.toNat) 0)).bind fun r1 =>
    gd ((0 : Int) ≤ v13_3) <| gd (v13_3 < (v5_3.length : Int)) <| l3 k p0 p1 n (v5_3.set (v13_3.toNat) r1.1) (w64 (v13_3 + 1))
 else
  gd ((0 : Int) ≤ (w64 (((v5_3.length : Int)) - 1))) <| gd ((w64 (((v5_3.length : Int)) - 1)) < (v5_3.length : Int)) <| some (v5_3.getD ((w64 (((v5_3.length : Int)) - 1)).toNat) 0, ())) := by kernel_rfl
theorem z3 (k : Nat) (p0 : y2) (p1 : (List Int)) (v5_3 : (List Int)) (v13_3 : Int) : l3 k p0 p1 0 v5_3 v13_3 = none := by kernel_rfl
theorem s (k : Nat) (p0 : y2) (p1 : (List Int)) : f k p0 p1 =
 (gd ((0 : Int) ≤ ((p0.length : Int))) <| gd (((p0.length : Int)) ≤ 1099511627776) <| l3 k p0 p1 k ((List.replicate ((p0.length : Int)).toNat 0 : (List Int))) 0) := by kernel_rfl
theorem ok (k : Nat) : Ok Try.prog 96 (sem k) := Fd.ok (cx_ok ⟨impl_do.ok k, trivial⟩) ⟨Try.func96, rfl, by kernel_rfl⟩ rfl
attribute [irreducible] f l3
end impl_eval
/-! loop.example/wholecheck/impl.letters -/
namespace impl_letters
noncomputable def D : Fd := ⟨Try.f80, 1, h9, (.ow .sh), [.sh, .sh], .unit, h41⟩
noncomputable def C (k : Nat) : Ctx := cx [(96, impl_eval.sem k)] [] [(3, [(1, none), (5, none), (11, none), (12, none), (13, none)])] [] [] [] []
noncomputable def sem (k : Nat) : Sem := D.sem (D.ev (C k) k)
noncomputable def f (k : Nat) (p0 : y3) (p1 : (List Int)) : Option ((List Int) × Unit) := D.ev (C k) k (p0, p1, ())
noncomputable def l3 (k : Nat) (p0 : y3) (p1 : (List Int)) (n : Nat) (v5_3 : (List Int)) (v13_3 : Int) : Option ((List Int) × Unit) :=
 D.lp (C k) k 3 [1, 1, 0, 1, 0] [] n [(13, vI v13_3), (12, vI ((p0.length : Int))), (11, vS h11 p0), (5, vO h9 v5_3), (1, vS h9 p1)]
theorem s3 (k : Nat) (p0 : y3) (p1 : (List Int)) (n : Nat) (v5_3 : (List Int)) (v13_3 : Int) : l3 k p0 p1 (n + 1) v5_3 v13_3 =
 (if (decide (v13_3 < ((p0.length : Int)))) = true then
  gd ((0 : Int) ≤ v13_3) <| gd (v13_3 < (p0.length : Int)) <| (impl_eval.f k (p0.getD (v13_3.toNat) []) p1).bind fun r1 =>
  gd ((0 : Int) ≤ v13_3) <| gd (v13_3 < (v5_3.length : Int)) <| l3 k p0 p1 n (v5_3.set (v13_3.toNat) r1.1) (w64 (v13_3 + 1))
 else
  some (v5_3, ())) := by kernel_rfl
theorem z3 (k : Nat) (p0 : y3) (p1 : (List Int)) (v5_3 : (List Int)) (v13_3 : Int) : l3 k p0 p1 0 v5_3 v13_3 = none := by kernel_rfl
theorem s (k : Nat) (p0 : y3) (p1 : (List Int)) : f k p0 p1 =
 (gd ((0 : Int) ≤ ((p0.length : Int))) <| gd (((p0.length : Int)) ≤ 1099511627776) <| l3 k p0 p1 k ((List.replicate ((p0.length : Int)).toNat 0 : (List Int))) 0) := by kernel_rfl
theorem ok (k : Nat) : Ok Try.prog 80 (sem k) := Fd.ok (cx_ok ⟨impl_eval.ok k, trivial⟩) ⟨Try.func80, rfl, by kernel_rfl⟩ rfl
attribute [irreducible] f l3
end impl_letters
/-! loop.example/wholecheck/impl.lettersAll -/
namespace impl_lettersAll
noncomputable def D : Fd := ⟨Try.f51, 1, h61, (.ow (.ow .sh)), [.sh, .sh], .unit, h38⟩
noncomputable def C (k : Nat) : Ctx := cx [(79, impl_size.sem k), (81, impl_stateAt.sem k), (80, impl_letters.sem k)] [] [(3, [(1, none), (2, none), (5, none), (9, none), (10, none)])] [] [] [] []
noncomputable def sem (k : Nat) : Sem := D.sem (D.ev (C k) k)
noncomputable def f (k : Nat) (p0 : y7) (p1 : y3) : Option ((List (List Int)) × Unit) := D.ev (C k) k (p0, p1, ())
noncomputable def l3 (k : Nat) (p0 : y7) (p1 : y3) (n : Nat) (v5_3 : (List (List Int))) (v9_3 v10_3 : Int) : Option ((List (List Int)) × Unit) :=
 D.lp (C k) k 3 [1, 1, 0, 1, 0] [] n [(10, vI v10_3), (9, vI v9_3), (5, vO h61 v5_3), (2, .val h37 (.ow .sh) p0), (1, vS h11 p1)]
theorem s3 (k : Nat) (p0 : y7) (p1 : y3) (n : Nat) (v5_3 : (List (List Int))) (v9_3 v10_3 : Int) : l3 k p0 p1 (n + 1) v5_3 v9_3 v10_3 =
 (if (decide (v10_3 < v9_3)) = true then
  (impl_stateAt.f k p0 v10_3).bind fun r2 =>
  (impl_letters.f k p1 r2.1).bind fun r3 =>
  gd ((v5_3.length : Int) + ([r3.1].length : Int) ≤ 1099511627776) <| l3 k p0 p1 n (v5_3 ++ [r3.1]) v9_3 (w64 (v10_3 + 1))
 else
  some (v5_3, ())) := by kernel_rfl
theorem z3 (k : Nat) (p0 : y7) (p1 : y3) (v5_3 : (List (List Int))) (v9_3 v10_3 : Int) : l3 k p0 p1 0 v5_3 v9_3 v10_3 = none := by kernel_rfl
theorem s (k : Nat) (p0 : y7) (p1 : y3) : f k p0 p1 =
 ((impl_size.f k p0.1).bind fun r1 =>
 l3 k p0 p1 k [] r1.1 0) := by kernel_rfl
theorem ok (k : Nat) : Ok Try.prog 51 (sem k) := Fd.ok (cx_ok ⟨impl_size.ok k, impl_stateAt.ok k, impl_letters.ok k, trivial⟩) ⟨Try.func51, rfl, by kernel_rfl⟩ rfl
attribute [irreducible] f l3
end impl_lettersAll
/-! loop.example/wholecheck/impl.bitsValue -/
namespace impl_bitsValue
noncomputable def D : Fd := ⟨Try.f54, 1, I, .sh, [.sh], .unit, h26⟩
noncomputable def C (k : Nat) : Ctx := cx [] [] [(3, [(3, none), (6, none), (7, none), (8, none)])] [] [] [] []
noncomputable def sem (k : Nat) : Sem := D.sem (D.ev (C k) k)
noncomputable def f (k : Nat) (p0 : (List Int)) : Option (Int × Unit) := D.ev (C k) k (p0, ())
noncomputable def l3 (k : Nat) (p0 : (List Int)) (n : Nat) (v3_3 v8_3 : Int) : Option (Int × Unit) :=
 D.lp (C k) k 3 [1, 1, 0, 1, 0] [] n [(8, vI v8_3), (7, vI ((p0.length : Int))), (6, vS h9 p0), (3, vI v3_3)]
theorem s3 (k : Nat) (p0 : (List Int)) (n : Nat) (v3_3 v8_3 : Int) : l3 k p0 (n + 1) v3_3 v8_3 =
 (if (decide (v8_3 < ((p0.length : Int)))) = true then
  gd ((0 : Int) ≤ v8_3) <| gd (v8_3 < (p0.length : Int)) <| l3 k p0 n (w64 ((w64 (2 * v3_3)) + (p0.getD (v8_3.toNat) 0))) (w64 (v8_3 + 1))
 else
  some (v3_3, ())) := by kernel_rfl
theorem z3 (k : Nat) (p0 : (List Int)) (v3_3 v8_3 : Int) : l3 k p0 0 v3_3 v8_3 = none := by kernel_rfl
theorem s (k : Nat) (p0 : (List Int)) : f k p0 =
 (l3 k p0 k 0 0) := by kernel_rfl
theorem ok (k : Nat) : Ok Try.prog 54 (sem k) := Fd.ok (cx_ok trivial) ⟨Try.func54, rfl, by kernel_rfl⟩ rfl
attribute [irreducible] f l3
end impl_bitsValue
/-! loop.example/wholecheck/impl.BlocksBy$1 -/
namespace impl_BlocksBy_1
noncomputable def D : Fd := ⟨Try.f53, 1, I, .sh, [.sh, .sh], .unit, h64⟩
noncomputable def C (k : Nat) : Ctx := cx [(54, impl_bitsValue.sem k)] [] [] [] [] [] []
noncomputable def sem (k : Nat) : Sem := D.sem (D.ev (C k) k)
noncomputable def f (k : Nat) (p0 : Int) (p1 : (List (List Int))) : Option (Int × Unit) := D.ev (C k) k (p0, p1, ())
theorem s (k : Nat) (p0 : Int) (p1 : (List (List Int))) : f k p0 p1 =
 (gd ((0 : Int) ≤ p0) <| gd (p0 < (p1.length : Int)) <| (impl_bitsValue.f k (p1.getD (p0.toNat) [])).bind fun r1 =>
 some (r1.1, ())) := by kernel_rfl
theorem ok (k : Nat) : Ok Try.prog 53 (sem k) := Fd.ok (cx_ok ⟨impl_bitsValue.ok k, trivial⟩) ⟨Try.func53, rfl, by kernel_rfl⟩ rfl
attribute [irreducible] f
end impl_BlocksBy_1
/-! loop.example/wholecheck/impl.clone[int] -/
namespace impl_clone_int
noncomputable def D : Fd := ⟨Try.f82, 1, h9, (.ow .sh), [.sh], .unit, h26⟩
noncomputable def C (k : Nat) : Ctx := cx [] [] [] [] [] [] []
noncomputable def sem (k : Nat) : Sem := D.sem (D.ev (C k) k)
noncomputable def f (k : Nat) (p0 : (List Int)) : Option ((List Int) × Unit) := D.ev (C k) k (p0, ())
theorem s (k : Nat) (p0 : (List Int)) : f k p0 =
 (if (((p0.length : Int)) == 0) = true then
  some ([], ())
 else
  gd ((0 : Int) ≤ ((p0.length : Int))) <| gd (((p0.length : Int)) ≤ 1099511627776) <| some (p0.take ((List.replicate ((p0.length : Int)).toNat 0 : (List Int))).length ++ ((List.replicate ((p0.length : Int)).toNat 0 : (List Int))).drop p0.length, ())) := by kernel_rfl
theorem ok (k : Nat) : Ok Try.prog 82 (sem k) := Fd.ok (cx_ok trivial) ⟨Try.func82, rfl, by kernel_rfl⟩ rfl
attribute [irreducible] f
end impl_clone_int
/-! loop.example/wholecheck/impl.blocksOf[int] -/
namespace impl_blocksOf_int
noncomputable def D : Fd := ⟨Try.f52, 1, h43, (.ag (.ow .sh)), [.sh, .sh], .unit, h66⟩
noncomputable def C (k : Nat) : Ctx := cx [(82, impl_clone_int.sem k)] [] [(4, [(1, none), (4, none), (5, none), (6, none), (15, none), (16, none)])] [] [] [] []
noncomputable def sem (k : Nat) : Sem := D.sem (D.ev (C k) k)
noncomputable def f (k : Nat) (p0 : Int) (p1 : (Int → Option Int)) : Option ((List Int) × Unit) := D.ev (C k) k (p0, p1, ())
noncomputable def l4 (k : Nat) (p0 : Int) (p1 : (Int → Option Int)) (n : Nat) (v5_4 : (List (Int × Int))) (v6_4 : (List Int)) (v16_4 : Int) : Option ((List Int) × Unit) :=
 D.lp (C k) k 4 [1, 1, 1, 0, 1, 0] [] n [(16, vI v16_4), (15, vI ((((List.replicate p0.toNat 0 : (List Int))).length : Int))), (6, vO h9 v6_4), (5, vO (.map I I) v5_4), (4, vO h46 []), (1, vS (.func I I) p1)]
theorem s4 (k : Nat) (p0 : Int) (p1 : (Int → Option Int)) (n : Nat) (v5_4 : (List (Int × Int))) (v6_4 : (List Int)) (v16_4 : Int) : l4 k p0 p1 (n + 1) v5_4 v6_4 v16_4 =
 (if (decide (v16_4 < ((((List.replicate p0.toNat 0 : (List Int))).length : Int)))) = true then
  (p1 v16_4).bind fun r1 =>
  if (!((mget I I v5_4 r1).isSome)) = true then
   gd ((0 : Int) ≤ v16_4) <| gd (v16_4 < (v6_4.length : Int)) <| l4 k p0 p1 n (mput I I v5_4 r1 v16_4) (v6_4.set (v16_4.toNat) ((mget I I (mput I I v5_4 r1 v16_4) r1).getD 0)) (w64 (v16_4 + 1))
  else
   gd ((0 : Int) ≤ v16_4) <| gd (v16_4 < (v6_4.length : Int)) <| l4 k p0 p1 n v5_4 (v6_4.set (v16_4.toNat) ((mget I I v5_4 r1).getD 0)) (w64 (v16_4 + 1))
 else
  (impl_clone_int.f k v6_4).bind fun r2 =>
  some (r2.1, ())) := by kernel_rfl
theorem z4 (k : Nat) (p0 : Int) (p1 : (Int → Option Int)) (v5_4 : (List (Int × Int))) (v6_4 : (List Int)) (v16_4 : Int) : l4 k p0 p1 0 v5_4 v6_4 v16_4 = none := by kernel_rfl
theorem s (k : Nat) (p0 : Int) (p1 : (Int → Option Int)) : f k p0 p1 =
 (gd ((0 : Int) ≤ p0) <| gd (p0 ≤ 1099511627776) <| l4 k p0 p1 k [] ((List.replicate p0.toNat 0 : (List Int))) 0) := by kernel_rfl
theorem ok (k : Nat) : Ok Try.prog 52 (sem k) := Fd.ok (cx_ok ⟨impl_clone_int.ok k, trivial⟩) ⟨Try.func52, rfl, by kernel_rfl⟩ rfl
attribute [irreducible] f l4
end impl_blocksOf_int
/-! loop.example/wholecheck/impl.BlocksBy -/
namespace impl_BlocksBy
noncomputable def D : Fd := ⟨Try.f22, 2, h47, (.pr (.ag (.ow .sh)) .sh), [.sh, .sh], .unit, h38⟩
noncomputable def C (k : Nat) : Ctx := cx [(50, impl_factsOk.sem k), (51, impl_lettersAll.sem k), (53, impl_BlocksBy_1.sem k), (52, impl_blocksOf_int.sem k)] [] [] [] [] [] []
noncomputable def sem (k : Nat) : Sem := D.sem (D.ev (C k) k)
noncomputable def f (k : Nat) (p0 : y7) (p1 : y3) : Option (((List Int) × Bool) × Unit) := D.ev (C k) k (p0, p1, ())
theorem s (k : Nat) (p0 : y7) (p1 : y3) : f k p0 p1 =
 ((impl_factsOk.f k p0 p1).bind fun r1 =>
 if (!r1.1) = true then
  some (([], false), ())
 else
  (impl_lettersAll.f k p0 p1).bind fun r2 =>
  (impl_blocksOf_int.f k ((r2.1.length : Int)) (fun p => (impl_BlocksBy_1.f k p r2.1).bind fun r => some r.1)).bind fun r3 =>
  some ((r3.1, true), ())) := by kernel_rfl
theorem ok (k : Nat) : Ok Try.prog 22 (sem k) := Fd.ok (cx_ok ⟨impl_factsOk.ok k, impl_lettersAll.ok k, impl_BlocksBy_1.ok k, impl_blocksOf_int.ok k, trivial⟩) ⟨Try.func22, rfl, by kernel_rfl⟩ rfl
attribute [irreducible] f
end impl_BlocksBy
/-! loop.example/wholecheck/laws.eqIntS -/
namespace laws_eqIntS
noncomputable def D : Fd := ⟨Try.f14, 1, .bool, .sh, [.sh, .sh], .unit, h42⟩
noncomputable def C (k : Nat) : Ctx := cx [] [] [(4, [(0, none), (1, none), (5, none)])] [] [(6, [0, 1, 2, 3, 4, 5, 6, 7, 8])] [] []
noncomputable def sem (k : Nat) : Sem := D.sem (D.ev (C k) k)
noncomputable def f (k : Nat) (p0 p1 : (List Int)) : Option (Bool × Unit) := D.ev (C k) k (p0, p1, ())
noncomputable def l4 (k : Nat) (p0 p1 : (List Int)) (n : Nat) (v5_4 : Int) : Option (Bool × Unit) :=
 D.lp (C k) k 4 [1, 1, 0, 1, 0] [] n [(5, vI v5_4), (1, vS h9 p1), (0, vS h9 p0)]
theorem s4 (k : Nat) (p0 p1 : (List Int)) (n : Nat) (v5_4 : Int) : l4 k p0 p1 (n + 1) v5_4 =
 (if (decide (v5_4 < ((p0.length : Int)))) = true then
  gd ((0 : Int) ≤ v5_4) <| gd (v5_4 < (p0.length : Int)) <| gd ((0 : Int) ≤ v5_4) <| gd (v5_4 < (p1.length : Int)) <| if ((p0.getD (v5_4.toNat) 0) != (p1.getD (v5_4.toNat) 0)) = true then
   some (false, ())
  else
   l4 k p0 p1 n (w64 (v5_4 + 1))
 else
  some (true, ())) := by kernel_rfl
theorem z4 (k : Nat) (p0 p1 : (List Int)) (v5_4 : Int) : l4 k p0 p1 0 v5_4 = none := by kernel_rfl
theorem s (k : Nat) (p0 p1 : (List Int)) : f k p0 p1 =
 (if (((p0.length : Int)) != ((p1.length : Int))) = true then
  some (false, ())
 else
  l4 k p0 p1 k 0) := by kernel_rfl
theorem ok (k : Nat) : Ok Try.prog 14 (sem k) := Fd.ok (cx_ok trivial) ⟨Try.func14, rfl, by kernel_rfl⟩ rfl
attribute [irreducible] f l4
end laws_eqIntS
/-! loop.example/wholecheck/laws.eqBlocks -/
namespace laws_eqBlocks
noncomputable def D : Fd := ⟨Try.f12, 1, .bool, .sh, [.sh, .sh], .unit, h68⟩
noncomputable def C (k : Nat) : Ctx := cx [(14, laws_eqIntS.sem k)] [] [] [] [] [] []
noncomputable def sem (k : Nat) : Sem := D.sem (D.ev (C k) k)
noncomputable def f (k : Nat) (p0 p1 : (List Int)) : Option (Bool × Unit) := D.ev (C k) k (p0, p1, ())
theorem s (k : Nat) (p0 p1 : (List Int)) : f k p0 p1 =
 ((laws_eqIntS.f k p0 p1).bind fun r1 =>
 if (!r1.1) = true then
  some (false, ())
 else
  some (true, ())) := by kernel_rfl
theorem ok (k : Nat) : Ok Try.prog 12 (sem k) := Fd.ok (cx_ok ⟨laws_eqIntS.ok k, trivial⟩) ⟨Try.func12, rfl, by kernel_rfl⟩ rfl
attribute [irreducible] f
end laws_eqBlocks
/-! loop.example/wholecheck/laws.eqVar -/
namespace laws_eqVar
noncomputable def D : Fd := ⟨Try.f68, 1, .bool, .sh, [.sh, .sh], .unit, h69⟩
noncomputable def C (k : Nat) : Ctx := cx [] [] [] [] [] [] []
noncomputable def sem (k : Nat) : Sem := D.sem (D.ev (C k) k)
noncomputable def f (k : Nat) (p0 p1 : (Int × (Int × Int))) : Option (Bool × Unit) := D.ev (C k) k (p0, p1, ())
theorem s (k : Nat) (p0 p1 : (Int × (Int × Int))) : f k p0 p1 =
 (if (p0.1 != p1.1) = true then
  some (false, ())
 else
  if (p0.2.1 != p1.2.1) = true then
   some (false, ())
  else
   if (p0.2.2 != p1.2.2) = true then
    some (false, ())
   else
    some (true, ())) := by kernel_rfl
theorem ok (k : Nat) : Ok Try.prog 68 (sem k) := Fd.ok (cx_ok trivial) ⟨Try.func68, rfl, by kernel_rfl⟩ rfl
attribute [irreducible] f
end laws_eqVar
/-! loop.example/wholecheck/laws.eqVarS -/
namespace laws_eqVarS
noncomputable def D : Fd := ⟨Try.f39, 1, .bool, .sh, [.sh, .sh], .unit, h70⟩
noncomputable def C (k : Nat) : Ctx := cx [(68, laws_eqVar.sem k)] [] [(4, [(0, none), (1, none), (5, none)])] [] [(6, [0, 1, 2, 3, 4, 5, 6, 7, 8, 9])] [] []
noncomputable def sem (k : Nat) : Sem := D.sem (D.ev (C k) k)
noncomputable def f (k : Nat) (p0 p1 : y0) : Option (Bool × Unit) := D.ev (C k) k (p0, p1, ())
noncomputable def l4 (k : Nat) (p0 p1 : y0) (n : Nat) (v5_4 : Int) : Option (Bool × Unit) :=
 D.lp (C k) k 4 [1, 1, 0, 1, 0] [] n [(5, vI v5_4), (1, vS h2 p1), (0, vS h2 p0)]
theorem s4 (k : Nat) (p0 p1 : y0) (n : Nat) (v5_4 : Int) : l4 k p0 p1 (n + 1) v5_4 =
 (if (decide (v5_4 < ((p0.length : Int)))) = true then
  gd ((0 : Int) ≤ v5_4) <| gd (v5_4 < (p0.length : Int)) <| gd ((0 : Int) ≤ v5_4) <| gd (v5_4 < (p1.length : Int)) <| (laws_eqVar.f k (p0.getD (v5_4.toNat) (0, (0, 0))) (p1.getD (v5_4.toNat) (0, (0, 0)))).bind fun r1 =>
  if (!r1.1) = true then
   some (false, ())
  else
   l4 k p0 p1 n (w64 (v5_4 + 1))
 else
  some (true, ())) := by kernel_rfl
theorem z4 (k : Nat) (p0 p1 : y0) (v5_4 : Int) : l4 k p0 p1 0 v5_4 = none := by kernel_rfl
theorem s (k : Nat) (p0 p1 : y0) : f k p0 p1 =
 (if (((p0.length : Int)) != ((p1.length : Int))) = true then
  some (false, ())
 else
  l4 k p0 p1 k 0) := by kernel_rfl
theorem ok (k : Nat) : Ok Try.prog 39 (sem k) := Fd.ok (cx_ok ⟨laws_eqVar.ok k, trivial⟩) ⟨Try.func39, rfl, by kernel_rfl⟩ rfl
attribute [irreducible] f l4
end laws_eqVarS
/-! loop.example/wholecheck/laws.eqTerm -/
namespace laws_eqTerm
noncomputable def D : Fd := ⟨Try.f83, 1, .bool, .sh, [.sh, .sh], .unit, h71⟩
noncomputable def C (k : Nat) : Ctx := cx [] [] [] [] [] [] []
noncomputable def sem (k : Nat) : Sem := D.sem (D.ev (C k) k)
noncomputable def f (k : Nat) (p0 p1 : y1) : Option (Bool × Unit) := D.ev (C k) k (p0, p1, ())
theorem s (k : Nat) (p0 p1 : y1) : f k p0 p1 =
 (if (p0.1 != p1.1) = true then
  some (false, ())
 else
  if (p0.2.1 != p1.2.1) = true then
   some (false, ())
  else
   if (p0.2.2.1 != p1.2.2.1) = true then
    some (false, ())
   else
    if (p0.2.2.2 != p1.2.2.2) = true then
     some (false, ())
    else
     some (true, ())) := by kernel_rfl
theorem ok (k : Nat) : Ok Try.prog 83 (sem k) := Fd.ok (cx_ok trivial) ⟨Try.func83, rfl, by kernel_rfl⟩ rfl
attribute [irreducible] f
end laws_eqTerm
/-! loop.example/wholecheck/laws.eqTermS -/
namespace laws_eqTermS
noncomputable def D : Fd := ⟨Try.f55, 1, .bool, .sh, [.sh, .sh], .unit, h72⟩
noncomputable def C (k : Nat) : Ctx := cx [(83, laws_eqTerm.sem k)] [] [(4, [(0, none), (1, none), (5, none)])] [] [(6, [0, 1, 2, 3, 4, 5, 6, 7, 8, 9])] [] []
noncomputable def sem (k : Nat) : Sem := D.sem (D.ev (C k) k)
noncomputable def f (k : Nat) (p0 p1 : y2) : Option (Bool × Unit) := D.ev (C k) k (p0, p1, ())
noncomputable def l4 (k : Nat) (p0 p1 : y2) (n : Nat) (v5_4 : Int) : Option (Bool × Unit) :=
 D.lp (C k) k 4 [1, 1, 0, 1, 0] [] n [(5, vI v5_4), (1, vS h7 p1), (0, vS h7 p0)]
theorem s4 (k : Nat) (p0 p1 : y2) (n : Nat) (v5_4 : Int) : l4 k p0 p1 (n + 1) v5_4 =
 (if (decide (v5_4 < ((p0.length : Int)))) = true then
  gd ((0 : Int) ≤ v5_4) <| gd (v5_4 < (p0.length : Int)) <| gd ((0 : Int) ≤ v5_4) <| gd (v5_4 < (p1.length : Int)) <| (laws_eqTerm.f k (p0.getD (v5_4.toNat) (0, (0, (0, 0)))) (p1.getD (v5_4.toNat) (0, (0, (0, 0))))).bind fun r1 =>
  if (!r1.1) = true then
   some (false, ())
  else
   l4 k p0 p1 n (w64 (v5_4 + 1))
 else
  some (true, ())) := by kernel_rfl
theorem z4 (k : Nat) (p0 p1 : y2) (v5_4 : Int) : l4 k p0 p1 0 v5_4 = none := by kernel_rfl
theorem s (k : Nat) (p0 p1 : y2) : f k p0 p1 =
 (if (((p0.length : Int)) != ((p1.length : Int))) = true then
  some (false, ())
 else
  l4 k p0 p1 k 0) := by kernel_rfl
theorem ok (k : Nat) : Ok Try.prog 55 (sem k) := Fd.ok (cx_ok ⟨laws_eqTerm.ok k, trivial⟩) ⟨Try.func55, rfl, by kernel_rfl⟩ rfl
attribute [irreducible] f l4
end laws_eqTermS
/-! loop.example/wholecheck/laws.eqTermSS -/
namespace laws_eqTermSS
noncomputable def D : Fd := ⟨Try.f23, 1, .bool, .sh, [.sh, .sh], .unit, h73⟩
noncomputable def C (k : Nat) : Ctx := cx [(55, laws_eqTermS.sem k)] [] [(4, [(0, none), (1, none), (5, none)])] [] [(6, [0, 1, 2, 3, 4, 5, 6, 7, 8, 9])] [] []
noncomputable def sem (k : Nat) : Sem := D.sem (D.ev (C k) k)
noncomputable def f (k : Nat) (p0 p1 : y3) : Option (Bool × Unit) := D.ev (C k) k (p0, p1, ())
noncomputable def l4 (k : Nat) (p0 p1 : y3) (n : Nat) (v5_4 : Int) : Option (Bool × Unit) :=
 D.lp (C k) k 4 [1, 1, 0, 1, 0] [] n [(5, vI v5_4), (1, vS h11 p1), (0, vS h11 p0)]
theorem s4 (k : Nat) (p0 p1 : y3) (n : Nat) (v5_4 : Int) : l4 k p0 p1 (n + 1) v5_4 =
 (if (decide (v5_4 < ((p0.length : Int)))) = true then
  gd ((0 : Int) ≤ v5_4) <| gd (v5_4 < (p0.length : Int)) <| gd ((0 : Int) ≤ v5_4) <| gd (v5_4 < (p1.length : Int)) <| (laws_eqTermS.f k (p0.getD (v5_4.toNat) []) (p1.getD (v5_4.toNat) [])).bind fun r1 =>
  if (!r1.1) = true then
   some (false, ())
  else
   l4 k p0 p1 n (w64 (v5_4 + 1))
 else
  some (true, ())) := by kernel_rfl
theorem z4 (k : Nat) (p0 p1 : y3) (v5_4 : Int) : l4 k p0 p1 0 v5_4 = none := by kernel_rfl
theorem s (k : Nat) (p0 p1 : y3) : f k p0 p1 =
 (if (((p0.length : Int)) != ((p1.length : Int))) = true then
  some (false, ())
 else
  l4 k p0 p1 k 0) := by kernel_rfl
theorem ok (k : Nat) : Ok Try.prog 23 (sem k) := Fd.ok (cx_ok ⟨laws_eqTermS.ok k, trivial⟩) ⟨Try.func23, rfl, by kernel_rfl⟩ rfl
attribute [irreducible] f l4
end laws_eqTermSS
/-! loop.example/wholecheck/laws.eqRule -/
namespace laws_eqRule
noncomputable def D : Fd := ⟨Try.f69, 1, .bool, .sh, [.sh, .sh], .unit, h74⟩
noncomputable def C (k : Nat) : Ctx := cx [(55, laws_eqTermS.sem k), (14, laws_eqIntS.sem k), (23, laws_eqTermSS.sem k)] [] [] [] [] [] []
noncomputable def sem (k : Nat) : Sem := D.sem (D.ev (C k) k)
noncomputable def f (k : Nat) (p0 p1 : y5) : Option (Bool × Unit) := D.ev (C k) k (p0, p1, ())
theorem s (k : Nat) (p0 p1 : y5) : f k p0 p1 =
 ((laws_eqTermS.f k p0.1 p1.1).bind fun r1 =>
 if (!r1.1) = true then
  some (false, ())
 else
  (laws_eqIntS.f k p0.2.1 p1.2.1).bind fun r2 =>
  if (!r2.1) = true then
   some (false, ())
  else
   (laws_eqTermSS.f k p0.2.2 p1.2.2).bind fun r3 =>
   if (!r3.1) = true then
    some (false, ())
   else
    some (true, ())) := by kernel_rfl
theorem ok (k : Nat) : Ok Try.prog 69 (sem k) := Fd.ok (cx_ok ⟨laws_eqTermS.ok k, laws_eqIntS.ok k, laws_eqTermSS.ok k, trivial⟩) ⟨Try.func69, rfl, by kernel_rfl⟩ rfl
attribute [irreducible] f
end laws_eqRule
/-! loop.example/wholecheck/laws.eqRuleS -/
namespace laws_eqRuleS
noncomputable def D : Fd := ⟨Try.f40, 1, .bool, .sh, [.sh, .sh], .unit, h75⟩
noncomputable def C (k : Nat) : Ctx := cx [(69, laws_eqRule.sem k)] [] [(4, [(0, none), (1, none), (5, none)])] [] [(6, [0, 1, 2, 3, 4, 5, 6, 7, 8, 9])] [] []
noncomputable def sem (k : Nat) : Sem := D.sem (D.ev (C k) k)
noncomputable def f (k : Nat) (p0 p1 : y6) : Option (Bool × Unit) := D.ev (C k) k (p0, p1, ())
noncomputable def l4 (k : Nat) (p0 p1 : y6) (n : Nat) (v5_4 : Int) : Option (Bool × Unit) :=
 D.lp (C k) k 4 [1, 1, 0, 1, 0] [] n [(5, vI v5_4), (1, vS h17 p1), (0, vS h17 p0)]
theorem s4 (k : Nat) (p0 p1 : y6) (n : Nat) (v5_4 : Int) : l4 k p0 p1 (n + 1) v5_4 =
 (if (decide (v5_4 < ((p0.length : Int)))) = true then
  gd ((0 : Int) ≤ v5_4) <| gd (v5_4 < (p0.length : Int)) <| gd ((0 : Int) ≤ v5_4) <| gd (v5_4 < (p1.length : Int)) <| (laws_eqRule.f k (p0.getD (v5_4.toNat) ([], ([], []))) (p1.getD (v5_4.toNat) ([], ([], [])))).bind fun r1 =>
  if (!r1.1) = true then
   some (false, ())
  else
   l4 k p0 p1 n (w64 (v5_4 + 1))
 else
  some (true, ())) := by kernel_rfl
theorem z4 (k : Nat) (p0 p1 : y6) (v5_4 : Int) : l4 k p0 p1 0 v5_4 = none := by kernel_rfl
theorem s (k : Nat) (p0 p1 : y6) : f k p0 p1 =
 (if (((p0.length : Int)) != ((p1.length : Int))) = true then
  some (false, ())
 else
  l4 k p0 p1 k 0) := by kernel_rfl
theorem ok (k : Nat) : Ok Try.prog 40 (sem k) := Fd.ok (cx_ok ⟨laws_eqRule.ok k, trivial⟩) ⟨Try.func40, rfl, by kernel_rfl⟩ rfl
attribute [irreducible] f l4
end laws_eqRuleS
/-! loop.example/wholecheck/laws.eqSystem -/
namespace laws_eqSystem
noncomputable def D : Fd := ⟨Try.f13, 1, .bool, .sh, [.sh, .sh], .unit, h76⟩
noncomputable def C (k : Nat) : Ctx := cx [(39, laws_eqVarS.sem k), (40, laws_eqRuleS.sem k)] [] [] [] [] [] []
noncomputable def sem (k : Nat) : Sem := D.sem (D.ev (C k) k)
noncomputable def f (k : Nat) (p0 p1 : y7) : Option (Bool × Unit) := D.ev (C k) k (p0, p1, ())
theorem s (k : Nat) (p0 p1 : y7) : f k p0 p1 =
 ((laws_eqVarS.f k p0.1 p1.1).bind fun r1 =>
 if (!r1.1) = true then
  some (false, ())
 else
  (laws_eqRuleS.f k p0.2 p1.2).bind fun r2 =>
  if (!r2.1) = true then
   some (false, ())
  else
   some (true, ())) := by kernel_rfl
theorem ok (k : Nat) : Ok Try.prog 13 (sem k) := Fd.ok (cx_ok ⟨laws_eqVarS.ok k, laws_eqRuleS.ok k, trivial⟩) ⟨Try.func13, rfl, by kernel_rfl⟩ rfl
attribute [irreducible] f
end laws_eqSystem
/-! loop.example/wholecheck/laws.markVarS -/
namespace laws_markVarS
noncomputable def D : Fd := ⟨Try.f41, 1, I, .sh, [.loan (.ow (.ag (.pr .sh (.pr .sh .sh)))), .sh], h2, h4⟩
noncomputable def C (k : Nat) : Ctx := cx [] [] [(2, [(0, none), (1, none), (5, none)])] [0] [] [] []
noncomputable def sem (k : Nat) : Sem := D.sem (D.ev (C k) k)
noncomputable def f (k : Nat) (p0 : y0) (p1 : Int) : Option (Int × y0) := D.ev (C k) k (p0, p1, ())
noncomputable def l2 (k : Nat) (n : Nat) (v0_2 : y0) (v1_2 v5_2 : Int) : Option (Int × y0) :=
 D.lp (C k) k 2 [1, 0, 1, 0] [] n [(5, vI v5_2), (1, vI v1_2), (0, vO h2 v0_2)]
theorem s2 (k : Nat) (n : Nat) (v0_2 : y0) (v1_2 v5_2 : Int) : l2 k (n + 1) v0_2 v1_2 v5_2 =
 (if (decide (v5_2 < ((v0_2.length : Int)))) = true then
  gd ((0 : Int) ≤ v5_2) <| gd (v5_2 < (v0_2.length : Int)) <| gd ((0 : Int) ≤ v5_2) <| gd (v5_2 < ((v0_2.set (v5_2.toNat) (v1_2, (v0_2.getD (v5_2.toNat) (0, (0, 0))).2)).length : Int)) <| gd ((0 : Int) ≤ v5_2) <| gd (v5_2 < (((v0_2.set (v5_2.toNat) (v1_2, (v0_2.getD (v5_2.toNat) (0, (0, 0))).2)).set (v5_2.toNat) (((v0_2.set (v5_2.toNat) (v1_2, (v0_2.getD (v5_2.toNat) (0, (0, 0))).2)).getD (v5_2.toNat) (0, (0, 0))).1, (w64 (v1_2 + 1), ((v0_2.set (v5_2.toNat) (v1_2, (v0_2.getD (v5_2.toNat) (0, (0, 0))).2)).getD (v5_2.toNat) (0, (0, 0))).2.2))).length : Int)) <| l2 k n (((v0_2.set (v5_2.toNat) (v1_2, (v0_2.getD (v5_2.toNat) (0, (0, 0))).2)).set (v5_2.toNat) (((v0_2.set (v5_2.toNat) (v1_2, (v0_2.getD (v5_2.toNat) (0, (0, 0))).2)).getD (v5_2.toNat) (0, (0, 0))).1, (w64 (v1_2 + 1), ((v0_2.set (v5_2.toNat) (v1_2, (v0_2.getD (v5_2.toNat) (0, (0, 0))).2)).getD (v5_2.toNat) (0, (0, 0))).2.2))).set (v5_2.toNat) ((((v0_2.set (v5_2.toNat) (v1_2, (v0_2.getD (v5_2.toNat) (0, (0, 0))).2)).set (v5_2.toNat) (((v0_2.set (v5_2.toNat) (v1_2, (v0_2.getD (v5_2.toNat) (0, (0, 0))).2)).getD (v5_2.toNat) (0, (0, 0))).1, (w64 (v1_2 + 1), ((v0_2.set (v5_2.toNat) (v1_2, (v0_2.getD (v5_2.toNat) (0, (0, 0))).2)).getD (v5_2.toNat) (0, (0, 0))).2.2))).getD (v5_2.toNat) (0, (0, 0))).1, ((((v0_2.set (v5_2.toNat) (v1_2, (v0_2.getD (v5_2.toNat) (0, (0, 0))).2)).set (v5_2.toNat) (((v0_2.set (v5_2.toNat) (v1_2, (v0_2.getD (v5_2.toNat) (0, (0, 0))).2)).getD (v5_2.toNat) (0, (0, 0))).1, (w64 (v1_2 + 1), ((v0_2.set (v5_2.toNat) (v1_2, (v0_2.getD (v5_2.toNat) (0, (0, 0))).2)).getD (v5_2.toNat) (0, (0, 0))).2.2))).getD (v5_2.toNat) (0, (0, 0))).2.1, w64 ((w64 (v1_2 + 1)) + 1)))) (w64 ((w64 ((w64 (v1_2 + 1)) + 1)) + 1)) (w64 (v5_2 + 1))
 else
  some (v1_2, v0_2)) := by kernel_rfl
theorem z2 (k : Nat) (v0_2 : y0) (v1_2 v5_2 : Int) : l2 k 0 v0_2 v1_2 v5_2 = none := by kernel_rfl
theorem s (k : Nat) (p0 : y0) (p1 : Int) : f k p0 p1 =
 (l2 k k p0 p1 0) := by kernel_rfl
theorem ok (k : Nat) : Ok Try.prog 41 (sem k) := Fd.ok (cx_ok trivial) ⟨Try.func41, rfl, by kernel_rfl⟩ rfl
attribute [irreducible] f l2
end laws_markVarS
/-! loop.example/wholecheck/laws.markTermS -/
namespace laws_markTermS
noncomputable def D : Fd := ⟨Try.f56, 1, I, .sh, [.loan (.ow (.ag (.pr .sh (.pr .sh (.pr .sh .sh))))), .sh], h7, h8⟩
noncomputable def C (k : Nat) : Ctx := cx [] [] [(2, [(0, none), (1, none), (5, none)])] [0] [] [] []
noncomputable def sem (k : Nat) : Sem := D.sem (D.ev (C k) k)
noncomputable def f (k : Nat) (p0 : y2) (p1 : Int) : Option (Int × y2) := D.ev (C k) k (p0, p1, ())
noncomputable def l2 (k : Nat) (n : Nat) (v0_2 : y2) (v1_2 v5_2 : Int) : Option (Int × y2) :=
 D.lp (C k) k 2 [1, 0, 1, 0] [] n [(5, vI v5_2), (1, vI v1_2), (0, vO h7 v0_2)]
theorem s2 (k : Nat) (n : Nat) (v0_2 : y2) (v1_2 v5_2 : Int) : l2 k (n + 1) v0_2 v1_2 v5_2 =
 (if (decide (v5_2 < ((v0_2.length : Int)))) = true then
  gd ((0 : Int) ≤ v5_2) <| gd (v5_2 < (v0_2.length : Int)) <| gd ((0 : Int) ≤ v5_2) <| gd (v5_2 < ((v0_2.set (v5_2.toNat) (v1_2, (v0_2.getD (v5_2.toNat) (0, (0, (0, 0)))).2)).length : Int)) <| gd ((0 : Int) ≤ v5_2) <| gd (v5_2 < (((v0_2.set (v5_2.toNat) (v1_2, (v0_2.getD (v5_2.toNat) (0, (0, (0, 0)))).2)).set (v5_2.toNat) (((v0_2.set (v5_2.toNat) (v1_2, (v0_2.getD (v5_2.toNat) (0, (0, (0, 0)))).2)).getD (v5_2.toNat) (0, (0, (0, 0)))).1, (w64 (v1_2 + 1), ((v0_2.set (v5_2.toNat) (v1_2, (v0_2.getD (v5_2.toNat) (0, (0, (0, 0)))).2)).getD (v5_2.toNat) (0, (0, (0, 0)))).2.2))).length : Int)) <| gd ((0 : Int) ≤ v5_2) <| gd (v5_2 < ((((v0_2.set (v5_2.toNat) (v1_2, (v0_2.getD (v5_2.toNat) (0, (0, (0, 0)))).2)).set (v5_2.toNat) (((v0_2.set (v5_2.toNat) (v1_2, (v0_2.getD (v5_2.toNat) (0, (0, (0, 0)))).2)).getD (v5_2.toNat) (0, (0, (0, 0)))).1, (w64 (v1_2 + 1), ((v0_2.set (v5_2.toNat) (v1_2, (v0_2.getD (v5_2.toNat) (0, (0, (0, 0)))).2)).getD (v5_2.toNat) (0, (0, (0, 0)))).2.2))).set (v5_2.toNat) ((((v0_2.set (v5_2.toNat) (v1_2, (v0_2.getD (v5_2.toNat) (0, (0, (0, 0)))).2)).set (v5_2.toNat) (((v0_2.set (v5_2.toNat) (v1_2, (v0_2.getD (v5_2.toNat) (0, (0, (0, 0)))).2)).getD (v5_2.toNat) (0, (0, (0, 0)))).1, (w64 (v1_2 + 1), ((v0_2.set (v5_2.toNat) (v1_2, (v0_2.getD (v5_2.toNat) (0, (0, (0, 0)))).2)).getD (v5_2.toNat) (0, (0, (0, 0)))).2.2))).getD (v5_2.toNat) (0, (0, (0, 0)))).1, ((((v0_2.set (v5_2.toNat) (v1_2, (v0_2.getD (v5_2.toNat) (0, (0, (0, 0)))).2)).set (v5_2.toNat) (((v0_2.set (v5_2.toNat) (v1_2, (v0_2.getD (v5_2.toNat) (0, (0, (0, 0)))).2)).getD (v5_2.toNat) (0, (0, (0, 0)))).1, (w64 (v1_2 + 1), ((v0_2.set (v5_2.toNat) (v1_2, (v0_2.getD (v5_2.toNat) (0, (0, (0, 0)))).2)).getD (v5_2.toNat) (0, (0, (0, 0)))).2.2))).getD (v5_2.toNat) (0, (0, (0, 0)))).2.1, (w64 ((w64 (v1_2 + 1)) + 1), (((v0_2.set (v5_2.toNat) (v1_2, (v0_2.getD (v5_2.toNat) (0, (0, (0, 0)))).2)).set (v5_2.toNat) (((v0_2.set (v5_2.toNat) (v1_2, (v0_2.getD (v5_2.toNat) (0, (0, (0, 0)))).2)).getD (v5_2.toNat) (0, (0, (0, 0)))).1, (w64 (v1_2 + 1), ((v0_2.set (v5_2.toNat) (v1_2, (v0_2.getD (v5_2.toNat) (0, (0, (0, 0)))).2)).getD (v5_2.toNat) (0, (0, (0, 0)))).2.2))).getD (v5_2.toNat) (0, (0, (0, 0)))).2.2.2)))).length : Int)) <| l2 k n ((((v0_2.set (v5_2.toNat) (v1_2, (v0_2.getD (v5_2.toNat) (0, (0, (0, 0)))).2)).set (v5_2.toNat) (((v0_2.set (v5_2.toNat) (v1_2, (v0_2.getD (v5_2.toNat) (0, (0, (0, 0)))).2)).getD (v5_2.toNat) (0, (0, (0, 0)))).1, (w64 (v1_2 + 1), ((v0_2.set (v5_2.toNat) (v1_2, (v0_2.getD (v5_2.toNat) (0, (0, (0, 0)))).2)).getD (v5_2.toNat) (0, (0, (0, 0)))).2.2))).set (v5_2.toNat) ((((v0_2.set (v5_2.toNat) (v1_2, (v0_2.getD (v5_2.toNat) (0, (0, (0, 0)))).2)).set (v5_2.toNat) (((v0_2.set (v5_2.toNat) (v1_2, (v0_2.getD (v5_2.toNat) (0, (0, (0, 0)))).2)).getD (v5_2.toNat) (0, (0, (0, 0)))).1, (w64 (v1_2 + 1), ((v0_2.set (v5_2.toNat) (v1_2, (v0_2.getD (v5_2.toNat) (0, (0, (0, 0)))).2)).getD (v5_2.toNat) (0, (0, (0, 0)))).2.2))).getD (v5_2.toNat) (0, (0, (0, 0)))).1, ((((v0_2.set (v5_2.toNat) (v1_2, (v0_2.getD (v5_2.toNat) (0, (0, (0, 0)))).2)).set (v5_2.toNat) (((v0_2.set (v5_2.toNat) (v1_2, (v0_2.getD (v5_2.toNat) (0, (0, (0, 0)))).2)).getD (v5_2.toNat) (0, (0, (0, 0)))).1, (w64 (v1_2 + 1), ((v0_2.set (v5_2.toNat) (v1_2, (v0_2.getD (v5_2.toNat) (0, (0, (0, 0)))).2)).getD (v5_2.toNat) (0, (0, (0, 0)))).2.2))).getD (v5_2.toNat) (0, (0, (0, 0)))).2.1, (w64 ((w64 (v1_2 + 1)) + 1), (((v0_2.set (v5_2.toNat) (v1_2, (v0_2.getD (v5_2.toNat) (0, (0, (0, 0)))).2)).set (v5_2.toNat) (((v0_2.set (v5_2.toNat) (v1_2, (v0_2.getD (v5_2.toNat) (0, (0, (0, 0)))).2)).getD (v5_2.toNat) (0, (0, (0, 0)))).1, (w64 (v1_2 + 1), ((v0_2.set (v5_2.toNat) (v1_2, (v0_2.getD (v5_2.toNat) (0, (0, (0, 0)))).2)).getD (v5_2.toNat) (0, (0, (0, 0)))).2.2))).getD (v5_2.toNat) (0, (0, (0, 0)))).2.2.2)))).set (v5_2.toNat) (((((v0_2.set (v5_2.toNat) (v1_2, (v0_2.getD (v5_2.toNat) (0, (0, (0, 0)))).2)).set (v5_2.toNat) (((v0_2.set (v5_2.toNat) (v1_2, (v0_2.getD (v5_2.toNat) (0, (0, (0, 0)))).2)).getD (v5_2.toNat) (0, (0, (0, 0)))).1, (w64 (v1_2 + 1), ((v0_2.set (v5_2.toNat) (v1_2, (v0_2.getD (v5_2.toNat) (0, (0, (0, 0)))).2)).getD (v5_2.toNat) (0, (0, (0, 0)))).2.2))).set (v5_2.toNat) ((((v0_2.set (v5_2.toNat) (v1_2, (v0_2.getD (v5_2.toNat) (0, (0, (0, 0)))).2)).set (v5_2.toNat) (((v0_2.set (v5_2.toNat) (v1_2, (v0_2.getD (v5_2.toNat) (0, (0, (0, 0)))).2)).getD (v5_2.toNat) (0, (0, (0, 0)))).1, (w64 (v1_2 + 1), ((v0_2.set (v5_2.toNat) (v1_2, (v0_2.getD (v5_2.toNat) (0, (0, (0, 0)))).2)).getD (v5_2.toNat) (0, (0, (0, 0)))).2.2))).getD (v5_2.toNat) (0, (0, (0, 0)))).1, ((((v0_2.set (v5_2.toNat) (v1_2, (v0_2.getD (v5_2.toNat) (0, (0, (0, 0)))).2)).set (v5_2.toNat) (((v0_2.set (v5_2.toNat) (v1_2, (v0_2.getD (v5_2.toNat) (0, (0, (0, 0)))).2)).getD (v5_2.toNat) (0, (0, (0, 0)))).1, (w64 (v1_2 + 1), ((v0_2.set (v5_2.toNat) (v1_2, (v0_2.getD (v5_2.toNat) (0, (0, (0, 0)))).2)).getD (v5_2.toNat) (0, (0, (0, 0)))).2.2))).getD (v5_2.toNat) (0, (0, (0, 0)))).2.1, (w64 ((w64 (v1_2 + 1)) + 1), (((v0_2.set (v5_2.toNat) (v1_2, (v0_2.getD (v5_2.toNat) (0, (0, (0, 0)))).2)).set (v5_2.toNat) (((v0_2.set (v5_2.toNat) (v1_2, (v0_2.getD (v5_2.toNat) (0, (0, (0, 0)))).2)).getD (v5_2.toNat) (0, (0, (0, 0)))).1, (w64 (v1_2 + 1), ((v0_2.set (v5_2.toNat) (v1_2, (v0_2.getD (v5_2.toNat) (0, (0, (0, 0)))).2)).getD (v5_2.toNat) (0, (0, (0, 0)))).2.2))).getD (v5_2.toNat) (0, (0, (0, 0)))).2.2.2)))).getD (v5_2.toNat) (0, (0, (0, 0)))).1, (((((v0_2.set (v5_2.toNat) (v1_2, (v0_2.getD (v5_2.toNat) (0, (0, (0, 0)))).2)).set (v5_2.toNat) (((v0_2.set (v5_2.toNat) (v1_2, (v0_2.getD (v5_2.toNat) (0, (0, (0, 0)))).2)).getD (v5_2.toNat) (0, (0, (0, 0)))).1, (w64 (v1_2 + 1), ((v0_2.set (v5_2.toNat) (v1_2, (v0_2.getD (v5_2.toNat) (0, (0, (0, 0)))).2)).getD (v5_2.toNat) (0, (0, (0, 0)))).2.2))).set (v5_2.toNat) ((((v0_2.set (v5_2.toNat) (v1_2, (v0_2.getD (v5_2.toNat) (0, (0, (0, 0)))).2)).set (v5_2.toNat) (((v0_2.set (v5_2.toNat) (v1_2, (v0_2.getD (v5_2.toNat) (0, (0, (0, 0)))).2)).getD (v5_2.toNat) (0, (0, (0, 0)))).1, (w64 (v1_2 + 1), ((v0_2.set (v5_2.toNat) (v1_2, (v0_2.getD (v5_2.toNat) (0, (0, (0, 0)))).2)).getD (v5_2.toNat) (0, (0, (0, 0)))).2.2))).getD (v5_2.toNat) (0, (0, (0, 0)))).1, ((((v0_2.set (v5_2.toNat) (v1_2, (v0_2.getD (v5_2.toNat) (0, (0, (0, 0)))).2)).set (v5_2.toNat) (((v0_2.set (v5_2.toNat) (v1_2, (v0_2.getD (v5_2.toNat) (0, (0, (0, 0)))).2)).getD (v5_2.toNat) (0, (0, (0, 0)))).1, (w64 (v1_2 + 1), ((v0_2.set (v5_2.toNat) (v1_2, (v0_2.getD (v5_2.toNat) (0, (0, (0, 0)))).2)).getD (v5_2.toNat) (0, (0, (0, 0)))).2.2))).getD (v5_2.toNat) (0, (0, (0, 0)))).2.1, (w64 ((w64 (v1_2 + 1)) + 1), (((v0_2.set (v5_2.toNat) (v1_2, (v0_2.getD (v5_2.toNat) (0, (0, (0, 0)))).2)).set (v5_2.toNat) (((v0_2.set (v5_2.toNat) (v1_2, (v0_2.getD (v5_2.toNat) (0, (0, (0, 0)))).2)).getD (v5_2.toNat) (0, (0, (0, 0)))).1, (w64 (v1_2 + 1), ((v0_2.set (v5_2.toNat) (v1_2, (v0_2.getD (v5_2.toNat) (0, (0, (0, 0)))).2)).getD (v5_2.toNat) (0, (0, (0, 0)))).2.2))).getD (v5_2.toNat) (0, (0, (0, 0)))).2.2.2)))).getD (v5_2.toNat) (0, (0, (0, 0)))).2.1, (((((v0_2.set (v5_2.toNat) (v1_2, (v0_2.getD (v5_2.toNat) (0, (0, (0, 0)))).2)).set (v5_2.toNat) (((v0_2.set (v5_2.toNat) (v1_2, (v0_2.getD (v5_2.toNat) (0, (0, (0, 0)))).2)).getD (v5_2.toNat) (0, (0, (0, 0)))).1, (w64 (v1_2 + 1), ((v0_2.set (v5_2.toNat) (v1_2, (v0_2.getD (v5_2.toNat) (0, (0, (0, 0)))).2)).getD (v5_2.toNat) (0, (0, (0, 0)))).2.2))).set (v5_2.toNat) ((((v0_2.set (v5_2.toNat) (v1_2, (v0_2.getD (v5_2.toNat) (0, (0, (0, 0)))).2)).set (v5_2.toNat) (((v0_2.set (v5_2.toNat) (v1_2, (v0_2.getD (v5_2.toNat) (0, (0, (0, 0)))).2)).getD (v5_2.toNat) (0, (0, (0, 0)))).1, (w64 (v1_2 + 1), ((v0_2.set (v5_2.toNat) (v1_2, (v0_2.getD (v5_2.toNat) (0, (0, (0, 0)))).2)).getD (v5_2.toNat) (0, (0, (0, 0)))).2.2))).getD (v5_2.toNat) (0, (0, (0, 0)))).1, ((((v0_2.set (v5_2.toNat) (v1_2, (v0_2.getD (v5_2.toNat) (0, (0, (0, 0)))).2)).set (v5_2.toNat) (((v0_2.set (v5_2.toNat) (v1_2, (v0_2.getD (v5_2.toNat) (0, (0, (0, 0)))).2)).getD (v5_2.toNat) (0, (0, (0, 0)))).1, (w64 (v1_2 + 1), ((v0_2.set (v5_2.toNat) (v1_2, (v0_2.getD (v5_2.toNat) (0, (0, (0, 0)))).2)).getD (v5_2.toNat) (0, (0, (0, 0)))).2.2))).getD (v5_2.toNat) (0, (0, (0, 0)))).2.1, (w64 ((w64 (v1_2 + 1)) + 1), (((v0_2.set (v5_2.toNat) (v1_2, (v0_2.getD (v5_2.toNat) (0, (0, (0, 0)))).2)).set (v5_2.toNat) (((v0_2.set (v5_2.toNat) (v1_2, (v0_2.getD (v5_2.toNat) (0, (0, (0, 0)))).2)).getD (v5_2.toNat) (0, (0, (0, 0)))).1, (w64 (v1_2 + 1), ((v0_2.set (v5_2.toNat) (v1_2, (v0_2.getD (v5_2.toNat) (0, (0, (0, 0)))).2)).getD (v5_2.toNat) (0, (0, (0, 0)))).2.2))).getD (v5_2.toNat) (0, (0, (0, 0)))).2.2.2)))).getD (v5_2.toNat) (0, (0, (0, 0)))).2.2.1, w64 ((w64 ((w64 (v1_2 + 1)) + 1)) + 1))))) (w64 ((w64 ((w64 ((w64 (v1_2 + 1)) + 1)) + 1)) + 1)) (w64 (v5_2 + 1))
 else
  some (v1_2, v0_2)) := by kernel_rfl
theorem z2 (k : Nat) (v0_2 : y2) (v1_2 v5_2 : Int) : l2 k 0 v0_2 v1_2 v5_2 = none := by kernel_rfl
theorem s (k : Nat) (p0 : y2) (p1 : Int) : f k p0 p1 =
 (l2 k k p0 p1 0) := by kernel_rfl
theorem ok (k : Nat) : Ok Try.prog 56 (sem k) := Fd.ok (cx_ok trivial) ⟨Try.func56, rfl, by kernel_rfl⟩ rfl
attribute [irreducible] f l2
end laws_markTermS
/-! loop.example/wholecheck/laws.markIntS -/
namespace laws_markIntS
noncomputable def D : Fd := ⟨Try.f17, 1, I, .sh, [.loan (.ow .sh), .sh], h9, h10⟩
noncomputable def C (k : Nat) : Ctx := cx [] [] [(2, [(0, none), (1, none), (5, none)])] [0] [] [] []
noncomputable def sem (k : Nat) : Sem := D.sem (D.ev (C k) k)
noncomputable def f (k : Nat) (p0 : (List Int)) (p1 : Int) : Option (Int × (List Int)) := D.ev (C k) k (p0, p1, ())
noncomputable def l2 (k : Nat) (n : Nat) (v0_2 : (List Int)) (v1_2 v5_2 : Int) : Option (Int × (List Int)) :=
 D.lp (C k) k 2 [1, 0, 1, 0] [] n [(5, vI v5_2), (1, vI v1_2), (0, vO h9 v0_2)]
theorem s2 (k : Nat) (n : Nat) (v0_2 : (List Int)) (v1_2 v5_2 : Int) : l2 k (n + 1) v0_2 v1_2 v5_2 =
 (if (decide (v5_2 < ((v0_2.length : Int)))) = true then
  gd ((0 : Int) ≤ v5_2) <| gd (v5_2 < (v0_2.length : Int)) <| l2 k n (v0_2.set (v5_2.toNat) v1_2) (w64 (v1_2 + 1)) (w64 (v5_2 + 1))
 else
  some (v1_2, v0_2)) := by kernel_rfl
theorem z2 (k : Nat) (v0_2 : (List Int)) (v1_2 v5_2 : Int) : l2 k 0 v0_2 v1_2 v5_2 = none := by kernel_rfl
theorem s (k : Nat) (p0 : (List Int)) (p1 : Int) : f k p0 p1 =
 (l2 k k p0 p1 0) := by kernel_rfl
theorem ok (k : Nat) : Ok Try.prog 17 (sem k) := Fd.ok (cx_ok trivial) ⟨Try.func17, rfl, by kernel_rfl⟩ rfl
attribute [irreducible] f l2
end laws_markIntS
/-! loop.example/wholecheck/laws.markTermSS -/
namespace laws_markTermSS
noncomputable def D : Fd := ⟨Try.f24, 1, I, .sh, [.loan (.ow (.ow (.ag (.pr .sh (.pr .sh (.pr .sh .sh)))))), .sh], h11, h12⟩
noncomputable def C (k : Nat) : Ctx := cx [(56, laws_markTermS.sem k)] [] [(2, [(0, none), (1, none), (5, none)])] [0] [] [] []
noncomputable def sem (k : Nat) : Sem := D.sem (D.ev (C k) k)
noncomputable def f (k : Nat) (p0 : y3) (p1 : Int) : Option (Int × y3) := D.ev (C k) k (p0, p1, ())
noncomputable def l2 (k : Nat) (n : Nat) (v0_2 : y3) (v1_2 v5_2 : Int) : Option (Int × y3) :=
 D.lp (C k) k 2 [1, 0, 1, 0] [] n [(5, vI v5_2), (1, vI v1_2), (0, vO h11 v0_2)]
theorem s2 (k : Nat) (n : Nat) (v0_2 : y3) (v1_2 v5_2 : Int) : l2 k (n + 1) v0_2 v1_2 v5_2 =
 (if (decide (v5_2 < ((v0_2.length : Int)))) = true then
  gd ((0 : Int) ≤ v5_2) <| gd (v5_2 < (v0_2.length : Int)) <| (laws_markTermS.f k (v0_2.getD (v5_2.toNat) []) v1_2).bind fun r1 =>
  l2 k n (v0_2.set (v5_2.toNat) r1.2) r1.1 (w64 (v5_2 + 1))
 else
  some (v1_2, v0_2)) := by kernel_rfl
theorem z2 (k : Nat) (v0_2 : y3) (v1_2 v5_2 : Int) : l2 k 0 v0_2 v1_2 v5_2 = none := by kernel_rfl
theorem s (k : Nat) (p0 : y3) (p1 : Int) : f k p0 p1 =
 (l2 k k p0 p1 0) := by kernel_rfl
theorem ok (k : Nat) : Ok Try.prog 24 (sem k) := Fd.ok (cx_ok ⟨laws_markTermS.ok k, trivial⟩) ⟨Try.func24, rfl, by kernel_rfl⟩ rfl
attribute [irreducible] f l2
end laws_markTermSS
/-! loop.example/wholecheck/laws.markRuleS -/
namespace laws_markRuleS
noncomputable def D : Fd := ⟨Try.f42, 1, I, .sh, [.loan (.ow (.ag (.pr (.ow (.ag (.pr .sh (.pr .sh (.pr .sh .sh))))) (.pr (.ow .sh) (.ow (.ow (.ag (.pr .sh (.pr .sh (.pr .sh .sh)))))))))), .sh], h17, h18⟩
noncomputable def C (k : Nat) : Ctx := cx [(56, laws_markTermS.sem k), (17, laws_markIntS.sem k), (24, laws_markTermSS.sem k)] [] [(2, [(0, none), (1, none), (5, none)])] [0] [] [] []
noncomputable def sem (k : Nat) : Sem := D.sem (D.ev (C k) k)
noncomputable def f (k : Nat) (p0 : y6) (p1 : Int) : Option (Int × y6) := D.ev (C k) k (p0, p1, ())
noncomputable def l2 (k : Nat) (n : Nat) (v0_2 : y6) (v1_2 v5_2 : Int) : Option (Int × y6) :=
 D.lp (C k) k 2 [1, 0, 1, 0] [] n [(5, vI v5_2), (1, vI v1_2), (0, vO h17 v0_2)]
theorem s2 (k : Nat) (n : Nat) (v0_2 : y6) (v1_2 v5_2 : Int) : l2 k (n + 1) v0_2 v1_2 v5_2 =
 (if (decide (v5_2 < ((v0_2.length : Int)))) = true then
  gd ((0 : Int) ≤ v5_2) <| gd (v5_2 < (v0_2.length : Int)) <| (laws_markTermS.f k (v0_2.getD (v5_2.toNat) ([], ([], []))).1 v1_2).bind fun r1 =>
  gd ((0 : Int) ≤ v5_2) <| gd (v5_2 < ((v0_2.set (v5_2.toNat) (r1.2, (v0_2.getD (v5_2.toNat) ([], ([], []))).2)).length : Int)) <| (laws_markIntS.f k ((v0_2.set (v5_2.toNat) (r1.2, (v0_2.getD (v5_2.toNat) ([], ([], []))).2)).getD (v5_2.toNat) ([], ([], []))).2.1 r1.1).bind fun r2 =>
  gd ((0 : Int) ≤ v5_2) <| gd (v5_2 < (((v0_2.set (v5_2.toNat) (r1.2, (v0_2.getD (v5_2.toNat) ([], ([], []))).2)).set (v5_2.toNat) (((v0_2.set (v5_2.toNat) (r1.2, (v0_2.getD (v5_2.toNat) ([], ([], []))).2)).getD (v5_2.toNat) ([], ([], []))).1, (r2.2, ((v0_2.set (v5_2.toNat) (r1.2, (v0_2.getD (v5_2.toNat) ([], ([], []))).2)).getD (v5_2.toNat) ([], ([], []))).2.2))).length : Int)) <| (laws_markTermSS.f k (((v0_2.set (v5_2.toNat) (r1.2, (v0_2.getD (v5_2.toNat) ([], ([], []))).2)).set (v5_2.toNat) (((v0_2.set (v5_2.toNat) (r1.2, (v0_2.getD (v5_2.toNat) ([], ([], []))).2)).getD (v5_2.toNat) ([], ([], []))).1, (r2.2, ((v0_2.set (v5_2.toNat) (r1.2, (v0_2.getD (v5_2.toNat) ([], ([], []))).2)).getD (v5_2.toNat) ([], ([], []))).2.2))).getD (v5_2.toNat) ([], ([], []))).2.2 r2.1).bind fun r3 =>
  l2 k n (((v0_2.set (v5_2.toNat) (r1.2, (v0_2.getD (v5_2.toNat) ([], ([], []))).2)).set (v5_2.toNat) (((v0_2.set (v5_2.toNat) (r1.2, (v0_2.getD (v5_2.toNat) ([], ([], []))).2)).getD (v5_2.toNat) ([], ([], []))).1, (r2.2, ((v0_2.set (v5_2.toNat) (r1.2, (v0_2.getD (v5_2.toNat) ([], ([], []))).2)).getD (v5_2.toNat) ([], ([], []))).2.2))).set (v5_2.toNat) ((((v0_2.set (v5_2.toNat) (r1.2, (v0_2.getD (v5_2.toNat) ([], ([], []))).2)).set (v5_2.toNat) (((v0_2.set (v5_2.toNat) (r1.2, (v0_2.getD (v5_2.toNat) ([], ([], []))).2)).getD (v5_2.toNat) ([], ([], []))).1, (r2.2, ((v0_2.set (v5_2.toNat) (r1.2, (v0_2.getD (v5_2.toNat) ([], ([], []))).2)).getD (v5_2.toNat) ([], ([], []))).2.2))).getD (v5_2.toNat) ([], ([], []))).1, ((((v0_2.set (v5_2.toNat) (r1.2, (v0_2.getD (v5_2.toNat) ([], ([], []))).2)).set (v5_2.toNat) (((v0_2.set (v5_2.toNat) (r1.2, (v0_2.getD (v5_2.toNat) ([], ([], []))).2)).getD (v5_2.toNat) ([], ([], []))).1, (r2.2, ((v0_2.set (v5_2.toNat) (r1.2, (v0_2.getD (v5_2.toNat) ([], ([], []))).2)).getD (v5_2.toNat) ([], ([], []))).2.2))).getD (v5_2.toNat) ([], ([], []))).2.1, r3.2))) r3.1 (w64 (v5_2 + 1))
 else
  some (v1_2, v0_2)) := by kernel_rfl
theorem z2 (k : Nat) (v0_2 : y6) (v1_2 v5_2 : Int) : l2 k 0 v0_2 v1_2 v5_2 = none := by kernel_rfl
theorem s (k : Nat) (p0 : y6) (p1 : Int) : f k p0 p1 =
 (l2 k k p0 p1 0) := by kernel_rfl
theorem ok (k : Nat) : Ok Try.prog 42 (sem k) := Fd.ok (cx_ok ⟨laws_markTermS.ok k, laws_markIntS.ok k, laws_markTermSS.ok k, trivial⟩) ⟨Try.func42, rfl, by kernel_rfl⟩ rfl
attribute [irreducible] f l2
end laws_markRuleS
/-! loop.example/wholecheck/laws.markSystem -/
namespace laws_markSystem
noncomputable def D : Fd := ⟨Try.f15, 1, I, .sh, [.loan (.ag (.pr (.ow (.ag (.pr .sh (.pr .sh .sh)))) (.ow (.ag (.pr (.ow (.ag (.pr .sh (.pr .sh (.pr .sh .sh))))) (.pr (.ow .sh) (.ow (.ow (.ag (.pr .sh (.pr .sh (.pr .sh .sh)))))))))))), .sh], h20, h21⟩
noncomputable def C (k : Nat) : Ctx := cx [(41, laws_markVarS.sem k), (42, laws_markRuleS.sem k)] [] [] [0] [] [] []
noncomputable def sem (k : Nat) : Sem := D.sem (D.ev (C k) k)
noncomputable def f (k : Nat) (p0 : y7) (p1 : Int) : Option (Int × y7) := D.ev (C k) k (p0, p1, ())
theorem s (k : Nat) (p0 : y7) (p1 : Int) : f k p0 p1 =
 ((laws_markVarS.f k p0.1 p1).bind fun r1 =>
 (laws_markRuleS.f k p0.2 r1.1).bind fun r2 =>
 some (r2.1, (r1.2, r2.2))) := by kernel_rfl
theorem ok (k : Nat) : Ok Try.prog 15 (sem k) := Fd.ok (cx_ok ⟨laws_markVarS.ok k, laws_markRuleS.ok k, trivial⟩) ⟨Try.func15, rfl, by kernel_rfl⟩ rfl
attribute [irreducible] f
end laws_markSystem
/-! loop.example/wholecheck/laws.markBlocks -/
namespace laws_markBlocks
noncomputable def D : Fd := ⟨Try.f16, 1, I, .sh, [.loan (.ag (.ow .sh)), .sh], h43, h77⟩
noncomputable def C (k : Nat) : Ctx := cx [(17, laws_markIntS.sem k)] [] [] [0] [] [] []
noncomputable def sem (k : Nat) : Sem := D.sem (D.ev (C k) k)
noncomputable def f (k : Nat) (p0 : (List Int)) (p1 : Int) : Option (Int × (List Int)) := D.ev (C k) k (p0, p1, ())
theorem s (k : Nat) (p0 : (List Int)) (p1 : Int) : f k p0 p1 =
 ((laws_markIntS.f k p0 p1).bind fun r1 =>
 some (r1.1, r1.2)) := by kernel_rfl
theorem ok (k : Nat) : Ok Try.prog 16 (sem k) := Fd.ok (cx_ok ⟨laws_markIntS.ok k, trivial⟩) ⟨Try.func16, rfl, by kernel_rfl⟩ rfl
attribute [irreducible] f
end laws_markBlocks
/-! loop.example/wholecheck/laws.heldIntS -/
namespace laws_heldIntS
noncomputable def D : Fd := ⟨Try.f43, 1, I, .sh, [.sh, .sh], .unit, h10⟩
noncomputable def C (k : Nat) : Ctx := cx [] [] [(2, [(0, none), (1, none), (5, none)])] [] [] [] []
noncomputable def sem (k : Nat) : Sem := D.sem (D.ev (C k) k)
noncomputable def f (k : Nat) (p0 : (List Int)) (p1 : Int) : Option (Int × Unit) := D.ev (C k) k (p0, p1, ())
noncomputable def l2 (k : Nat) (p0 : (List Int)) (n : Nat) (v1_2 v5_2 : Int) : Option (Int × Unit) :=
 D.lp (C k) k 2 [1, 0, 1, 0] [] n [(5, vI v5_2), (1, vI v1_2), (0, vS h9 p0)]
theorem s2 (k : Nat) (p0 : (List Int)) (n : Nat) (v1_2 v5_2 : Int) : l2 k p0 (n + 1) v1_2 v5_2 =
 (if (decide (v5_2 < ((p0.length : Int)))) = true then
  gd ((0 : Int) ≤ v5_2) <| gd (v5_2 < (p0.length : Int)) <| if ((p0.getD (v5_2.toNat) 0) != v1_2) = true then
   some ((-1), ())
  else
   l2 k p0 n (w64 (v1_2 + 1)) (w64 (v5_2 + 1))
 else
  some (v1_2, ())) := by kernel_rfl
theorem z2 (k : Nat) (p0 : (List Int)) (v1_2 v5_2 : Int) : l2 k p0 0 v1_2 v5_2 = none := by kernel_rfl
theorem s (k : Nat) (p0 : (List Int)) (p1 : Int) : f k p0 p1 =
 (l2 k p0 k p1 0) := by kernel_rfl
theorem ok (k : Nat) : Ok Try.prog 43 (sem k) := Fd.ok (cx_ok trivial) ⟨Try.func43, rfl, by kernel_rfl⟩ rfl
attribute [irreducible] f l2
end laws_heldIntS
/-! loop.example/wholecheck/laws.heldBlocks -/
namespace laws_heldBlocks
noncomputable def D : Fd := ⟨Try.f18, 1, I, .sh, [.sh, .sh], .unit, h77⟩
noncomputable def C (k : Nat) : Ctx := cx [(43, laws_heldIntS.sem k)] [] [] [] [] [] []
noncomputable def sem (k : Nat) : Sem := D.sem (D.ev (C k) k)
noncomputable def f (k : Nat) (p0 : (List Int)) (p1 : Int) : Option (Int × Unit) := D.ev (C k) k (p0, p1, ())
theorem s (k : Nat) (p0 : (List Int)) (p1 : Int) : f k p0 p1 =
 ((laws_heldIntS.f k p0 p1).bind fun r1 =>
 if (decide (r1.1 < 0)) = true then
  some ((-1), ())
 else
  some (r1.1, ())) := by kernel_rfl
theorem ok (k : Nat) : Ok Try.prog 18 (sem k) := Fd.ok (cx_ok ⟨laws_heldIntS.ok k, trivial⟩) ⟨Try.func18, rfl, by kernel_rfl⟩ rfl
attribute [irreducible] f
end laws_heldBlocks
/-! loop.example/wholecheck/laws.FnExactBlocksBy -/
namespace laws_FnExactBlocksBy
noncomputable def D : Fd := ⟨Try.f4, 1, .bool, .sh, [.sh, .sh], .unit, h38⟩
noncomputable def C (k : Nat) : Ctx := cx [(5, laws_szSystem.sem k), (19, laws_szTermSS.sem k), (8, laws_toSystem.sem k), (21, laws_toTermSS.sem k), (20, spec_BlocksBy.sem k), (22, impl_BlocksBy.sem k), (12, laws_eqBlocks.sem k), (13, laws_eqSystem.sem k), (23, laws_eqTermSS.sem k), (15, laws_markSystem.sem k), (24, laws_markTermSS.sem k), (16, laws_markBlocks.sem k), (18, laws_heldBlocks.sem k)] [] [] [] [(14, [0, 1, 2, 3, 4])] [((14, 2), [8])] []
noncomputable def sem (k : Nat) : Sem := D.sem (D.ev (C k) k)
noncomputable def f (k : Nat) (p0 : y7) (p1 : y3) : Option (Bool × Unit) := D.ev (C k) k (p0, p1, ())
theorem s (k : Nat) (p0 : y7) (p1 : y3) : f k p0 p1 =
 ((laws_szSystem.f k p0 1048576).bind fun r1 =>
 if (decide (r1.1 < 0)) = true then
  some (true, ())
 else
  (laws_szTermSS.f k p1 r1.1).bind fun r2 =>
  if (decide (r2.1 < 0)) = true then
   some (true, ())
  else
   (laws_toSystem.f k p0).bind fun r3 =>
   (laws_toTermSS.f k p1).bind fun r4 =>
   (spec_BlocksBy.f k r3.1 r4.1).bind fun r5 =>
   (laws_toSystem.f k p0).bind fun r6 =>
   (laws_toTermSS.f k p1).bind fun r7 =>
   (impl_BlocksBy.f k r6.1 r7.1).bind fun r8 =>
   (laws_eqBlocks.f k r8.1.1 r5.1.1).bind fun r9 =>
   if (!r9.1) = true then
    some (false, ())
   else
    if (r8.1.2 != r5.1.2) = true then
     some (false, ())
    else
     (laws_toSystem.f k p0).bind fun r10 =>
     (laws_eqSystem.f k r6.1 r10.1).bind fun r11 =>
     if (!r11.1) = true then
      some (false, ())
     else
      (laws_toTermSS.f k p1).bind fun r12 =>
      (laws_eqTermSS.f k r7.1 r12.1).bind fun r13 =>
      if (!r13.1) = true then
       some (false, ())
      else
       (laws_markSystem.f k r6.1 1).bind fun r14 =>
       (laws_markTermSS.f k r7.1 r14.1).bind fun r15 =>
       if (decide (r15.1 < 0)) = true then
        some (false, ())
       else
        (laws_eqBlocks.f k r8.1.1 r5.1.1).bind fun r16 =>
        if (!r16.1) = true then
         some (false, ())
        else
         if (r8.1.2 != r5.1.2) = true then
          some (false, ())
         else
          (laws_markBlocks.f k r8.1.1 1).bind fun r17 =>
          (laws_heldBlocks.f k r17.2 1).bind fun r18 =>
          if (decide (r18.1 < 0)) = true then
           some (false, ())
          else
           if (r18.1 != r17.1) = true then
            some (false, ())
           else
            (laws_toSystem.f k p0).bind fun r19 =>
            (laws_toTermSS.f k p1).bind fun r20 =>
            (impl_BlocksBy.f k r19.1 r20.1).bind fun r21 =>
            (laws_eqBlocks.f k r21.1.1 r5.1.1).bind fun r22 =>
            if (!r22.1) = true then
             some (false, ())
            else
             if (r21.1.2 != r5.1.2) = true then
              some (false, ())
             else
              (laws_heldBlocks.f k r17.2 1).bind fun r23 =>
              if (decide (r23.1 < 0)) = true then
               some (false, ())
              else
               if (r23.1 != r17.1) = true then
                some (false, ())
               else
                some (true, ())) := by kernel_rfl
theorem ok (k : Nat) : Ok Try.prog 4 (sem k) := Fd.ok (cx_ok ⟨laws_szSystem.ok k, laws_szTermSS.ok k, laws_toSystem.ok k, laws_toTermSS.ok k, spec_BlocksBy.ok k, impl_BlocksBy.ok k, laws_eqBlocks.ok k, laws_eqSystem.ok k, laws_eqTermSS.ok k, laws_markSystem.ok k, laws_markTermSS.ok k, laws_markBlocks.ok k, laws_heldBlocks.ok k, trivial⟩) ⟨Try.func4, rfl, by kernel_rfl⟩ rfl
attribute [irreducible] f
end laws_FnExactBlocksBy
end Go.Ev
