/- What the functions of the program compute, as plain functions, with the proof that they do. -/
import Derived.Test.YtfhhagbbfiiiiaaGreatEv4
import Derived.Test.YtfhhagbbfiiiiaaGreatGiv
import Derived.Test.YtfhhagbbfiiiiaaGreatProg
import Derived.KernelRfl
set_option maxRecDepth 100000
set_option linter.unusedVariables false
set_option autoImplicit false
noncomputable section
namespace Go.Ev
open Go.Proofs
abbrev h0 : S := .slice false (.int .u8)
abbrev h1 : S := .pair h0 I
abbrev h2 : S := .agg h1
abbrev h3 : S := .ptr h2
abbrev h4 : S := .pair h0 .unit
abbrev h5 : S := .pair I .unit
abbrev h6 : S := .pair h3 h5
abbrev h7 : S := .slice false I
abbrev h8 : S := .pair h7 .unit
abbrev h9 : S := .pair h3 h8
abbrev y0 : Type := Int × (Int × (Int × Int))
abbrev h10 : S := .pair I (.pair I I)
abbrev h11 : S := .pair I h10
abbrev h12 : S := .agg h11
abbrev y1 : Type := List y0
abbrev h13 : S := .slice false h12
abbrev h14 : S := .agg h10
abbrev h15 : S := .pair h14 h5
abbrev h16 : S := .pair h3 h15
abbrev h17 : S := .pair I h5
abbrev h18 : S := .pair I h17
abbrev h19 : S := .pair h7 h5
abbrev h20 : S := .pair h12 h19
abbrev h21 : S := .ptr h12
abbrev h22 : S := .pair h13 h5
abbrev h23 : S := .pair h12 h5
abbrev h24 : S := .pair h13 h22
abbrev h25 : S := .pair I h24
abbrev y2 : Type := List (Int × (Int × Int))
abbrev y3 : Type := ((List Int) × Int) × y2
abbrev h26 : S := .slice false h14
abbrev h27 : S := .pair h3 h26
abbrev h28 : S := .pair h26 .unit
abbrev h29 : S := .pair h3 h28
abbrev h30 : S := .pair h3 .unit
abbrev y4 : Type := ((List Int) × Int) × (List Int)
abbrev h31 : S := .pair h3 h7
abbrev h32 : S := .pair h3 h19
abbrev h33 : S := .pair h3 h18
abbrev h34 : S := .pair h26 h5
abbrev h35 : S := .pair h3 h34
abbrev y5 : Type := List y1
abbrev y6 : Type := (List Int) × y5
abbrev y7 : Type := y1 × y6
abbrev y8 : Type := List y7
abbrev h36 : S := .slice false h13
abbrev h37 : S := .pair h7 h36
abbrev h38 : S := .pair h13 h37
abbrev h39 : S := .agg h38
abbrev h40 : S := .slice false h39
abbrev h41 : S := .ptr h39
abbrev y9 : Type := y2 × y8
abbrev h42 : S := .pair h26 h40
abbrev h43 : S := .agg h42
abbrev h44 : S := .ptr h43
abbrev h45 : S := .pair h14 .unit
abbrev h46 : S := .pair h13 h17
abbrev h47 : S := .pair h39 h5
abbrev h48 : S := .pair h43 .unit
abbrev h49 : S := .pair h7 h8
abbrev h50 : S := .agg h7
abbrev h51 : S := .slice false h7
abbrev h52 : S := .pair h51 .unit
abbrev h53 : S := .ptr h50
abbrev y10 : Type := y9 × (List Int)
abbrev y11 : Type := ((List Int) × Int) × y10
abbrev h54 : S := .pair h43 h50
abbrev h55 : S := .pair h3 h54
abbrev h56 : S := .pair h36 .unit
abbrev h57 : S := .pair h43 h56
abbrev h58 : S := .pair h43 h5
abbrev h59 : S := .pair .bool .unit
abbrev h60 : S := .pair h13 h8
abbrev h61 : S := .pair h36 h8
abbrev h62 : S := .pair h50 .bool
abbrev y12 : Type := (List Int) × y1
abbrev y13 : Type := y9 × y12
abbrev h63 : S := .pair h50 h13
abbrev h64 : S := .pair h43 h63
abbrev h65 : S := .pair h50 .unit
abbrev h66 : S := .pair h43 h65
abbrev h67 : S := .pair h13 .unit
abbrev h68 : S := .pair h43 h67
abbrev h69 : S := .slice false .bool
abbrev h70 : S := .pair h43 h8
abbrev h71 : S := .pair h43 h19
abbrev h72 : S := .pair h51 h8
abbrev h73 : S := .pair h69 .unit
abbrev h74 : S := .pair h51 h73
abbrev h75 : S := .pair h7 h73
abbrev h76 : S := .pair h51 h19
abbrev h77 : S := .pair h7 .bool
abbrev h78 : S := .pair h50 h67
abbrev h79 : S := .pair h43 h78
abbrev y14 : Type := (List Int) × y12
abbrev y15 : Type := y9 × y14
abbrev h80 : S := .pair h7 h13
abbrev h81 : S := .pair h50 h80
abbrev h82 : S := .pair h43 h81
abbrev h83 : S := .slice true I
abbrev y16 : Type := (List Int) × (List Int)
abbrev y17 : Type := y9 × y16
abbrev h84 : S := .pair h50 h7
abbrev h85 : S := .pair h43 h84
abbrev y18 : Type := (Int × (Int × Int)) → Option Bool
abbrev h86 : S := .func h14 .bool
abbrev h87 : S := .pair h86 .unit
abbrev h88 : S := .pair h26 h87
abbrev h89 : S := .pair h44 .unit
abbrev h90 : S := .pair h39 h89
abbrev y19 : Type := y7 → Option Bool
abbrev h91 : S := .func h39 .bool
abbrev h92 : S := .pair h91 .unit
abbrev h93 : S := .pair h40 h92
abbrev h94 : S := .pair h53 .unit
abbrev h95 : S := .pair I h94
abbrev h96 : S := .func I .bool
abbrev h97 : S := .pair h96 .unit
abbrev h98 : S := .pair h7 h97
abbrev h99 : S := .pair h50 h8
abbrev y20 : Type := (List Int) × ((List Int) × Unit)
abbrev y21 : Type := y20 → Option Int
abbrev h100 : S := .pair I .bool
abbrev h101 : S := .func h49 I
abbrev h102 : S := .pair h101 .unit
abbrev h103 : S := .pair h7 h102
abbrev h104 : S := .pair h51 h103
abbrev h105 : S := .pair (.ptr I) .unit
abbrev h106 : S := .pair h53 h105
abbrev h107 : S := .pair I h106
abbrev h108 : S := .pair h43 h99
abbrev h109 : S := .slice true h7
abbrev h110 : S := .pair h50 h5
abbrev h111 : S := .pair h7 h19
abbrev h112 : S := .pair .bool h59
abbrev y22 : Type := (Bool × (Bool × Unit)) → Option Bool
abbrev h113 : S := .func h112 .bool
abbrev h114 : S := .pair h113 .unit
abbrev h115 : S := .pair h7 h114
abbrev h116 : S := .pair h7 h115
noncomputable def tys : List (Nat × S) := [(3, I), (4, .bool), (5, (.int .u8)), (22, h0), (23, h26), (24, h40), (26, h43), (27, h7), (29, h50), (40, h51), (48, h3), (53, h69), (61, h113), (64, h13), (76, h14), (87, h86), (89, h36), (91, h39), (93, h91), (101, h96), (109, h2), (111, h12), (129, h101), (133, (.int .u64))]
theorem tys_ok : tysB Tryz.prog tys = true := by kernel_rfl
theorem mix : Tryz.prog.follows .mixedOrders = true := by kernel_rfl
abbrev HD : Type := List (Nat × List (Nat × Option (S × M)))
noncomputable def cx (e : List (Nat × Sem)) (h : List ((Nat × Nat) × Nat)) (d : HD) (x : List Nat) (o : List (Nat × List Nat)) (i : List ((Nat × Nat) × List Nat)) (j : HD) : Ctx := mkC tys e (hintOf h) (headOf d) x (ordOf o) (hidOf i) (jnOf j)
theorem cx_ok {e : List (Nat × Sem)} {h : List ((Nat × Nat) × Nat)} {d : HD} {x : List Nat} {o : List (Nat × List Nat)} {i : List ((Nat × Nat) × List Nat)} {j : HD} (w : EnvOk Tryz.prog e) : CtxOk Tryz.prog (cx e h d x o i j) := mkC_ok tys_ok w mix
/-! loop.example/wholecheck/spec.l40Open -/
namespace spec_l40Open
noncomputable def D : Fd := ⟨Tryz.f63, 1, h3, (.ow (.ag (.pr .sh .sh))), [.sh], .unit, h4⟩
noncomputable def C (k : Nat) : Ctx := cx [] [] [] [] [] [] []
noncomputable def sem (k : Nat) : Sem := D.sem (D.ev (C k) k)
noncomputable def f (k : Nat) (p0 : (List Int)) : Option (((List Int) × Int) × Unit) := D.ev (C k) k (p0, ())
theorem s (k : Nat) (p0 : (List Int)) : f k p0 =
 (if (decide (((p0.length : Int)) > 2000)) = true then
  gd ((0 : Int) ≤ 0) <| gd ((0 : Int) ≤ 2000) <| gd (2000 ≤ (p0.length : Int)) <| some (((p0.take (Int.toNat 2000)).drop (Int.toNat 0), 0), ())
 else
  some ((p0, 0), ())) := by kernel_rfl
theorem ok (k : Nat) : Ok Tryz.prog 63 (sem k) := Fd.ok (cx_ok trivial) ⟨Tryz.func63, rfl, by kernel_rfl⟩ rfl
attribute [irreducible] f
end spec_l40Open
/-! (*loop.example/wholecheck/spec.l40Rd).pick -/
namespace spec_l40Rd_pick
noncomputable def D : Fd := ⟨Tryz.f66, 1, I, .sh, [.loan (.ow (.ag (.pr .sh .sh))), .sh], h3, h6⟩
noncomputable def C (k : Nat) : Ctx := cx [] [] [] [0] [(7, [0, 1, 2, 3, 4, 5, 6, 7, 8, 9, 10, 11, 12, 13, 14, 15, 16, 17, 18, 19, 20, 21, 22, 23, 24, 25, 26, 27, 28, 29, 30, 31, 32, 33, 34, 35, 36, 37, 38, 39, 40, 41, 42, 43, 44, 45])] [] []
noncomputable def sem (k : Nat) : Sem := D.sem (D.ev (C k) k)
noncomputable def f (k : Nat) (p0 : ((List Int) × Int)) (p1 : Int) : Option (Int × ((List Int) × Int)) := D.ev (C k) k (p0, p1, ())
theorem s (k : Nat) (p0 : ((List Int) × Int)) (p1 : Int) : f k p0 p1 =
 (if (decide (p1 < 1)) = true then
  some (0, (p0.1, w64 (p0.2 + 1)))
 else
  if (((p0.1.length : Int)) == 0) = true then
   some (0, (p0.1, w64 (p0.2 + 1)))
  else
   if (decide ((w64 ((w64 (p0.2 + 1)) - 1)) < ((p0.1.length : Int)))) = true then
    gd ((0 : Int) ≤ (w64 ((w64 (p0.2 + 1)) - 1))) <| gd ((w64 ((w64 (p0.2 + 1)) - 1)) < (p0.1.length : Int)) <| gd ((p1 : Int) ≠ 0) <| some ((w64 (p0.1.getD ((w64 ((w64 (p0.2 + 1)) - 1)).toNat) 0)).tmod p1, (p0.1, w64 (p0.2 + 1)))
   else
    gd ((((p0.1.length : Int)) : Int) ≠ 0) <| gd ((0 : Int) ≤ ((w64 ((w64 (p0.2 + 1)) - 1)).tmod ((p0.1.length : Int)))) <| gd (((w64 ((w64 (p0.2 + 1)) - 1)).tmod ((p0.1.length : Int))) < (p0.1.length : Int)) <| gd ((((p0.1.length : Int)) : Int) ≠ 0) <| gd ((0 : Int) ≤ ((w64 ((w64 ((w64 ((w64 (p0.2 + 1)) - 1)) * 7)) + 3)).tmod ((p0.1.length : Int)))) <| gd (((w64 ((w64 ((w64 ((w64 (p0.2 + 1)) - 1)) * 7)) + 3)).tmod ((p0.1.length : Int))) < (p0.1.length : Int)) <| gd ((((p0.1.length : Int)) : Int) ≠ 0) <| gd ((64 : Int) ≠ 0) <| gd ((p1 : Int) ≠ 0) <| some ((w64 (BitVec.ofInt IntKind.i64.bits (w64 ((w64 ((w64 ((w64 ((w64 (p0.1.getD (((w64 ((w64 (p0.2 + 1)) - 1)).tmod ((p0.1.length : Int))).toNat) 0)) * 131)) + (w64 ((w64 (p0.1.getD (((w64 ((w64 ((w64 ((w64 (p0.2 + 1)) - 1)) * 7)) + 3)).tmod ((p0.1.length : Int))).toNat) 0)) * 1117)))) + (w64 ((w64 ((w64 (p0.2 + 1)) - 1)) * 29)))) + (w64 ((w64 ((w64 ((w64 (p0.2 + 1)) - 1)).tdiv ((p0.1.length : Int)))) * 53)))) ^^^ BitVec.ofInt IntKind.i64.bits (w64 ((w64 ((w64 ((w64 ((w64 ((w64 (p0.1.getD (((w64 ((w64 (p0.2 + 1)) - 1)).tmod ((p0.1.length : Int))).toNat) 0)) * 131)) + (w64 ((w64 (p0.1.getD (((w64 ((w64 ((w64 ((w64 (p0.2 + 1)) - 1)) * 7)) + 3)).tmod ((p0.1.length : Int))).toNat) 0)) * 1117)))) + (w64 ((w64 ((w64 (p0.2 + 1)) - 1)) * 29)))) + (w64 ((w64 ((w64 ((w64 (p0.2 + 1)) - 1)).tdiv ((p0.1.length : Int)))) * 53)))).tdiv 64))).toNat).tmod p1, (p0.1, w64 (p0.2 + 1)))) := by kernel_rfl
theorem ok (k : Nat) : Ok Tryz.prog 66 (sem k) := Fd.ok (cx_ok trivial) ⟨Tryz.func66, rfl, by kernel_rfl⟩ rfl
attribute [irreducible] f
end spec_l40Rd_pick
/-! (*loop.example/wholecheck/spec.l40Rd).num -/
namespace spec_l40Rd_num
noncomputable def D : Fd := ⟨Tryz.f65, 1, I, .sh, [.loan (.ow (.ag (.pr .sh .sh))), .sh], h3, h9⟩
noncomputable def C (k : Nat) : Ctx := cx [(66, spec_l40Rd_pick.sem k)] [] [] [0] [] [] []
noncomputable def sem (k : Nat) : Sem := D.sem (D.ev (C k) k)
noncomputable def f (k : Nat) (p0 : ((List Int) × Int)) (p1 : (List Int)) : Option (Int × ((List Int) × Int)) := D.ev (C k) k (p0, p1, ())
theorem s (k : Nat) (p0 : ((List Int) × Int)) (p1 : (List Int)) : f k p0 p1 =
 ((spec_l40Rd_pick.f k p0 ((p1.length : Int))).bind fun r1 =>
 gd ((0 : Int) ≤ r1.1) <| gd (r1.1 < (p1.length : Int)) <| some (p1.getD (r1.1.toNat) 0, r1.2)) := by kernel_rfl
theorem ok (k : Nat) : Ok Tryz.prog 65 (sem k) := Fd.ok (cx_ok ⟨spec_l40Rd_pick.ok k, trivial⟩) ⟨Tryz.func65, rfl, by kernel_rfl⟩ rfl
attribute [irreducible] f
end spec_l40Rd_num
/-! loop.example/wholecheck/spec.l2VarOf -/
namespace spec_l2VarOf
noncomputable def D : Fd := ⟨Tryz.f161, 1, h12, .sh, [.sh], .unit, h5⟩
noncomputable def C (k : Nat) : Ctx := cx [] [] [] [] [] [] []
noncomputable def sem (k : Nat) : Sem := D.sem (D.ev (C k) k)
noncomputable def f (k : Nat) (p0 : Int) : Option (y0 × Unit) := D.ev (C k) k (p0, ())
theorem s (k : Nat) (p0 : Int) : f k p0 =
 (some ((1, (p0, (0, 0))), ())) := by kernel_rfl
theorem ok (k : Nat) : Ok Tryz.prog 161 (sem k) := Fd.ok (cx_ok trivial) ⟨Tryz.func161, rfl, by kernel_rfl⟩ rfl
attribute [irreducible] f
end spec_l2VarOf
/-! loop.example/wholecheck/spec.l2Const -/
namespace spec_l2Const
noncomputable def D : Fd := ⟨Tryz.f105, 1, h12, .sh, [.sh], .unit, h5⟩
noncomputable def C (k : Nat) : Ctx := cx [] [] [] [] [] [] []
noncomputable def sem (k : Nat) : Sem := D.sem (D.ev (C k) k)
noncomputable def f (k : Nat) (p0 : Int) : Option (y0 × Unit) := D.ev (C k) k (p0, ())
theorem s (k : Nat) (p0 : Int) : f k p0 =
 (some ((0, (p0, (0, 0))), ())) := by kernel_rfl
theorem ok (k : Nat) : Ok Tryz.prog 105 (sem k) := Fd.ok (cx_ok trivial) ⟨Tryz.func105, rfl, by kernel_rfl⟩ rfl
attribute [irreducible] f
end spec_l2Const
/-! loop.example/wholecheck/spec.l2Cond -/
namespace spec_l2Cond
noncomputable def D : Fd := ⟨Tryz.f130, 1, h13, (.ow .sh), [.loan (.ow (.ag (.pr .sh .sh))), .sh, .sh], h3, h16⟩
noncomputable def C (k : Nat) : Ctx := cx [(66, spec_l40Rd_pick.sem k), (65, spec_l40Rd_num.sem k), (161, spec_l2VarOf.sem k), (105, spec_l2Const.sem k)] [] [] [0] [(1, [0, 1, 2, 3, 4, 5, 6, 7, 8, 9, 10, 11])] [((1, 9), [4])] []
noncomputable def sem (k : Nat) : Sem := D.sem (D.ev (C k) k)
noncomputable def f (k : Nat) (p0 : ((List Int) × Int)) (p1 : (Int × (Int × Int))) (p2 : Int) : Option (y1 × ((List Int) × Int)) := D.ev (C k) k (p0, p1, p2, ())
theorem s (k : Nat) (p0 : ((List Int) × Int)) (p1 : (Int × (Int × Int))) (p2 : Int) : f k p0 p1 p2 =
 ((spec_l40Rd_pick.f k p0 (w64 ((w64 (p1.2.1 - p1.1)) + 1))).bind fun r1 =>
 (spec_l40Rd_num.f k r1.2 [6, 5, 5, 6]).bind fun r2 =>
 (spec_l2VarOf.f k p2).bind fun r3 =>
 (spec_l2Const.f k (w64 (p1.1 + r1.1))).bind fun r4 =>
 (spec_l40Rd_pick.f k r2.2 3).bind fun r5 =>
 if (r5.1 == 0) = true then
  gd (([r3.1, r4.1, (r2.1, (0, (0, 1)))].length : Int) + ([(7, (0, (2, 2)))].length : Int) ≤ 1099511627776) <| some ([r3.1, r4.1, (r2.1, (0, (0, 1)))] ++ [(7, (0, (2, 2)))], r5.2)
 else
  some ([r3.1, r4.1, (r2.1, (0, (0, 1)))], r5.2)) := by kernel_rfl
theorem ok (k : Nat) : Ok Tryz.prog 130 (sem k) := Fd.ok (cx_ok ⟨spec_l40Rd_pick.ok k, spec_l40Rd_num.ok k, spec_l2VarOf.ok k, spec_l2Const.ok k, trivial⟩) ⟨Tryz.func130, rfl, by kernel_rfl⟩ rfl
attribute [irreducible] f
end spec_l2Cond
/-! loop.example/wholecheck/spec.l1In -/
namespace spec_l1In
noncomputable def D : Fd := ⟨Tryz.f39, 1, .bool, .sh, [.sh, .sh, .sh], .unit, h18⟩
noncomputable def C (k : Nat) : Ctx := cx [] [] [] [] [] [] []
noncomputable def sem (k : Nat) : Sem := D.sem (D.ev (C k) k)
noncomputable def f (k : Nat) (p0 p1 p2 : Int) : Option (Bool × Unit) := D.ev (C k) k (p0, p1, p2, ())
theorem s (k : Nat) (p0 p1 p2 : Int) : f k p0 p1 p2 =
 (if (decide (p0 ≥ p1)) = true then
  some (decide (p0 ≤ p2), ())
 else
  some (false, ())) := by kernel_rfl
theorem ok (k : Nat) : Ok Tryz.prog 39 (sem k) := Fd.ok (cx_ok trivial) ⟨Tryz.func39, rfl, by kernel_rfl⟩ rfl
attribute [irreducible] f
end spec_l1In
/-! loop.example/wholecheck/spec.l1One -/
namespace spec_l1One
noncomputable def D : Fd := ⟨Tryz.f159, 1, .bool, .sh, [.sh], .unit, h5⟩
noncomputable def C (k : Nat) : Ctx := cx [] [] [] [] [] [] []
noncomputable def sem (k : Nat) : Sem := D.sem (D.ev (C k) k)
noncomputable def f (k : Nat) (p0 : Int) : Option (Bool × Unit) := D.ev (C k) k (p0, ())
theorem s (k : Nat) (p0 : Int) : f k p0 =
 (some (p0 == 7, ())) := by kernel_rfl
theorem ok (k : Nat) : Ok Tryz.prog 159 (sem k) := Fd.ok (cx_ok trivial) ⟨Tryz.func159, rfl, by kernel_rfl⟩ rfl
attribute [irreducible] f
end spec_l1One
/-! loop.example/wholecheck/spec.l1Kind -/
namespace spec_l1Kind
noncomputable def D : Fd := ⟨Tryz.f160, 1, I, .sh, [.sh, .sh, .sh], .unit, h20⟩
noncomputable def C (k : Nat) : Ctx := cx [(39, spec_l1In.sem k), (159, spec_l1One.sem k)] [] [] [] [] [] [(3, [(1, none), (2, none), (3, none)]), (5, [(1, none), (3, none)]), (10, [(1, none), (3, none), (7, none)])]
noncomputable def sem (k : Nat) : Sem := D.sem (D.ev (C k) k)
noncomputable def f (k : Nat) (p0 : y0) (p1 : (List Int)) (p2 : Int) : Option (Int × Unit) := D.ev (C k) k (p0, p1, p2, ())
noncomputable def lj3 (k : Nat) (p0 : y0) (p1 : (List Int)) (p2 : Int) (n : Nat) : Option (Int × Unit) :=
 D.jn (C k) k 3 [1] [] n [(3, .val h21 (.ow .sh) p0), (2, vI p2), (1, vS h7 p1)]
noncomputable def lj5 (k : Nat) (p0 : y0) (p1 : (List Int)) (n : Nat) : Option (Int × Unit) :=
 D.jn (C k) k 5 [1, 1] [] n [(3, .val h21 (.ow .sh) p0), (1, vS h7 p1)]
noncomputable def lj10 (k : Nat) (p0 : y0) (p1 : (List Int)) (n : Nat) (v7_j10 : Int) : Option (Int × Unit) :=
 D.jn (C k) k 10 [1, 1, 1, 1, 1] [] n [(7, vI v7_j10), (3, .val h21 (.ow .sh) p0), (1, vS h7 p1)]
theorem sj10 (k : Nat) (p0 : y0) (p1 : (List Int)) (n : Nat) (v7_j10 : Int) : lj10 k p0 p1 (n + 1) v7_j10 =
 (gd ((0 : Int) ≤ p0.2.2.1) <| gd (p0.2.2.1 < (p1.length : Int)) <| if ((p1.getD (p0.2.2.1.toNat) 0) != v7_j10) = true then
  some (0, ())
 else
  gd ((0 : Int) ≤ p0.2.2.2) <| gd (p0.2.2.2 < (p1.length : Int)) <| if ((p1.getD (p0.2.2.2.toNat) 0) != v7_j10) = true then
   some (0, ())
  else
   (spec_l1One.f k p0.1).bind fun r6 =>
   if r6.1 = true then
    if (p0.2.2.2 != p0.2.2.1) = true then
     some (0, ())
    else
     if (decide (p0.1 ≥ 5)) = true then
      some (2, ())
     else
      some (1, ())
   else
    if (decide (p0.1 ≥ 5)) = true then
     some (2, ())
    else
     some (1, ())) := by kernel_rfl
theorem sj5 (k : Nat) (p0 : y0) (p1 : (List Int)) (n : Nat) : lj5 k p0 p1 (n + 1) =
 ((spec_l1In.f k p0.1 2 9).bind fun r3 =>
 if (!r3.1) = true then
  some (0, ())
 else
  if (p0.2.1 != 0) = true then
   some (0, ())
  else
   (spec_l1In.f k p0.2.2.1 0 (w64 (((p1.length : Int)) - 1))).bind fun r4 =>
   if (!r4.1) = true then
    some (0, ())
   else
    (spec_l1In.f k p0.2.2.2 0 (w64 (((p1.length : Int)) - 1))).bind fun r5 =>
    if (!r5.1) = true then
     some (0, ())
    else
     if (decide (p0.1 ≥ 7)) = true then
      lj10 k p0 p1 k 2
     else
      lj10 k p0 p1 k 1) := by kernel_rfl
theorem sj3 (k : Nat) (p0 : y0) (p1 : (List Int)) (p2 : Int) (n : Nat) : lj3 k p0 p1 p2 (n + 1) =
 (if (p0.1 == 1) = true then
  (spec_l1In.f k p0.2.1 0 (w64 (p2 - 1))).bind fun r2 =>
  if r2.1 = true then
   if (p0.2.2.1 == 0) = true then
    if (p0.2.2.2 == 0) = true then
     some (1, ())
    else
     lj5 k p0 p1 k
   else
    lj5 k p0 p1 k
  else
   lj5 k p0 p1 k
 else
  lj5 k p0 p1 k) := by kernel_rfl
theorem s (k : Nat) (p0 : y0) (p1 : (List Int)) (p2 : Int) : f k p0 p1 p2 =
 (if (p0.1 == 0) = true then
  (spec_l1In.f k p0.2.1 (-9999) 9999).bind fun r1 =>
  if r1.1 = true then
   if (p0.2.2.1 == 0) = true then
    if (p0.2.2.2 == 0) = true then
     some (1, ())
    else
     lj3 k p0 p1 p2 k
   else
    lj3 k p0 p1 p2 k
  else
   lj3 k p0 p1 p2 k
 else
  lj3 k p0 p1 p2 k) := by kernel_rfl
theorem ok (k : Nat) : Ok Tryz.prog 160 (sem k) := Fd.ok (cx_ok ⟨spec_l1In.ok k, spec_l1One.ok k, trivial⟩) ⟨Tryz.func160, rfl, by kernel_rfl⟩ rfl
attribute [irreducible] f lj3 lj5 lj10
end spec_l1Kind
/-! loop.example/wholecheck/spec.KindsOf -/
namespace spec_KindsOf
noncomputable def D : Fd := ⟨Tryz.f134, 1, h7, (.ow .sh), [.sh, .sh], .unit, h22⟩
noncomputable def C (k : Nat) : Ctx := cx [(39, spec_l1In.sem k), (160, spec_l1Kind.sem k)] [] [(5, [(0, none), (1, none), (5, none), (6, none)])] [] [] [] []
noncomputable def sem (k : Nat) : Sem := D.sem (D.ev (C k) k)
noncomputable def f (k : Nat) (p0 : y1) (p1 : Int) : Option ((List Int) × Unit) := D.ev (C k) k (p0, p1, ())
noncomputable def l5 (k : Nat) (p0 : y1) (p1 : Int) (n : Nat) (v5_5 : (List Int)) (v6_5 : Int) : Option ((List Int) × Unit) :=
 D.lp (C k) k 5 [1, 1, 1, 0, 1, 0] [] n [(6, vI v6_5), (5, vO h7 v5_5), (1, vI p1), (0, vS h13 p0)]
theorem s5 (k : Nat) (p0 : y1) (p1 : Int) (n : Nat) (v5_5 : (List Int)) (v6_5 : Int) : l5 k p0 p1 (n + 1) v5_5 v6_5 =
 (if (decide (v6_5 < ((p0.length : Int)))) = true then
  gd ((0 : Int) ≤ v6_5) <| gd (v6_5 < (p0.length : Int)) <| (spec_l1Kind.f k (p0.getD (v6_5.toNat) (0, (0, (0, 0)))) v5_5 p1).bind fun r3 =>
  if (r3.1 == 0) = true then
   some ([], ())
  else
   gd ((v5_5.length : Int) + ([r3.1].length : Int) ≤ 1099511627776) <| l5 k p0 p1 n (v5_5 ++ [r3.1]) (w64 (v6_5 + 1))
 else
  some (v5_5, ())) := by kernel_rfl
theorem s (k : Nat) (p0 : y1) (p1 : Int) : f k p0 p1 =
 ((spec_l1In.f k p1 0 5).bind fun r1 =>
 if (!r1.1) = true then
  some ([], ())
 else
  (spec_l1In.f k ((p0.length : Int)) 1 40).bind fun r2 =>
  if (!r2.1) = true then
   some ([], ())
  else
   l5 k p0 p1 k [] 0) := by kernel_rfl
theorem ok (k : Nat) : Ok Tryz.prog 134 (sem k) := Fd.ok (cx_ok ⟨spec_l1In.ok k, spec_l1Kind.ok k, trivial⟩) ⟨Tryz.func134, rfl, by kernel_rfl⟩ rfl
attribute [irreducible] f l5
end spec_KindsOf
/-! loop.example/wholecheck/spec.TermsValid -/
namespace spec_TermsValid
noncomputable def D : Fd := ⟨Tryz.f162, 1, .bool, .sh, [.sh, .sh], .unit, h22⟩
noncomputable def C (k : Nat) : Ctx := cx [(134, spec_KindsOf.sem k)] [] [] [] [] [] []
noncomputable def sem (k : Nat) : Sem := D.sem (D.ev (C k) k)
noncomputable def f (k : Nat) (p0 : y1) (p1 : Int) : Option (Bool × Unit) := D.ev (C k) k (p0, p1, ())
theorem s (k : Nat) (p0 : y1) (p1 : Int) : f k p0 p1 =
 ((spec_KindsOf.f k p0 p1).bind fun r1 =>
 some (decide (((r1.1.length : Int)) > 0), ())) := by kernel_rfl
theorem ok (k : Nat) : Ok Tryz.prog 162 (sem k) := Fd.ok (cx_ok ⟨spec_KindsOf.ok k, trivial⟩) ⟨Tryz.func162, rfl, by kernel_rfl⟩ rfl
attribute [irreducible] f
end spec_TermsValid
/-! loop.example/wholecheck/spec.l1Moved -/
namespace spec_l1Moved
noncomputable def D : Fd := ⟨Tryz.f163, 1, h12, .sh, [.sh, .sh], .unit, h23⟩
noncomputable def C (k : Nat) : Ctx := cx [] [] [] [] [] [] []
noncomputable def sem (k : Nat) : Sem := D.sem (D.ev (C k) k)
noncomputable def f (k : Nat) (p0 : y0) (p1 : Int) : Option (y0 × Unit) := D.ev (C k) k (p0, p1, ())
theorem s (k : Nat) (p0 : y0) (p1 : Int) : f k p0 p1 =
 (if (decide (p0.1 ≥ 2)) = true then
  some ((p0.1, (0, (w64 (p0.2.2.1 + p1), w64 (p0.2.2.2 + p1)))), ())
 else
  some (p0, ())) := by kernel_rfl
theorem ok (k : Nat) : Ok Tryz.prog 163 (sem k) := Fd.ok (cx_ok trivial) ⟨Tryz.func163, rfl, by kernel_rfl⟩ rfl
attribute [irreducible] f
end spec_l1Moved
/-! loop.example/wholecheck/spec.Joined -/
namespace spec_Joined
noncomputable def D : Fd := ⟨Tryz.f131, 1, h13, (.ow .sh), [.sh, .sh, .sh, .sh], .unit, h25⟩
noncomputable def C (k : Nat) : Ctx := cx [(162, spec_TermsValid.sem k), (159, spec_l1One.sem k), (163, spec_l1Moved.sem k)] [] [(5, [(0, none), (1, none), (2, none), (3, none), (9, some (h13, (.ow (.ag (.pr .sh (.pr .sh (.pr .sh .sh))))))), (10, none)]), (9, [(0, none), (1, none), (2, none), (3, none), (9, some (h13, (.ow (.ag (.pr .sh (.pr .sh (.pr .sh .sh))))))), (11, none)])] [] [] [] [(12, [(0, none), (1, none), (3, none), (9, none)])]
noncomputable def sem (k : Nat) : Sem := D.sem (D.ev (C k) k)
noncomputable def f (k : Nat) (p0 : Int) (p1 p2 : y1) (p3 : Int) : Option (y1 × Unit) := D.ev (C k) k (p0, p1, p2, p3, ())
noncomputable def l5 (k : Nat) (p0 : Int) (p1 p2 : y1) (p3 : Int) (n : Nat) (v9_5 : y1) (v10_5 : Int) : Option (y1 × Unit) :=
 D.lp (C k) k 5 [1, 1, 1, 0, 1, 0] [] n [(10, vI v10_5), (9, vO h13 v9_5), (3, vI p3), (2, vS h13 p2), (1, vS h13 p1), (0, vI p0)]
noncomputable def l9 (k : Nat) (p0 : Int) (p1 p2 : y1) (p3 : Int) (n : Nat) (v9_9 : y1) (v11_9 : Int) : Option (y1 × Unit) :=
 D.lp (C k) k 9 [1, 1, 1, 1, 0, 1, 0] [] n [(11, vI v11_9), (9, vO h13 v9_9), (3, vI p3), (2, vS h13 p2), (1, vS h13 p1), (0, vI p0)]
noncomputable def lj12 (k : Nat) (p0 : Int) (p1 : y1) (p3 : Int) (v9_9 : y1) (n : Nat) : Option (y1 × Unit) :=
 D.jn (C k) k 12 [1, 1, 1, 1] [] n [(9, vO h13 v9_9), (3, vI p3), (1, vS h13 p1), (0, vI p0)]
theorem sj12 (k : Nat) (p0 : Int) (p1 : y1) (p3 : Int) (v9_9 : y1) (n : Nat) : lj12 k p0 p1 p3 v9_9 (n + 1) =
 (gd ((v9_9.length : Int) + ([(p0, (0, (w64 (((p1.length : Int)) - 1), w64 (((v9_9.length : Int)) - 1))))].length : Int) ≤ 1099511627776) <| if (decide (p0 < 2)) = true then
  some ([], ())
 else
  (spec_TermsValid.f k (v9_9 ++ [(p0, (0, (w64 (((p1.length : Int)) - 1), w64 (((v9_9.length : Int)) - 1))))]) p3).bind fun r5 =>
  if (!r5.1) = true then
   some ([], ())
  else
   some (v9_9 ++ [(p0, (0, (w64 (((p1.length : Int)) - 1), w64 (((v9_9.length : Int)) - 1))))], ())) := by kernel_rfl
theorem s9 (k : Nat) (p0 : Int) (p1 p2 : y1) (p3 : Int) (n : Nat) (v9_9 : y1) (v11_9 : Int) : l9 k p0 p1 p2 p3 (n + 1) v9_9 v11_9 =
 (if (decide (v11_9 < ((p2.length : Int)))) = true then
  (spec_l1One.f k p0).bind fun r3 =>
  if (!r3.1) = true then
   gd ((0 : Int) ≤ v11_9) <| gd (v11_9 < (p2.length : Int)) <| (spec_l1Moved.f k (p2.getD (v11_9.toNat) (0, (0, (0, 0)))) ((p1.length : Int))).bind fun r4 =>
   gd ((v9_9.length : Int) + ([r4.1].length : Int) ≤ 1099511627776) <| l9 k p0 p1 p2 p3 n (v9_9 ++ [r4.1]) (w64 (v11_9 + 1))
  else
   lj12 k p0 p1 p3 v9_9 k
 else
  lj12 k p0 p1 p3 v9_9 k) := by kernel_rfl
theorem s5 (k : Nat) (p0 : Int) (p1 p2 : y1) (p3 : Int) (n : Nat) (v9_5 : y1) (v10_5 : Int) : l5 k p0 p1 p2 p3 (n + 1) v9_5 v10_5 =
 (if (decide (v10_5 < ((p1.length : Int)))) = true then
  gd ((0 : Int) ≤ v10_5) <| gd (v10_5 < (p1.length : Int)) <| gd ((v9_5.length : Int) + ([(p1.getD (v10_5.toNat) (0, (0, (0, 0))))].length : Int) ≤ 1099511627776) <| l5 k p0 p1 p2 p3 n (v9_5 ++ [(p1.getD (v10_5.toNat) (0, (0, (0, 0))))]) (w64 (v10_5 + 1))
 else
  l9 k p0 p1 p2 p3 k v9_5 0) := by kernel_rfl
theorem s (k : Nat) (p0 : Int) (p1 p2 : y1) (p3 : Int) : f k p0 p1 p2 p3 =
 ((spec_TermsValid.f k p1 p3).bind fun r1 =>
 if (!r1.1) = true then
  some ([], ())
 else
  (spec_TermsValid.f k p2 p3).bind fun r2 =>
  if (!r2.1) = true then
   some ([], ())
  else
   l5 k p0 p1 p2 p3 k [] 0) := by kernel_rfl
theorem ok (k : Nat) : Ok Tryz.prog 131 (sem k) := Fd.ok (cx_ok ⟨spec_TermsValid.ok k, spec_l1One.ok k, spec_l1Moved.ok k, trivial⟩) ⟨Tryz.func131, rfl, by kernel_rfl⟩ rfl
attribute [irreducible] f l5 l9 lj12
end spec_Joined
/-! loop.example/wholecheck/spec.l2When -/
namespace spec_l2When_w1
noncomputable def D : Fd := ⟨Tryz.f110, 1, h13, (.ow .sh), [.loan (.ow (.ag (.pr .sh .sh))), .loan (.ow (.ag (.pr .sh (.pr .sh .sh))))], h27, h29⟩
noncomputable def C (k : Nat) : Ctx := cx [(66, spec_l40Rd_pick.sem k), (130, spec_l2Cond.sem k), (65, spec_l40Rd_num.sem k), (131, spec_Joined.sem k)] [((5, 14), 3)] [] [0, 1] [(5, [0, 3, 4, 5, 6, 7, 8, 9, 11, 12, 1, 2, 10, 13, 14])] [((5, 1), [1]), ((5, 2), [1])] []
noncomputable def sem (k : Nat) : Sem := D.sem (D.ev (C k) k)
noncomputable def f (k : Nat) (p0 : ((List Int) × Int)) (p1 : y2) : Option (y1 × y3) := D.ev (C k) k (p0, p1, ())
theorem s (k : Nat) (p0 : ((List Int) × Int)) (p1 : y2) : f k p0 p1 =
 ((spec_l40Rd_pick.f k p0 ((p1.length : Int))).bind fun r1 =>
 gd ((0 : Int) ≤ r1.1) <| gd (r1.1 < (p1.length : Int)) <| (spec_l2Cond.f k r1.2 (p1.getD (r1.1.toNat) (0, (0, 0))) r1.1).bind fun r2 =>
 (spec_l40Rd_pick.f k r2.2 2).bind fun r3 =>
 if (r3.1 == 0) = true then
  (spec_l40Rd_pick.f k r3.2 ((p1.length : Int))).bind fun r4 =>
  gd ((0 : Int) ≤ r4.1) <| gd (r4.1 < (p1.length : Int)) <| (spec_l40Rd_num.f k r4.2 [8, 9, 8]).bind fun r5 =>
  (spec_l2Cond.f k r5.2 (p1.getD (r4.1.toNat) (0, (0, 0))) r4.1).bind fun r6 =>
  (spec_Joined.f k r5.1 r2.1 r6.1 ((p1.length : Int))).bind fun r7 =>
  some (r7.1, (r6.2, p1))
 else
  some (r2.1, (r3.2, p1))) := by kernel_rfl
theorem ok (k : Nat) : Ok Tryz.prog 110 (sem k) := Fd.ok (cx_ok ⟨spec_l40Rd_pick.ok k, spec_l2Cond.ok k, spec_l40Rd_num.ok k, spec_Joined.ok k, trivial⟩) ⟨Tryz.func110, rfl, by kernel_rfl⟩ rfl
attribute [irreducible] f
end spec_l2When_w1
/-! loop.example/wholecheck/spec.l1Number -/
namespace spec_l1Number
noncomputable def D : Fd := ⟨Tryz.f157, 1, I, .sh, [.loan (.ow (.ag (.pr .sh .sh)))], h3, h30⟩
noncomputable def C (k : Nat) : Ctx := cx [(66, spec_l40Rd_pick.sem k), (65, spec_l40Rd_num.sem k)] [] [] [0] [] [] []
noncomputable def sem (k : Nat) : Sem := D.sem (D.ev (C k) k)
noncomputable def f (k : Nat) (p0 : ((List Int) × Int)) : Option (Int × ((List Int) × Int)) := D.ev (C k) k (p0, ())
theorem s (k : Nat) (p0 : ((List Int) × Int)) : f k p0 =
 ((spec_l40Rd_pick.f k p0 4).bind fun r1 =>
 (spec_l40Rd_pick.f k r1.2 4).bind fun r2 =>
 (spec_l40Rd_pick.f k r2.2 7).bind fun r3 =>
 (spec_l40Rd_pick.f k r3.2 200).bind fun r4 =>
 (spec_l40Rd_pick.f k r4.2 4).bind fun r5 =>
 gd ((0 : Int) ≤ r5.1) <| gd (r5.1 < ([9999, (-9999), 5000, 100].length : Int)) <| (spec_l40Rd_num.f k r5.2 [r1.1, r2.1, (w64 (r3.1 - 3)), 1, 0, (w64 (r4.1 - 100)), ([9999, (-9999), 5000, 100].getD (r5.1.toNat) 0)]).bind fun r6 =>
 some (r6.1, r6.2)) := by kernel_rfl
theorem ok (k : Nat) : Ok Tryz.prog 157 (sem k) := Fd.ok (cx_ok ⟨spec_l40Rd_pick.ok k, spec_l40Rd_num.ok k, trivial⟩) ⟨Tryz.func157, rfl, by kernel_rfl⟩ rfl
attribute [irreducible] f
end spec_l1Number
/-! loop.example/wholecheck/spec.l1Pick -/
namespace spec_l1Pick_w1
noncomputable def D : Fd := ⟨Tryz.f158, 1, I, .sh, [.loan (.ow (.ag (.pr .sh .sh))), .loan (.ow .sh), .sh], h31, h32⟩
noncomputable def C (k : Nat) : Ctx := cx [(66, spec_l40Rd_pick.sem k)] [] [(3, [(0, none), (1, none), (2, none), (7, none), (8, none)])] [0, 1] [] [] []
noncomputable def sem (k : Nat) : Sem := D.sem (D.ev (C k) k)
noncomputable def f (k : Nat) (p0 : ((List Int) × Int)) (p1 : (List Int)) (p2 : Int) : Option (Int × y4) := D.ev (C k) k (p0, p1, p2, ())
noncomputable def l3 (k : Nat) (p1 : (List Int)) (p2 : Int) (n : Nat) (v0_3 : ((List Int) × Int)) (v7_3 v8_3 : Int) : Option (Int × y4) :=
 D.lp (C k) k 3 [1, 1, 0, 1, 0] [] n [(8, vI v8_3), (7, vI v7_3), (2, vI p2), (1, vO h7 p1), (0, .val h3 (.ow (.ag (.pr .sh .sh))) v0_3)]
theorem s3 (k : Nat) (p1 : (List Int)) (p2 : Int) (n : Nat) (v0_3 : ((List Int) × Int)) (v7_3 v8_3 : Int) : l3 k p1 p2 (n + 1) v0_3 v7_3 v8_3 =
 (if (decide (v8_3 < ((p1.length : Int)))) = true then
  gd ((((p1.length : Int)) : Int) ≠ 0) <| gd ((0 : Int) ≤ ((w64 (v7_3 + v8_3)).tmod ((p1.length : Int)))) <| gd (((w64 (v7_3 + v8_3)).tmod ((p1.length : Int))) < (p1.length : Int)) <| if ((p1.getD (((w64 (v7_3 + v8_3)).tmod ((p1.length : Int))).toNat) 0) == p2) = true then
   some ((w64 (v7_3 + v8_3)).tmod ((p1.length : Int)), (v0_3, p1))
  else
   l3 k p1 p2 n v0_3 v7_3 (w64 (v8_3 + 1))
 else
  some ((-1), (v0_3, p1))) := by kernel_rfl
theorem s (k : Nat) (p0 : ((List Int) × Int)) (p1 : (List Int)) (p2 : Int) : f k p0 p1 p2 =
 ((spec_l40Rd_pick.f k p0 ((p1.length : Int))).bind fun r1 =>
 l3 k p1 p2 k r1.2 r1.1 0) := by kernel_rfl
theorem ok (k : Nat) : Ok Tryz.prog 158 (sem k) := Fd.ok (cx_ok ⟨spec_l40Rd_pick.ok k, trivial⟩) ⟨Tryz.func158, rfl, by kernel_rfl⟩ rfl
attribute [irreducible] f l3
end spec_l1Pick_w1
/-! loop.example/wholecheck/spec.l1Pick -/
namespace spec_l1Pick
noncomputable def D : Fd := ⟨Tryz.f158, 1, I, .sh, [.loan (.ow (.ag (.pr .sh .sh))), .sh, .sh], h3, h32⟩
noncomputable def C (k : Nat) : Ctx := cx [(66, spec_l40Rd_pick.sem k)] [] [(3, [(0, none), (1, none), (2, none), (7, none), (8, none)])] [0] [] [] []
noncomputable def sem (k : Nat) : Sem := D.sem (D.ev (C k) k)
noncomputable def f (k : Nat) (p0 : ((List Int) × Int)) (p1 : (List Int)) (p2 : Int) : Option (Int × ((List Int) × Int)) := D.ev (C k) k (p0, p1, p2, ())
noncomputable def l3 (k : Nat) (p1 : (List Int)) (p2 : Int) (n : Nat) (v0_3 : ((List Int) × Int)) (v7_3 v8_3 : Int) : Option (Int × ((List Int) × Int)) :=
 D.lp (C k) k 3 [1, 1, 0, 1, 0] [] n [(8, vI v8_3), (7, vI v7_3), (2, vI p2), (1, vS h7 p1), (0, .val h3 (.ow (.ag (.pr .sh .sh))) v0_3)]
theorem s3 (k : Nat) (p1 : (List Int)) (p2 : Int) (n : Nat) (v0_3 : ((List Int) × Int)) (v7_3 v8_3 : Int) : l3 k p1 p2 (n + 1) v0_3 v7_3 v8_3 =
 (if (decide (v8_3 < ((p1.length : Int)))) = true then
  gd ((((p1.length : Int)) : Int) ≠ 0) <| gd ((0 : Int) ≤ ((w64 (v7_3 + v8_3)).tmod ((p1.length : Int)))) <| gd (((w64 (v7_3 + v8_3)).tmod ((p1.length : Int))) < (p1.length : Int)) <| if ((p1.getD (((w64 (v7_3 + v8_3)).tmod ((p1.length : Int))).toNat) 0) == p2) = true then
   some ((w64 (v7_3 + v8_3)).tmod ((p1.length : Int)), v0_3)
  else
   l3 k p1 p2 n v0_3 v7_3 (w64 (v8_3 + 1))
 else
  some ((-1), v0_3)) := by kernel_rfl
theorem s (k : Nat) (p0 : ((List Int) × Int)) (p1 : (List Int)) (p2 : Int) : f k p0 p1 p2 =
 ((spec_l40Rd_pick.f k p0 ((p1.length : Int))).bind fun r1 =>
 l3 k p1 p2 k r1.2 r1.1 0) := by kernel_rfl
theorem ok (k : Nat) : Ok Tryz.prog 158 (sem k) := Fd.ok (cx_ok ⟨spec_l40Rd_pick.ok k, trivial⟩) ⟨Tryz.func158, rfl, by kernel_rfl⟩ rfl
attribute [irreducible] f l3
end spec_l1Pick
/-! loop.example/wholecheck/spec.l1Terms -/
namespace spec_l1Terms
noncomputable def D : Fd := ⟨Tryz.f129, 1, h13, (.ow .sh), [.loan (.ow (.ag (.pr .sh .sh))), .sh, .sh, .sh], h3, h33⟩
noncomputable def C (k : Nat) : Ctx := cx [(66, spec_l40Rd_pick.sem k), (65, spec_l40Rd_num.sem k), (157, spec_l1Number.sem k), (160, spec_l1Kind.sem k), (158, spec_l1Pick_w1.sem k), (159, spec_l1One.sem k), (158, spec_l1Pick.sem k)] [((28, 7), 1), ((30, 2), 1), ((31, 7), 1)] [(4, [(0, none), (1, none), (2, none), (9, some (h13, (.ow (.ag (.pr .sh (.pr .sh (.pr .sh .sh))))))), (10, none), (11, none)])] [0] [] [] [(9, [(0, none), (1, none), (2, none), (9, none), (10, none), (11, none), (12, none), (13, none), (39, none)]), (19, [(0, none), (1, none), (2, none), (9, none), (10, none), (11, none), (13, none)]), (15, [(0, none), (1, none), (2, none), (9, none), (10, none), (11, none), (12, none), (13, none), (14, none)]), (26, [(0, none), (2, none), (9, some (h13, (.ow .sh))), (10, none)]), (28, [(0, none), (2, none), (9, none), (10, none), (16, none), (106, none)])]
noncomputable def sem (k : Nat) : Sem := D.sem (D.ev (C k) k)
noncomputable def f (k : Nat) (p0 : ((List Int) × Int)) (p1 p2 p3 : Int) : Option (y1 × ((List Int) × Int)) := D.ev (C k) k (p0, p1, p2, p3, ())
noncomputable def l4 (k : Nat) (p1 p2 : Int) (n : Nat) (v0_4 : ((List Int) × Int)) (v9_4 : y1) (v10_4 : (List Int)) (v11_4 : Int) : Option (y1 × ((List Int) × Int)) :=
 D.lp (C k) k 4 [1, 1, 1, 0, 1, 0] [] n [(11, vI v11_4), (10, vO h7 v10_4), (9, vO h13 v9_4), (2, vI p2), (1, vI p1), (0, .val h3 (.ow (.ag (.pr .sh .sh))) v0_4)]
noncomputable def lj9 (k n4 : Nat) (p1 p2 : Int) (v10_4 : (List Int)) (v11_4 : Int) (v9_4 : y1) (n : Nat) (v0_j9 : ((List Int) × Int)) (v12_j9 : Int) (v13_j9 : y0) (v39_j9 : Bool) : Option (y1 × ((List Int) × Int)) :=
 D.jn (C k) k 9 [1, 1, 1, 0, 1, 0, 0, 1, 0, 0, 1, 1, 0] [n4] n [(39, vB v39_j9), (13, vO h21 v13_j9), (12, vI v12_j9), (11, vI v11_4), (10, vO h7 v10_4), (9, vO h13 v9_4), (2, vI p2), (1, vI p1), (0, .val h3 (.ow (.ag (.pr .sh .sh))) v0_j9)]
noncomputable def lj19 (k n4 : Nat) (p1 p2 v11_4 : Int) (v9_4 : y1) (n : Nat) (v0_j19 : ((List Int) × Int)) (v10_j19 : (List Int)) (v13_j19 : y0) : Option (y1 × ((List Int) × Int)) :=
 D.jn (C k) k 19 [1, 1, 1, 0, 1, 0, 0, 1, 0, 0, 1, 1] [n4] n [(13, vO h21 v13_j19), (11, vI v11_4), (10, vO h7 v10_j19), (9, vO h13 v9_4), (2, vI p2), (1, vI p1), (0, .val h3 (.ow (.ag (.pr .sh .sh))) v0_j19)]
noncomputable def lj15 (k n4 : Nat) (p1 p2 : Int) (v0_j9 : ((List Int) × Int)) (v10_4 : (List Int)) (v11_4 v12_j9 : Int) (v13_j9 : y0) (v9_4 : y1) (n : Nat) (v14_j15 : Int) : Option (y1 × ((List Int) × Int)) :=
 D.jn (C k) k 15 [1, 1, 1, 0, 1, 0, 0, 1, 0, 0, 1, 1, 0, 1, 1, 1] [n4] n [(14, vI v14_j15), (13, vO h21 v13_j9), (12, vI v12_j9), (11, vI v11_4), (10, vO h7 v10_4), (9, vO h13 v9_4), (2, vI p2), (1, vI p1), (0, .val h3 (.ow (.ag (.pr .sh .sh))) v0_j9)]
noncomputable def lj26 (k : Nat) (p2 : Int) (v0_4 : ((List Int) × Int)) (n : Nat) (v9_j26 : y1) (v10_j26 : (List Int)) : Option (y1 × ((List Int) × Int)) :=
 D.jn (C k) k 26 [1, 1, 1, 1] [] n [(10, vO h7 v10_j26), (9, .val h13 (.ow .sh) v9_j26), (2, vI p2), (0, .val h3 (.ow (.ag (.pr .sh .sh))) v0_4)]
noncomputable def lj28 (k : Nat) (p2 : Int) (v0_4 : ((List Int) × Int)) (v10_j26 : (List Int)) (v9_j26 : y1) (n : Nat) (v106_j28 : Bool) : Option (y1 × ((List Int) × Int)) :=
 D.jn (C k) k 28 [1, 1, 1, 1, 1, 1, 0] [] n [(106, vB v106_j28), (16, vI (w64 (((v9_j26.length : Int)) - 1))), (10, vO h7 v10_j26), (9, .val h13 (.ow .sh) v9_j26), (2, vI p2), (0, .val h3 (.ow (.ag (.pr .sh .sh))) v0_4)]
theorem sj19 (k n4 : Nat) (p1 p2 v11_4 : Int) (v9_4 : y1) (n : Nat) (v0_j19 : ((List Int) × Int)) (v10_j19 : (List Int)) (v13_j19 : y0) : lj19 k n4 p1 p2 v11_4 v9_4 (n + 1) v0_j19 v10_j19 v13_j19 =
 ((spec_l1Kind.f k v13_j19 v10_j19 p1).bind fun r5 =>
 if (r5.1 != 0) = true then
  gd ((v9_4.length : Int) + ([v13_j19].length : Int) ≤ 1099511627776) <| gd ((v10_j19.length : Int) + ([r5.1].length : Int) ≤ 1099511627776) <| l4 k p1 p2 n4 v0_j19 (v9_4 ++ [v13_j19]) (v10_j19 ++ [r5.1]) (w64 (v11_4 - 1))
 else
  l4 k p1 p2 n4 v0_j19 v9_4 v10_j19 (w64 (v11_4 - 1))) := by kernel_rfl
theorem sj15 (k n4 : Nat) (p1 p2 : Int) (v0_j9 : ((List Int) × Int)) (v10_4 : (List Int)) (v11_4 v12_j9 : Int) (v13_j9 : y0) (v9_4 : y1) (n : Nat) (v14_j15 : Int) : lj15 k n4 p1 p2 v0_j9 v10_4 v11_4 v12_j9 v13_j9 v9_4 (n + 1) v14_j15 =
 ((spec_l1Pick_w1.f k v0_j9 v10_4 v14_j15).bind fun r6 =>
 (spec_l1Pick_w1.f k r6.2.1 r6.2.2 v14_j15).bind fun r7 =>
 (spec_l1One.f k v12_j9).bind fun r8 =>
 if r8.1 = true then
  lj19 k n4 p1 p2 v11_4 v9_4 k r7.2.1 r7.2.2 (v13_j9.1, (v13_j9.2.1, (r6.1, r6.1)))
 else
  lj19 k n4 p1 p2 v11_4 v9_4 k r7.2.1 r7.2.2 (v13_j9.1, (v13_j9.2.1, (r6.1, r7.1)))) := by kernel_rfl
theorem sj9 (k n4 : Nat) (p1 p2 : Int) (v10_4 : (List Int)) (v11_4 : Int) (v9_4 : y1) (n : Nat) (v0_j9 : ((List Int) × Int)) (v12_j9 : Int) (v13_j9 : y0) (v39_j9 : Bool) : lj9 k n4 p1 p2 v10_4 v11_4 v9_4 (n + 1) v0_j9 v12_j9 v13_j9 v39_j9 =
 (if v39_j9 = true then
  (spec_l1Number.f k v0_j9).bind fun r3 =>
  if (decide (p1 > 0)) = true then
   if (v12_j9 != 0) = true then
    (spec_l40Rd_pick.f k r3.2 p1).bind fun r4 =>
    lj19 k n4 p1 p2 v11_4 v9_4 k r4.2 v10_4 (1, (r4.1, (0, 0)))
   else
    lj19 k n4 p1 p2 v11_4 v9_4 k r3.2 v10_4 (0, (r3.1, (0, 0)))
  else
   lj19 k n4 p1 p2 v11_4 v9_4 k r3.2 v10_4 (0, (r3.1, (0, 0)))
 else
  if (decide (v12_j9 ≥ 7)) = true then
   lj15 k n4 p1 p2 v0_j9 v10_4 v11_4 v12_j9 v13_j9 v9_4 k 2
  else
   lj15 k n4 p1 p2 v0_j9 v10_4 v11_4 v12_j9 v13_j9 v9_4 k 1) := by kernel_rfl
theorem sj28 (k : Nat) (p2 : Int) (v0_4 : ((List Int) × Int)) (v10_j26 : (List Int)) (v9_j26 : y1) (n : Nat) (v106_j28 : Bool) : lj28 k p2 v0_4 v10_j26 v9_j26 (n + 1) v106_j28 =
 (if v106_j28 = true then
  (spec_l40Rd_num.f k v0_4 [5, 6]).bind fun r9 =>
  (spec_l1Pick.f k r9.2 v10_j26 1).bind fun r10 =>
  gd ((v9_j26.length : Int) + ([(r9.1, (0, (w64 (((v9_j26.length : Int)) - 1), r10.1)))].length : Int) ≤ 1099511627776) <| some (v9_j26 ++ [(r9.1, (0, (w64 (((v9_j26.length : Int)) - 1), r10.1)))], r10.2)
 else
  if (p2 == 1) = true then
   gd ((0 : Int) ≤ (w64 (((v9_j26.length : Int)) - 1))) <| gd ((w64 (((v9_j26.length : Int)) - 1)) < (v10_j26.length : Int)) <| if ((v10_j26.getD ((w64 (((v9_j26.length : Int)) - 1)).toNat) 0) != p2) = true then
    (spec_l1Pick.f k v0_4 v10_j26 1).bind fun r11 =>
    (spec_l40Rd_num.f k r11.2 [2, 3]).bind fun r12 =>
    (spec_l1Pick.f k r12.2 v10_j26 1).bind fun r13 =>
    gd ((v9_j26.length : Int) + ([(r12.1, (0, (r11.1, r13.1)))].length : Int) ≤ 1099511627776) <| some (v9_j26 ++ [(r12.1, (0, (r11.1, r13.1)))], r13.2)
   else
    some (v9_j26, v0_4)
  else
   some (v9_j26, v0_4)) := by kernel_rfl
theorem sj26 (k : Nat) (p2 : Int) (v0_4 : ((List Int) × Int)) (n : Nat) (v9_j26 : y1) (v10_j26 : (List Int)) : lj26 k p2 v0_4 (n + 1) v9_j26 v10_j26 =
 (if (p2 == 2) = true then
  gd ((0 : Int) ≤ (w64 (((v9_j26.length : Int)) - 1))) <| gd ((w64 (((v9_j26.length : Int)) - 1)) < (v10_j26.length : Int)) <| lj28 k p2 v0_4 v10_j26 v9_j26 k ((v10_j26.getD ((w64 (((v9_j26.length : Int)) - 1)).toNat) 0) != p2)
 else
  lj28 k p2 v0_4 v10_j26 v9_j26 k false) := by kernel_rfl
theorem s4 (k : Nat) (p1 p2 : Int) (n : Nat) (v0_4 : ((List Int) × Int)) (v9_4 : y1) (v10_4 : (List Int)) (v11_4 : Int) : l4 k p1 p2 (n + 1) v0_4 v9_4 v10_4 v11_4 =
 (if (decide (v11_4 > 0)) = true then
  (spec_l40Rd_num.f k v0_4 [0, 1, 1, 2, 3, 4, 5, 6, 5, 6, 7, 8, 9]).bind fun r2 =>
  if (((v9_4.length : Int)) == 0) = true then
   lj9 k n p1 p2 v10_4 v11_4 v9_4 k r2.2 r2.1 (r2.1, (0, (0, 0))) true
  else
   lj9 k n p1 p2 v10_4 v11_4 v9_4 k r2.2 r2.1 (r2.1, (0, (0, 0))) (decide (r2.1 < 2))
 else
  if (((v9_4.length : Int)) == 0) = true then
   gd ((v9_4.length : Int) + ([(0, (1, (0, 0)))].length : Int) ≤ 1099511627776) <| gd ((v10_4.length : Int) + ([1].length : Int) ≤ 1099511627776) <| lj26 k p2 v0_4 k (v9_4 ++ [(0, (1, (0, 0)))]) (v10_4 ++ [1])
  else
   lj26 k p2 v0_4 k v9_4 v10_4) := by kernel_rfl
theorem s (k : Nat) (p0 : ((List Int) × Int)) (p1 p2 p3 : Int) : f k p0 p1 p2 p3 =
 ((spec_l40Rd_pick.f k p0 p3).bind fun r1 =>
 l4 k p1 p2 k r1.2 [] [] (w64 (2 + r1.1))) := by kernel_rfl
theorem ok (k : Nat) : Ok Tryz.prog 129 (sem k) := Fd.ok (cx_ok ⟨spec_l40Rd_pick.ok k, spec_l40Rd_num.ok k, spec_l1Number.ok k, spec_l1Kind.ok k, spec_l1Pick_w1.ok k, spec_l1One.ok k, spec_l1Pick.ok k, trivial⟩) ⟨Tryz.func129, rfl, by kernel_rfl⟩ rfl
attribute [irreducible] f l4 lj9 lj19 lj15 lj26 lj28
end spec_l1Terms
/-! loop.example/wholecheck/spec.l2Value -/
namespace spec_l2Value_w1
noncomputable def D : Fd := ⟨Tryz.f155, 1, h13, (.ow .sh), [.loan (.ow (.ag (.pr .sh .sh))), .loan (.ow (.ag (.pr .sh (.pr .sh .sh)))), .sh], h27, h35⟩
noncomputable def C (k : Nat) : Ctx := cx [(66, spec_l40Rd_pick.sem k), (161, spec_l2VarOf.sem k), (105, spec_l2Const.sem k), (65, spec_l40Rd_num.sem k), (129, spec_l1Terms.sem k)] [] [] [0, 1] [(5, [0, 1, 2, 3, 4, 5, 6, 7, 8, 9, 10, 11, 12, 13, 14, 15, 16, 17, 18, 19, 20, 21, 22])] [((5, 18), [1])] []
noncomputable def sem (k : Nat) : Sem := D.sem (D.ev (C k) k)
noncomputable def f (k : Nat) (p0 : ((List Int) × Int)) (p1 : y2) (p2 : Int) : Option (y1 × y3) := D.ev (C k) k (p0, p1, p2, ())
theorem s (k : Nat) (p0 : ((List Int) × Int)) (p1 : y2) (p2 : Int) : f k p0 p1 p2 =
 ((spec_l40Rd_pick.f k p0 6).bind fun r1 =>
 if (decide (r1.1 < 3)) = true then
  (spec_l2VarOf.f k p2).bind fun r2 =>
  (spec_l2Const.f k 1).bind fun r3 =>
  (spec_l40Rd_num.f k r1.2 [2, 3]).bind fun r4 =>
  some ([r2.1, r3.1, (r4.1, (0, (0, 1)))], (r4.2, p1))
 else
  if (r1.1 == 3) = true then
   gd ((0 : Int) ≤ p2) <| gd (p2 < (p1.length : Int)) <| gd ((0 : Int) ≤ p2) <| gd (p2 < (p1.length : Int)) <| gd ((0 : Int) ≤ p2) <| gd (p2 < (p1.length : Int)) <| (spec_l40Rd_pick.f k r1.2 (w64 ((w64 ((p1.getD (p2.toNat) (0, (0, 0))).2.1 - (p1.getD (p2.toNat) (0, (0, 0))).1)) + 1))).bind fun r5 =>
   (spec_l2Const.f k (w64 ((p1.getD (p2.toNat) (0, (0, 0))).1 + r5.1))).bind fun r6 =>
   some ([r6.1], (r5.2, p1))
  else
   if (r1.1 == 4) = true then
    (spec_l40Rd_pick.f k r1.2 ((p1.length : Int))).bind fun r7 =>
    (spec_l2VarOf.f k r7.1).bind fun r8 =>
    some ([r8.1], (r7.2, p1))
   else
    (spec_l1Terms.f k r1.2 ((p1.length : Int)) 1 5).bind fun r9 =>
    some (r9.1, (r9.2, p1))) := by kernel_rfl
theorem ok (k : Nat) : Ok Tryz.prog 155 (sem k) := Fd.ok (cx_ok ⟨spec_l40Rd_pick.ok k, spec_l2VarOf.ok k, spec_l2Const.ok k, spec_l40Rd_num.ok k, spec_l1Terms.ok k, trivial⟩) ⟨Tryz.func155, rfl, by kernel_rfl⟩ rfl
attribute [irreducible] f
end spec_l2Value_w1
/-! loop.example/wholecheck/spec.l2Rules -/
namespace spec_l2Rules_w1
noncomputable def D : Fd := ⟨Tryz.f127, 1, h40, (.ow (.ag (.pr (.ow (.ag (.pr .sh (.pr .sh (.pr .sh .sh))))) (.pr (.ow .sh) (.ow (.ow (.ag (.pr .sh (.pr .sh (.pr .sh .sh)))))))))), [.loan (.ow (.ag (.pr .sh .sh))), .loan (.ow (.ag (.pr .sh (.pr .sh .sh)))), .sh], h27, h35⟩
noncomputable def C (k : Nat) : Ctx := cx [(110, spec_l2When_w1.sem k), (66, spec_l40Rd_pick.sem k), (155, spec_l2Value_w1.sem k)] [((11, 7), 4)] [(3, [(0, none), (1, none), (2, none), (7, some (h40, (.ow (.ag (.pr (.ow (.ag (.pr .sh (.pr .sh (.pr .sh .sh))))) (.pr (.ow .sh) (.ow (.ow (.ag (.pr .sh (.pr .sh (.pr .sh .sh)))))))))))), (8, none)]), (7, [(0, none), (1, none), (2, none), (7, none), (8, none), (9, some (h41, (.ow (.ag (.pr (.ow .sh) (.pr (.ow .sh) (.ow (.ow (.ag (.pr .sh (.pr .sh (.pr .sh .sh)))))))))))), (10, none)])] [0, 1] [(11, [0, 1, 2, 3, 4, 5, 6, 7, 8, 9])] [((11, 5), [9]), ((11, 6), [9])] [(10, [(0, none), (1, none), (2, none), (7, none), (8, none), (9, none), (10, none), (50, none)])]
noncomputable def sem (k : Nat) : Sem := D.sem (D.ev (C k) k)
noncomputable def f (k : Nat) (p0 : ((List Int) × Int)) (p1 : y2) (p2 : Int) : Option (y8 × y3) := D.ev (C k) k (p0, p1, p2, ())
noncomputable def l3 (k : Nat) (p2 : Int) (n : Nat) (v0_3 : ((List Int) × Int)) (v1_3 : y2) (v7_3 : y8) (v8_3 : Int) : Option (y8 × y3) :=
 D.lp (C k) k 3 [1, 1, 0, 1, 0] [] n [(8, vI v8_3), (7, vO h40 v7_3), (2, vI p2), (1, vO h26 v1_3), (0, .val h3 (.ow (.ag (.pr .sh .sh))) v0_3)]
noncomputable def l7 (k n3 : Nat) (p2 : Int) (v7_3 : y8) (v8_3 : Int) (n : Nat) (v0_7 : ((List Int) × Int)) (v1_7 : y2) (v9_7 : y7) (v10_7 : Int) : Option (y8 × y3) :=
 D.lp (C k) k 7 [1, 1, 0, 1, 0, 0, 1, 0, 0, 1, 0, 1, 0] [n3] n [(10, vI v10_7), (9, .val h41 (.ow (.ag (.pr (.ow .sh) (.pr (.ow .sh) (.ow (.ow (.ag (.pr .sh (.pr .sh (.pr .sh .sh)))))))))) v9_7), (8, vI v8_3), (7, vO h40 v7_3), (2, vI p2), (1, vO h26 v1_7), (0, .val h3 (.ow (.ag (.pr .sh .sh))) v0_7)]
noncomputable def lj10 (k n3 n7 : Nat) (p2 v10_7 : Int) (v1_7 : y2) (v7_3 : y8) (v8_3 : Int) (v9_7 : y7) (n : Nat) (v0_j10 : ((List Int) × Int)) (v50_j10 : Bool) : Option (y8 × y3) :=
 D.jn (C k) k 10 [1, 1, 0, 1, 0, 0, 1, 0, 0, 1, 0, 1, 0, 0, 1, 0, 0] [n3, n7] n [(50, vB v50_j10), (10, vI v10_7), (9, .val h41 (.ow (.ag (.pr (.ow .sh) (.pr (.ow .sh) (.ow (.ow (.ag (.pr .sh (.pr .sh (.pr .sh .sh)))))))))) v9_7), (8, vI v8_3), (7, vO h40 v7_3), (2, vI p2), (1, vO h26 v1_7), (0, .val h3 (.ow (.ag (.pr .sh .sh))) v0_j10)]
theorem sj10 (k n3 n7 : Nat) (p2 v10_7 : Int) (v1_7 : y2) (v7_3 : y8) (v8_3 : Int) (v9_7 : y7) (n : Nat) (v0_j10 : ((List Int) × Int)) (v50_j10 : Bool) : lj10 k n3 n7 p2 v10_7 v1_7 v7_3 v8_3 v9_7 (n + 1) v0_j10 v50_j10 =
 (if v50_j10 = true then
  gd ((v9_7.2.1.length : Int) + ([v10_7].length : Int) ≤ 1099511627776) <| gd ((0 : Nat) = 0) <| gd ((0 : Nat) = 0) <| gd ((1 : Nat) = 1) <| gd ((0 : Nat) = 0) <| (spec_l2Value_w1.f k v0_j10 v1_7 v10_7).bind fun r3 =>
  gd ((v9_7.2.2.length : Int) + ([r3.1].length : Int) ≤ 1099511627776) <| gd ((0 : Nat) = 0) <| gd ((0 : Nat) = 0) <| gd ((1 : Nat) = 1) <| gd ((1 : Nat) = 1) <| l7 k n3 p2 v7_3 v8_3 n7 r3.2.1 r3.2.2 (v9_7.1, (v9_7.2.1 ++ [v10_7], v9_7.2.2 ++ [r3.1])) (w64 (v10_7 + 1))
 else
  l7 k n3 p2 v7_3 v8_3 n7 v0_j10 v1_7 v9_7 (w64 (v10_7 + 1))) := by kernel_rfl
theorem s7 (k n3 : Nat) (p2 : Int) (v7_3 : y8) (v8_3 : Int) (n : Nat) (v0_7 : ((List Int) × Int)) (v1_7 : y2) (v9_7 : y7) (v10_7 : Int) : l7 k n3 p2 v7_3 v8_3 (n + 1) v0_7 v1_7 v9_7 v10_7 =
 (if (decide (v10_7 < ((v1_7.length : Int)))) = true then
  (spec_l40Rd_pick.f k v0_7 (w64 (((v1_7.length : Int)) + 1))).bind fun r2 =>
  if (decide (r2.1 < 1)) = true then
   lj10 k n3 n p2 v10_7 v1_7 v7_3 v8_3 v9_7 k r2.2 true
  else
   if (v10_7 == (w64 (((v1_7.length : Int)) - 1))) = true then
    if (((v9_7.2.1.length : Int)) == 0) = true then
     (spec_l40Rd_pick.f k r2.2 9).bind fun r4 =>
     lj10 k n3 n p2 v10_7 v1_7 v7_3 v8_3 v9_7 k r4.2 (decide (r4.1 > 0))
    else
     lj10 k n3 n p2 v10_7 v1_7 v7_3 v8_3 v9_7 k r2.2 false
   else
    lj10 k n3 n p2 v10_7 v1_7 v7_3 v8_3 v9_7 k r2.2 false
 else
  gd ((v7_3.length : Int) + ([v9_7].length : Int) ≤ 1099511627776) <| l3 k p2 n3 v0_7 v1_7 (v7_3 ++ [v9_7]) (w64 (v8_3 + 1))) := by kernel_rfl
theorem s3 (k : Nat) (p2 : Int) (n : Nat) (v0_3 : ((List Int) × Int)) (v1_3 : y2) (v7_3 : y8) (v8_3 : Int) : l3 k p2 (n + 1) v0_3 v1_3 v7_3 v8_3 =
 (if (decide (v8_3 < p2)) = true then
  (spec_l2When_w1.f k v0_3 v1_3).bind fun r1 =>
  l7 k n p2 v7_3 v8_3 k r1.2.1 r1.2.2 (r1.1, ([], [])) 0
 else
  some (v7_3, (v0_3, v1_3))) := by kernel_rfl
theorem s (k : Nat) (p0 : ((List Int) × Int)) (p1 : y2) (p2 : Int) : f k p0 p1 p2 =
 (l3 k p2 k p0 p1 [] 0) := by kernel_rfl
theorem ok (k : Nat) : Ok Tryz.prog 127 (sem k) := Fd.ok (cx_ok ⟨spec_l2When_w1.ok k, spec_l40Rd_pick.ok k, spec_l2Value_w1.ok k, trivial⟩) ⟨Tryz.func127, rfl, by kernel_rfl⟩ rfl
attribute [irreducible] f l3 l7 lj10
end spec_l2Rules_w1
/-! loop.example/wholecheck/spec.l2System -/
namespace spec_l2System
noncomputable def D : Fd := ⟨Tryz.f104, 1, h43, (.ag (.pr (.ow (.ag (.pr .sh (.pr .sh .sh)))) (.ow (.ag (.pr (.ow (.ag (.pr .sh (.pr .sh (.pr .sh .sh))))) (.pr (.ow .sh) (.ow (.ow (.ag (.pr .sh (.pr .sh (.pr .sh .sh)))))))))))), [.loan (.ow (.ag (.pr .sh .sh))), .sh], h3, h6⟩
noncomputable def C (k : Nat) : Ctx := cx [(66, spec_l40Rd_pick.sem k), (65, spec_l40Rd_num.sem k), (127, spec_l2Rules_w1.sem k)] [((9, 14), 4)] [(4, [(0, none), (1, none), (4, none), (5, some (h44, (.ow (.ag (.pr (.ow (.ag (.pr .sh (.pr .sh .sh)))) (.ow (.ag (.pr (.ow (.ag (.pr .sh (.pr .sh (.pr .sh .sh))))) (.pr (.ow .sh) (.ow (.ow (.ag (.pr .sh (.pr .sh (.pr .sh .sh))))))))))))))), (6, none), (7, none)])] [0] [(9, [0, 1, 2, 3, 4, 5, 6, 7, 8, 9, 10, 11, 12, 13, 14, 15, 16]), (13, [0, 1, 2, 3, 4, 5, 6, 7, 8])] [((9, 10), [5]), ((9, 12), [5]), ((9, 13), [5]), ((13, 4), [5]), ((13, 5), [5])] []
noncomputable def sem (k : Nat) : Sem := D.sem (D.ev (C k) k)
noncomputable def f (k : Nat) (p0 : ((List Int) × Int)) (p1 : Int) : Option (y9 × ((List Int) × Int)) := D.ev (C k) k (p0, p1, ())
noncomputable def l4 (k : Nat) (p1 : Int) (n : Nat) (v0_4 : ((List Int) × Int)) (v5_4 : y9) (v6_4 v7_4 : Int) : Option (y9 × ((List Int) × Int)) :=
 D.lp (C k) k 4 [1, 1, 1, 0, 1, 0] [] n [(7, vI v7_4), (6, vI v6_4), (5, vO h44 v5_4), (4, vO h44 ([], [])), (1, vI p1), (0, .val h3 (.ow (.ag (.pr .sh .sh))) v0_4)]
theorem s4 (k : Nat) (p1 : Int) (n : Nat) (v0_4 : ((List Int) × Int)) (v5_4 : y9) (v6_4 v7_4 : Int) : l4 k p1 (n + 1) v0_4 v5_4 v6_4 v7_4 =
 (if (decide (v7_4 > 0)) = true then
  (spec_l40Rd_num.f k v0_4 [2, 3, 2, 4, 5]).bind fun r2 =>
  if (decide ((w64 (v6_4 * r2.1)) ≤ p1)) = true then
   (spec_l40Rd_num.f k r2.2 [0, 0, 0, (-1), 2]).bind fun r3 =>
   (spec_l40Rd_pick.f k r3.2 r2.1).bind fun r4 =>
   gd ((v5_4.1.length : Int) + ([(r3.1, (w64 ((w64 (r3.1 + r2.1)) - 1), w64 (r3.1 + r4.1)))].length : Int) ≤ 1099511627776) <| gd ((0 : Nat) = 0) <| gd ((0 : Nat) = 0) <| gd ((0 : Nat) = 0) <| l4 k p1 n r4.2 (v5_4.1 ++ [(r3.1, (w64 ((w64 (r3.1 + r2.1)) - 1), w64 (r3.1 + r4.1)))], v5_4.2) (w64 (v6_4 * r2.1)) (w64 (v7_4 - 1))
  else
   l4 k p1 n r2.2 v5_4 v6_4 (w64 (v7_4 - 1))
 else
  if (((v5_4.1.length : Int)) == 0) = true then
   gd ((v5_4.1.length : Int) + ([(0, (1, 0))].length : Int) ≤ 1099511627776) <| gd ((0 : Nat) = 0) <| gd ((0 : Nat) = 0) <| gd ((0 : Nat) = 0) <| (spec_l40Rd_num.f k v0_4 [1, 2, 3, 4, 2, 3, 0]).bind fun r5 =>
   (spec_l2Rules_w1.f k r5.2 (v5_4.1 ++ [(0, (1, 0))]) r5.1).bind fun r6 =>
   some ((r6.2.2, r6.1), r6.2.1)
  else
   (spec_l40Rd_num.f k v0_4 [1, 2, 3, 4, 2, 3, 0]).bind fun r7 =>
   (spec_l2Rules_w1.f k r7.2 v5_4.1 r7.1).bind fun r8 =>
   some ((r8.2.2, r8.1), r8.2.1)) := by kernel_rfl
theorem s (k : Nat) (p0 : ((List Int) × Int)) (p1 : Int) : f k p0 p1 =
 ((spec_l40Rd_pick.f k p0 3).bind fun r1 =>
 l4 k p1 k r1.2 ([], []) 1 (w64 (1 + r1.1))) := by kernel_rfl
theorem ok (k : Nat) : Ok Tryz.prog 104 (sem k) := Fd.ok (cx_ok ⟨spec_l40Rd_pick.ok k, spec_l40Rd_num.ok k, spec_l2Rules_w1.ok k, trivial⟩) ⟨Tryz.func104, rfl, by kernel_rfl⟩ rfl
attribute [irreducible] f l4
end spec_l2System
/-! loop.example/wholecheck/spec.l2Any -/
namespace spec_l2Any
noncomputable def D : Fd := ⟨Tryz.f64, 1, h43, (.ag (.pr (.ow (.ag (.pr .sh (.pr .sh .sh)))) (.ow (.ag (.pr (.ow .sh) (.pr (.ow .sh) (.ow (.ow .sh)))))))), [.loan (.ow (.ag (.pr .sh .sh))), .sh], h3, h6⟩
noncomputable def C (k : Nat) : Ctx := cx [(104, spec_l2System.sem k), (66, spec_l40Rd_pick.sem k), (65, spec_l40Rd_num.sem k), (105, spec_l2Const.sem k)] [((11, 11), 4), ((15, 10), 4)] [] [0] [(5, [0, 1, 2, 3, 4, 5, 6, 7, 8, 9, 10]), (7, [0, 1, 2, 3, 4, 5, 6, 7, 8, 9, 10, 11, 12, 13]), (9, [0, 1, 2, 3, 4, 5, 6]), (11, [0, 1, 2, 3, 4, 5, 6, 7, 8, 9, 10, 11, 12, 13, 14]), (15, [0, 1, 2, 3, 4, 5, 6, 7, 8, 9, 10, 11, 12, 13])] [((7, 8), [5]), ((7, 9), [5]), ((9, 2), [5]), ((9, 3), [5]), ((11, 10), [5]), ((11, 11), [5]), ((15, 7), [5]), ((15, 8), [5]), ((15, 9), [5]), ((15, 10), [5])] [(11, [(0, none), (4, none), (5, none), (6, none), (63, none)])]
noncomputable def sem (k : Nat) : Sem := D.sem (D.ev (C k) k)
noncomputable def f (k : Nat) (p0 : ((List Int) × Int)) (p1 : Int) : Option (y9 × ((List Int) × Int)) := D.ev (C k) k (p0, p1, ())
noncomputable def lj11 (k : Nat) (n : Nat) (v0_j11 : ((List Int) × Int)) (v5_j11 : y9) (v6_j11 : Int) (v63_j11 : Bool) : Option (y9 × ((List Int) × Int)) :=
 D.jn (C k) k 11 [1, 1, 0, 1, 0, 1, 1, 1, 1, 1, 1, 1] [] n [(63, vB v63_j11), (6, vI v6_j11), (5, vO h44 v5_j11), (4, vO h44 ([], [])), (0, .val h3 (.ow (.ag (.pr .sh .sh))) v0_j11)]
theorem sj11 (k : Nat) (n : Nat) (v0_j11 : ((List Int) × Int)) (v5_j11 : y9) (v6_j11 : Int) (v63_j11 : Bool) : lj11 k (n + 1) v0_j11 v5_j11 v6_j11 v63_j11 =
 (if v63_j11 = true then
  gd ((0 : Int) ≤ 0) <| gd (0 < (v5_j11.2.length : Int)) <| gd (((v5_j11.2.getD (Int.toNat 0) ([], ([], []))).2.1.length : Int) + ([((v5_j11.1.length : Int))].length : Int) ≤ 1099511627776) <| gd ((0 : Int) ≤ 0) <| gd (0 < (v5_j11.2.length : Int)) <| gd ((0 : Nat) = 0) <| gd ((0 : Nat) = 0) <| gd ((1 : Nat) = 1) <| gd (((Int.toNat 0) : Nat) = (Int.toNat 0)) <| gd ((0 : Nat) = 0) <| gd ((1 : Nat) = 1) <| gd ((0 : Nat) = 0) <| some ((v5_j11.1, v5_j11.2.set (Int.toNat 0) ((v5_j11.2.getD (Int.toNat 0) ([], ([], []))).1, ((v5_j11.2.getD (Int.toNat 0) ([], ([], []))).2.1 ++ [((v5_j11.1.length : Int))], (v5_j11.2.getD (Int.toNat 0) ([], ([], []))).2.2))), v0_j11)
 else
  if (v6_j11 == 4) = true then
   some (([], v5_j11.2), v0_j11)
  else
   if (decide (((v5_j11.2.length : Int)) > 0)) = true then
    gd ((0 : Int) ≤ 0) <| gd (0 < (v5_j11.2.length : Int)) <| (spec_l2Const.f k 0).bind fun r6 =>
    gd (((v5_j11.2.getD (Int.toNat 0) ([], ([], []))).2.2.length : Int) + ([[r6.1]].length : Int) ≤ 1099511627776) <| gd ((0 : Int) ≤ 0) <| gd (0 < (v5_j11.2.length : Int)) <| gd ((0 : Nat) = 0) <| gd ((0 : Nat) = 0) <| gd ((1 : Nat) = 1) <| gd (((Int.toNat 0) : Nat) = (Int.toNat 0)) <| gd ((0 : Nat) = 0) <| gd ((1 : Nat) = 1) <| gd ((1 : Nat) = 1) <| some ((v5_j11.1, v5_j11.2.set (Int.toNat 0) ((v5_j11.2.getD (Int.toNat 0) ([], ([], []))).1, ((v5_j11.2.getD (Int.toNat 0) ([], ([], []))).2.1, (v5_j11.2.getD (Int.toNat 0) ([], ([], []))).2.2 ++ [[r6.1]]))), v0_j11)
   else
    some (v5_j11, v0_j11)) := by kernel_rfl
theorem s (k : Nat) (p0 : ((List Int) × Int)) (p1 : Int) : f k p0 p1 =
 ((spec_l2System.f k p0 p1).bind fun r1 =>
 (spec_l40Rd_pick.f k r1.2 14).bind fun r2 =>
 if (r2.1 == 0) = true then
  (spec_l40Rd_pick.f k r2.2 6).bind fun r3 =>
  if (r3.1 == 0) = true then
   gd ((0 : Int) ≤ 0) <| gd (0 < (r1.1.1.length : Int)) <| gd ((0 : Int) ≤ 0) <| gd (0 < (r1.1.1.length : Int)) <| some ((r1.1.1.set (Int.toNat 0) ((r1.1.1.getD (Int.toNat 0) (0, (0, 0))).1, ((r1.1.1.getD (Int.toNat 0) (0, (0, 0))).2.1, w64 ((r1.1.1.getD (Int.toNat 0) (0, (0, 0))).2.1 + 1))), r1.1.2), r3.2)
  else
   if (r3.1 == 1) = true then
    gd ((0 : Int) ≤ 0) <| gd (0 < (r1.1.1.length : Int)) <| (spec_l40Rd_num.f k r3.2 [(-1), 20, 19]).bind fun r4 =>
    gd ((0 : Int) ≤ 0) <| gd (0 < (r1.1.1.length : Int)) <| some ((r1.1.1.set (Int.toNat 0) ((r1.1.1.getD (Int.toNat 0) (0, (0, 0))).1, (w64 ((r1.1.1.getD (Int.toNat 0) (0, (0, 0))).1 + r4.1), (r1.1.1.getD (Int.toNat 0) (0, (0, 0))).2.2)), r1.1.2), r4.2)
   else
    if (r3.1 == 2) = true then
     if (decide (((r1.1.2.length : Int)) > 0)) = true then
      (spec_l2Const.f k 1).bind fun r5 =>
      gd ((0 : Int) ≤ 0) <| gd (0 < (r1.1.2.length : Int)) <| some ((r1.1.1, r1.1.2.set (Int.toNat 0) ([r5.1], (r1.1.2.getD (Int.toNat 0) ([], ([], []))).2)), r3.2)
     else
      if (r3.1 == 3) = true then
       lj11 k k r3.2 r1.1 r3.1 (decide (((r1.1.2.length : Int)) > 0))
      else
       lj11 k k r3.2 r1.1 r3.1 false
    else
     if (r3.1 == 3) = true then
      lj11 k k r3.2 r1.1 r3.1 (decide (((r1.1.2.length : Int)) > 0))
     else
      lj11 k k r3.2 r1.1 r3.1 false
 else
  some (r1.1, r2.2)) := by kernel_rfl
theorem ok (k : Nat) : Ok Tryz.prog 64 (sem k) := Fd.ok (cx_ok ⟨spec_l2System.ok k, spec_l40Rd_pick.ok k, spec_l40Rd_num.ok k, spec_l2Const.ok k, trivial⟩) ⟨Tryz.func64, rfl, by kernel_rfl⟩ rfl
attribute [irreducible] f lj11
end spec_l2Any
/-! loop.example/wholecheck/spec.l2Var -/
namespace spec_l2Var
noncomputable def D : Fd := ⟨Tryz.f102, 1, .bool, .sh, [.sh], .unit, h45⟩
noncomputable def C (k : Nat) : Ctx := cx [(39, spec_l1In.sem k)] [] [] [] [] [] []
noncomputable def sem (k : Nat) : Sem := D.sem (D.ev (C k) k)
noncomputable def f (k : Nat) (p0 : (Int × (Int × Int))) : Option (Bool × Unit) := D.ev (C k) k (p0, ())
theorem s (k : Nat) (p0 : (Int × (Int × Int))) : f k p0 =
 ((spec_l1In.f k p0.1 (-9999) 9999).bind fun r1 =>
 if r1.1 = true then
  (spec_l1In.f k p0.2.1 p0.1 9999).bind fun r2 =>
  if r2.1 = true then
   if (decide ((w64 (p0.2.1 - p0.1)) < 20)) = true then
    (spec_l1In.f k p0.2.2 p0.1 p0.2.1).bind fun r3 =>
    some (r3.1, ())
   else
    some (false, ())
  else
   some (false, ())
 else
  some (false, ())) := by kernel_rfl
theorem ok (k : Nat) : Ok Tryz.prog 102 (sem k) := Fd.ok (cx_ok ⟨spec_l1In.ok k, trivial⟩) ⟨Tryz.func102, rfl, by kernel_rfl⟩ rfl
attribute [irreducible] f
end spec_l2Var
/-! loop.example/wholecheck/spec.l2Is -/
namespace spec_l2Is
noncomputable def D : Fd := ⟨Tryz.f112, 1, .bool, .sh, [.sh, .sh, .sh], .unit, h46⟩
noncomputable def C (k : Nat) : Ctx := cx [(134, spec_KindsOf.sem k)] [] [] [] [] [] []
noncomputable def sem (k : Nat) : Sem := D.sem (D.ev (C k) k)
noncomputable def f (k : Nat) (p0 : y1) (p1 p2 : Int) : Option (Bool × Unit) := D.ev (C k) k (p0, p1, p2, ())
theorem s (k : Nat) (p0 : y1) (p1 p2 : Int) : f k p0 p1 p2 =
 ((spec_KindsOf.f k p0 p1).bind fun r1 =>
 if (decide (((r1.1.length : Int)) > 0)) = true then
  gd ((0 : Int) ≤ (w64 (((r1.1.length : Int)) - 1))) <| gd ((w64 (((r1.1.length : Int)) - 1)) < (r1.1.length : Int)) <| some ((r1.1.getD ((w64 (((r1.1.length : Int)) - 1)).toNat) 0) == p2, ())
 else
  some (false, ())) := by kernel_rfl
theorem ok (k : Nat) : Ok Tryz.prog 112 (sem k) := Fd.ok (cx_ok ⟨spec_KindsOf.ok k, trivial⟩) ⟨Tryz.func112, rfl, by kernel_rfl⟩ rfl
attribute [irreducible] f
end spec_l2Is
/-! loop.example/wholecheck/spec.l2Rule -/
namespace spec_l2Rule
noncomputable def D : Fd := ⟨Tryz.f103, 1, .bool, .sh, [.sh, .sh], .unit, h47⟩
noncomputable def C (k : Nat) : Ctx := cx [(112, spec_l2Is.sem k), (39, spec_l1In.sem k)] [] [(4, [(1, none), (2, none), (5, none)])] [] [(6, [0, 1, 2, 3, 4, 5, 6, 7, 8, 9, 10, 11, 12, 13, 14, 15, 16, 17, 18, 19, 20, 21, 22, 23, 24, 25, 26, 27, 28, 29, 30, 31, 32, 33, 34, 35, 36])] [] []
noncomputable def sem (k : Nat) : Sem := D.sem (D.ev (C k) k)
noncomputable def f (k : Nat) (p0 : y7) (p1 : Int) : Option (Bool × Unit) := D.ev (C k) k (p0, p1, ())
noncomputable def l4 (k : Nat) (p0 : y7) (p1 : Int) (n : Nat) (v5_4 : Int) : Option (Bool × Unit) :=
 D.lp (C k) k 4 [1, 1, 0, 1, 0] [] n [(5, vI v5_4), (2, .val h41 (.ow .sh) p0), (1, vI p1)]
theorem s4 (k : Nat) (p0 : y7) (p1 : Int) (n : Nat) (v5_4 : Int) : l4 k p0 p1 (n + 1) v5_4 =
 (if (decide (v5_4 < ((p0.2.1.length : Int)))) = true then
  gd ((0 : Int) ≤ v5_4) <| gd (v5_4 < (p0.2.1.length : Int)) <| (spec_l1In.f k (p0.2.1.getD (v5_4.toNat) 0) 0 (w64 (p1 - 1))).bind fun r2 =>
  if (!r2.1) = true then
   some (false, ())
  else
   if (decide (v5_4 > 0)) = true then
    gd ((0 : Int) ≤ v5_4) <| gd (v5_4 < (p0.2.1.length : Int)) <| gd ((0 : Int) ≤ (w64 (v5_4 - 1))) <| gd ((w64 (v5_4 - 1)) < (p0.2.1.length : Int)) <| if (decide ((p0.2.1.getD (v5_4.toNat) 0) ≤ (p0.2.1.getD ((w64 (v5_4 - 1)).toNat) 0))) = true then
     some (false, ())
    else
     gd ((0 : Int) ≤ v5_4) <| gd (v5_4 < (p0.2.2.length : Int)) <| (spec_l2Is.f k (p0.2.2.getD (v5_4.toNat) []) p1 1).bind fun r3 =>
     if (!r3.1) = true then
      some (false, ())
     else
      l4 k p0 p1 n (w64 (v5_4 + 1))
   else
    gd ((0 : Int) ≤ v5_4) <| gd (v5_4 < (p0.2.2.length : Int)) <| (spec_l2Is.f k (p0.2.2.getD (v5_4.toNat) []) p1 1).bind fun r4 =>
    if (!r4.1) = true then
     some (false, ())
    else
     l4 k p0 p1 n (w64 (v5_4 + 1))
 else
  some (true, ())) := by kernel_rfl
theorem s (k : Nat) (p0 : y7) (p1 : Int) : f k p0 p1 =
 ((spec_l2Is.f k p0.1 p1 2).bind fun r1 =>
 if (!r1.1) = true then
  some (false, ())
 else
  if (((p0.2.1.length : Int)) != ((p0.2.2.length : Int))) = true then
   some (false, ())
  else
   if (decide (((p0.2.1.length : Int)) > p1)) = true then
    some (false, ())
   else
    l4 k p0 p1 k 0) := by kernel_rfl
theorem ok (k : Nat) : Ok Tryz.prog 103 (sem k) := Fd.ok (cx_ok ⟨spec_l2Is.ok k, spec_l1In.ok k, trivial⟩) ⟨Tryz.func103, rfl, by kernel_rfl⟩ rfl
attribute [irreducible] f l4
end spec_l2Rule
/-! loop.example/wholecheck/spec.SystemValid -/
namespace spec_SystemValid
noncomputable def D : Fd := ⟨Tryz.f59, 1, .bool, .sh, [.sh], .unit, h48⟩
noncomputable def C (k : Nat) : Ctx := cx [(39, spec_l1In.sem k), (102, spec_l2Var.sem k), (103, spec_l2Rule.sem k)] [((9, 16), 3)] [(5, [(1, none), (3, none), (4, none)]), (11, [(1, none), (3, none), (5, none)])] [] [(9, [0, 1, 2, 3, 4, 5, 6, 7, 8, 9, 10, 11, 12, 13, 14, 15, 16]), (13, [0, 1, 2, 3, 4, 5, 6, 7, 8, 9])] [] []
noncomputable def sem (k : Nat) : Sem := D.sem (D.ev (C k) k)
noncomputable def f (k : Nat) (p0 : y9) : Option (Bool × Unit) := D.ev (C k) k (p0, ())
noncomputable def l5 (k : Nat) (p0 : y9) (n : Nat) (v3_5 v4_5 : Int) : Option (Bool × Unit) :=
 D.lp (C k) k 5 [1, 1, 1, 0, 1, 0] [] n [(4, vI v4_5), (3, vI v3_5), (1, .val h44 (.ow .sh) p0)]
noncomputable def l11 (k : Nat) (p0 : y9) (v3_5 : Int) (n : Nat) (v5_11 : Int) : Option (Bool × Unit) :=
 D.lp (C k) k 11 [1, 1, 1, 1, 0, 1, 0] [] n [(5, vI v5_11), (3, vI v3_5), (1, .val h44 (.ow .sh) p0)]
theorem s11 (k : Nat) (p0 : y9) (v3_5 : Int) (n : Nat) (v5_11 : Int) : l11 k p0 v3_5 (n + 1) v5_11 =
 (if (decide (v5_11 < ((p0.2.length : Int)))) = true then
  gd ((0 : Int) ≤ v5_11) <| gd (v5_11 < (p0.2.length : Int)) <| (spec_l2Rule.f k (p0.2.getD (v5_11.toNat) ([], ([], []))) ((p0.1.length : Int))).bind fun r3 =>
  if (!r3.1) = true then
   some (false, ())
  else
   l11 k p0 v3_5 n (w64 (v5_11 + 1))
 else
  some (decide (v3_5 ≤ 400), ())) := by kernel_rfl
theorem s5 (k : Nat) (p0 : y9) (n : Nat) (v3_5 v4_5 : Int) : l5 k p0 (n + 1) v3_5 v4_5 =
 (if (decide (v4_5 < ((p0.1.length : Int)))) = true then
  gd ((0 : Int) ≤ v4_5) <| gd (v4_5 < (p0.1.length : Int)) <| (spec_l2Var.f k (p0.1.getD (v4_5.toNat) (0, (0, 0)))).bind fun r2 =>
  if (!r2.1) = true then
   some (false, ())
  else
   gd ((0 : Int) ≤ v4_5) <| gd (v4_5 < (p0.1.length : Int)) <| gd ((0 : Int) ≤ v4_5) <| gd (v4_5 < (p0.1.length : Int)) <| l5 k p0 n (w64 (v3_5 * (w64 ((w64 ((p0.1.getD (v4_5.toNat) (0, (0, 0))).2.1 - (p0.1.getD (v4_5.toNat) (0, (0, 0))).1)) + 1)))) (w64 (v4_5 + 1))
 else
  l11 k p0 v3_5 k 0) := by kernel_rfl
theorem s (k : Nat) (p0 : y9) : f k p0 =
 ((spec_l1In.f k ((p0.1.length : Int)) 1 5).bind fun r1 =>
 if (!r1.1) = true then
  some (false, ())
 else
  if (decide (((p0.2.length : Int)) > 8)) = true then
   some (false, ())
  else
   l5 k p0 k 1 0) := by kernel_rfl
theorem ok (k : Nat) : Ok Tryz.prog 59 (sem k) := Fd.ok (cx_ok ⟨spec_l1In.ok k, spec_l2Var.ok k, spec_l2Rule.ok k, trivial⟩) ⟨Tryz.func59, rfl, by kernel_rfl⟩ rfl
attribute [irreducible] f l5 l11
end spec_SystemValid
/-! loop.example/wholecheck/spec.SizeOf -/
namespace spec_SizeOf
noncomputable def D : Fd := ⟨Tryz.f25, 1, I, .sh, [.sh], .unit, h48⟩
noncomputable def C (k : Nat) : Ctx := cx [(59, spec_SystemValid.sem k)] [((7, 16), 3)] [(5, [(1, none), (3, none), (4, none)])] [] [(7, [0, 1, 2, 3, 4, 5, 6, 7, 8, 9, 10, 11, 12, 13, 14, 15, 16])] [] []
noncomputable def sem (k : Nat) : Sem := D.sem (D.ev (C k) k)
noncomputable def f (k : Nat) (p0 : y9) : Option (Int × Unit) := D.ev (C k) k (p0, ())
noncomputable def l5 (k : Nat) (p0 : y9) (n : Nat) (v3_5 v4_5 : Int) : Option (Int × Unit) :=
 D.lp (C k) k 5 [1, 1, 1, 0, 1, 0] [] n [(4, vI v4_5), (3, vI v3_5), (1, .val h44 (.ow .sh) p0)]
theorem s5 (k : Nat) (p0 : y9) (n : Nat) (v3_5 v4_5 : Int) : l5 k p0 (n + 1) v3_5 v4_5 =
 (if (decide (v4_5 < ((p0.1.length : Int)))) = true then
  gd ((0 : Int) ≤ v4_5) <| gd (v4_5 < (p0.1.length : Int)) <| gd ((0 : Int) ≤ v4_5) <| gd (v4_5 < (p0.1.length : Int)) <| l5 k p0 n (w64 (v3_5 * (w64 ((w64 ((p0.1.getD (v4_5.toNat) (0, (0, 0))).2.1 - (p0.1.getD (v4_5.toNat) (0, (0, 0))).1)) + 1)))) (w64 (v4_5 + 1))
 else
  some (v3_5, ())) := by kernel_rfl
theorem z5 (k : Nat) (p0 : y9) (v3_5 v4_5 : Int) : l5 k p0 0 v3_5 v4_5 = none := by kernel_rfl
theorem s (k : Nat) (p0 : y9) : f k p0 =
 ((spec_SystemValid.f k p0).bind fun r1 =>
 if (!r1.1) = true then
  some (0, ())
 else
  l5 k p0 k 1 0) := by kernel_rfl
theorem ok (k : Nat) : Ok Tryz.prog 25 (sem k) := Fd.ok (cx_ok ⟨spec_SystemValid.ok k, trivial⟩) ⟨Tryz.func25, rfl, by kernel_rfl⟩ rfl
attribute [irreducible] f l5
end spec_SizeOf
/-! loop.example/wholecheck/spec.l2Same -/
namespace spec_l2Same
noncomputable def D : Fd := ⟨Tryz.f71, 1, .bool, .sh, [.sh, .sh], .unit, h49⟩
noncomputable def C (k : Nat) : Ctx := cx [] [] [(4, [(0, none), (1, none), (5, none)])] [] [(6, [0, 1, 2, 3, 4, 5, 6, 7, 8])] [] []
noncomputable def sem (k : Nat) : Sem := D.sem (D.ev (C k) k)
noncomputable def f (k : Nat) (p0 p1 : (List Int)) : Option (Bool × Unit) := D.ev (C k) k (p0, p1, ())
noncomputable def l4 (k : Nat) (p0 p1 : (List Int)) (n : Nat) (v5_4 : Int) : Option (Bool × Unit) :=
 D.lp (C k) k 4 [1, 1, 0, 1, 0] [] n [(5, vI v5_4), (1, vS h7 p1), (0, vS h7 p0)]
theorem s4 (k : Nat) (p0 p1 : (List Int)) (n : Nat) (v5_4 : Int) : l4 k p0 p1 (n + 1) v5_4 =
 (if (decide (v5_4 < ((p0.length : Int)))) = true then
  gd ((0 : Int) ≤ v5_4) <| gd (v5_4 < (p0.length : Int)) <| gd ((0 : Int) ≤ v5_4) <| gd (v5_4 < (p1.length : Int)) <| if ((p0.getD (v5_4.toNat) 0) != (p1.getD (v5_4.toNat) 0)) = true then
   some (false, ())
  else
   l4 k p0 p1 n (w64 (v5_4 + 1))
 else
  some (true, ())) := by kernel_rfl
theorem s (k : Nat) (p0 p1 : (List Int)) : f k p0 p1 =
 (if (((p0.length : Int)) != ((p1.length : Int))) = true then
  some (false, ())
 else
  l4 k p0 p1 k 0) := by kernel_rfl
theorem ok (k : Nat) : Ok Tryz.prog 71 (sem k) := Fd.ok (cx_ok trivial) ⟨Tryz.func71, rfl, by kernel_rfl⟩ rfl
attribute [irreducible] f l4
end spec_l2Same
/-! loop.example/wholecheck/spec.l28Rows -/
namespace spec_l28Rows
noncomputable def D : Fd := ⟨Tryz.f36, 1, h50, (.ag (.ow .sh)), [.sh], .unit, h52⟩
noncomputable def C (k : Nat) : Ctx := cx [(71, spec_l2Same.sem k)] [] [(3, [(0, none), (2, none), (3, none), (4, none)]), (7, [(0, none), (2, none), (3, none), (4, none), (5, none), (6, none)])] [] [(9, [0, 1, 2, 3, 4, 5, 6, 7, 8])] [] []
noncomputable def sem (k : Nat) : Sem := D.sem (D.ev (C k) k)
noncomputable def f (k : Nat) (p0 : (List (List Int))) : Option ((List Int) × Unit) := D.ev (C k) k (p0, ())
noncomputable def l3 (k : Nat) (p0 : (List (List Int))) (n : Nat) (v3_3 : (List Int)) (v4_3 : Int) : Option ((List Int) × Unit) :=
 D.lp (C k) k 3 [1, 1, 0, 1, 0] [] n [(4, vI v4_3), (3, vO h53 v3_3), (2, vO h53 []), (0, vS h51 p0)]
noncomputable def l7 (k n3 : Nat) (p0 : (List (List Int))) (v3_3 : (List Int)) (v4_3 : Int) (n : Nat) (v5_7 v6_7 : Int) : Option ((List Int) × Unit) :=
 D.lp (C k) k 7 [1, 1, 0, 1, 0, 0, 1, 0, 0, 1, 0, 1, 0] [n3] n [(6, vI v6_7), (5, vI v5_7), (4, vI v4_3), (3, vO h53 v3_3), (2, vO h53 []), (0, vS h51 p0)]
theorem s7 (k n3 : Nat) (p0 : (List (List Int))) (v3_3 : (List Int)) (v4_3 : Int) (n : Nat) (v5_7 v6_7 : Int) : l7 k n3 p0 v3_3 v4_3 (n + 1) v5_7 v6_7 =
 (if (decide (v6_7 ≥ 0)) = true then
  gd ((0 : Int) ≤ v6_7) <| gd (v6_7 < (p0.length : Int)) <| gd ((0 : Int) ≤ v4_3) <| gd (v4_3 < (p0.length : Int)) <| (spec_l2Same.f k (p0.getD (v6_7.toNat) []) (p0.getD (v4_3.toNat) [])).bind fun r1 =>
  if r1.1 = true then
   l7 k n3 p0 v3_3 v4_3 n v6_7 (w64 (v6_7 - 1))
  else
   l7 k n3 p0 v3_3 v4_3 n v5_7 (w64 (v6_7 - 1))
 else
  gd ((v3_3.length : Int) + ([v5_7].length : Int) ≤ 1099511627776) <| gd ((0 : Nat) = 0) <| gd ((0 : Nat) = 0) <| l3 k p0 n3 (v3_3 ++ [v5_7]) (w64 (v4_3 + 1))) := by kernel_rfl
theorem s3 (k : Nat) (p0 : (List (List Int))) (n : Nat) (v3_3 : (List Int)) (v4_3 : Int) : l3 k p0 (n + 1) v3_3 v4_3 =
 (if (decide (v4_3 < ((p0.length : Int)))) = true then
  l7 k n p0 v3_3 v4_3 k v4_3 (w64 (v4_3 - 1))
 else
  some (v3_3, ())) := by kernel_rfl
theorem s (k : Nat) (p0 : (List (List Int))) : f k p0 =
 (l3 k p0 k [] 0) := by kernel_rfl
theorem ok (k : Nat) : Ok Tryz.prog 36 (sem k) := Fd.ok (cx_ok ⟨spec_l2Same.ok k, trivial⟩) ⟨Tryz.func36, rfl, by kernel_rfl⟩ rfl
attribute [irreducible] f l3 l7
end spec_l28Rows
/-! loop.example/wholecheck/spec.l28Draw -/
namespace spec_l28Draw
noncomputable def D : Fd := ⟨Tryz.f28, 3, h55, (.pr (.ow (.ag (.pr .sh .sh))) (.pr (.ag (.pr (.ow (.ag (.pr .sh (.pr .sh .sh)))) (.ow (.ag (.pr (.ow .sh) (.pr (.ow .sh) (.ow (.ow .sh)))))))) (.ag (.ow .sh)))), [.sh], .unit, h4⟩
noncomputable def C (k : Nat) : Ctx := cx [(63, spec_l40Open.sem k), (64, spec_l2Any.sem k), (65, spec_l40Rd_num.sem k), (25, spec_SizeOf.sem k), (66, spec_l40Rd_pick.sem k), (36, spec_l28Rows.sem k)] [] [(6, [(3, none), (4, none), (5, none), (6, none), (7, none), (8, none), (9, none)])] [] [(11, [0, 1, 2, 3, 4, 5, 7, 8, 9, 10, 999, 6, 11, 12, 13, 14]), (12, [0, 1, 2, 3, 4, 5])] [((11, 6), [10]), ((11, 11), [10]), ((11, 12), [10]), ((12, 4), [10])] []
noncomputable def sem (k : Nat) : Sem := D.sem (D.ev (C k) k)
noncomputable def f (k : Nat) (p0 : (List Int)) : Option (y11 × Unit) := D.ev (C k) k (p0, ())
noncomputable def l6 (k : Nat) (n : Nat) (v5_6 : ((List Int) × Int)) (v6_6 : y9) (v7_6 : (List (List Int))) (v8_6 v9_6 : Int) : Option (y11 × Unit) :=
 D.lp (C k) k 6 [1, 1, 1, 1, 1, 0, 1, 0] [] n [(9, vI v9_6), (8, vI v8_6), (7, vO h51 v7_6), (6, .val h44 (.ow (.ag (.pr (.ow (.ag (.pr .sh (.pr .sh .sh)))) (.ow (.ag (.pr (.ow .sh) (.pr (.ow .sh) (.ow (.ow .sh))))))))) v6_6), (5, .val h3 (.ow (.ag (.pr .sh .sh))) v5_6), (4, vO h53 []), (3, vO h44 ([], []))]
theorem s6 (k : Nat) (n : Nat) (v5_6 : ((List Int) × Int)) (v6_6 : y9) (v7_6 : (List (List Int))) (v8_6 v9_6 : Int) : l6 k (n + 1) v5_6 v6_6 v7_6 v8_6 v9_6 =
 ((spec_SizeOf.f k v6_6).bind fun r4 =>
 if (decide (v9_6 < r4.1)) = true then
  (spec_l40Rd_pick.f k v5_6 v8_6).bind fun r5 =>
  gd ((v7_6.length : Int) + ([[r5.1]].length : Int) ≤ 1099511627776) <| l6 k n r5.2 v6_6 (v7_6 ++ [[r5.1]]) v8_6 (w64 (v9_6 + 1))
 else
  (spec_l28Rows.f k v7_6).bind fun r6 =>
  if (decide (((r6.1.length : Int)) > 0)) = true then
   (spec_l40Rd_pick.f k v5_6 14).bind fun r7 =>
   if (r7.1 == 0) = true then
    twice <| (spec_l40Rd_pick.f k r7.2 ((r6.1.length : Int))).bind fun r10 =>
    (spec_l40Rd_num.f k r10.2 [((r6.1.length : Int)), (-1), 1]).bind fun r11 =>
    gd ((0 : Int) ≤ r10.1) <| gd (r10.1 < (r6.1.length : Int)) <| some ((r11.2, (v6_6, r6.1.set (r10.1.toNat) r11.1)), ())
   else
    some ((r7.2, (v6_6, r6.1)), ())
  else
   some ((v5_6, (v6_6, r6.1)), ())) := by kernel_rfl
theorem s (k : Nat) (p0 : (List Int)) : f k p0 =
 ((spec_l40Open.f k p0).bind fun r1 =>
 (spec_l2Any.f k r1.1 24).bind fun r2 =>
 (spec_l40Rd_num.f k r2.2 [2, 3, 5, 1]).bind fun r3 =>
 l6 k k r3.2 r2.1 [] r3.1 0) := by kernel_rfl
theorem ok (k : Nat) : Ok Tryz.prog 28 (sem k) := Fd.ok (cx_ok ⟨spec_l40Open.ok k, spec_l2Any.ok k, spec_l40Rd_num.ok k, spec_SizeOf.ok k, spec_l40Rd_pick.ok k, spec_l28Rows.ok k, trivial⟩) ⟨Tryz.func28, rfl, by kernel_rfl⟩ rfl
attribute [irreducible] f l6
end spec_l28Draw
/-! loop.example/wholecheck/spec.l1Any -/
namespace spec_l1Any
noncomputable def D : Fd := ⟨Tryz.f109, 1, h13, (.ow .sh), [.loan (.ow (.ag (.pr .sh .sh))), .sh], h3, h6⟩
noncomputable def C (k : Nat) : Ctx := cx [(66, spec_l40Rd_pick.sem k), (129, spec_l1Terms.sem k), (65, spec_l40Rd_num.sem k)] [] [] [0] [] [] []
noncomputable def sem (k : Nat) : Sem := D.sem (D.ev (C k) k)
noncomputable def f (k : Nat) (p0 : ((List Int) × Int)) (p1 : Int) : Option (y1 × ((List Int) × Int)) := D.ev (C k) k (p0, p1, ())
theorem s (k : Nat) (p0 : ((List Int) × Int)) (p1 : Int) : f k p0 p1 =
 ((spec_l40Rd_pick.f k p0 3).bind fun r1 =>
 (spec_l1Terms.f k r1.2 p1 r1.1 12).bind fun r2 =>
 (spec_l40Rd_pick.f k r2.2 12).bind fun r3 =>
 if (r3.1 == 0) = true then
  (spec_l40Rd_pick.f k r3.2 ((r2.1.length : Int))).bind fun r4 =>
  gd ((0 : Int) ≤ r4.1) <| gd (r4.1 < (r2.1.length : Int)) <| (spec_l40Rd_pick.f k r4.2 4).bind fun r5 =>
  if (r5.1 == 0) = true then
   (spec_l40Rd_num.f k r5.2 [(-1), 10, 7, 2, 0, 1]).bind fun r6 =>
   gd ((0 : Int) ≤ r4.1) <| gd (r4.1 < (r2.1.length : Int)) <| some (r2.1.set (r4.1.toNat) (r6.1, (r2.1.getD (r4.1.toNat) (0, (0, (0, 0)))).2), r6.2)
  else
   if (r5.1 == 1) = true then
    (spec_l40Rd_num.f k r5.2 [(-1), p1, 10000, 1]).bind fun r7 =>
    gd ((0 : Int) ≤ r4.1) <| gd (r4.1 < (r2.1.length : Int)) <| some (r2.1.set (r4.1.toNat) ((r2.1.getD (r4.1.toNat) (0, (0, (0, 0)))).1, (r7.1, (r2.1.getD (r4.1.toNat) (0, (0, (0, 0)))).2.2)), r7.2)
   else
    if (r5.1 == 2) = true then
     (spec_l40Rd_num.f k r5.2 [(-1), r4.1, ((r2.1.length : Int)), 0]).bind fun r8 =>
     gd ((0 : Int) ≤ r4.1) <| gd (r4.1 < (r2.1.length : Int)) <| some (r2.1.set (r4.1.toNat) ((r2.1.getD (r4.1.toNat) (0, (0, (0, 0)))).1, ((r2.1.getD (r4.1.toNat) (0, (0, (0, 0)))).2.1, (r8.1, (r2.1.getD (r4.1.toNat) (0, (0, (0, 0)))).2.2.2))), r8.2)
    else
     (spec_l40Rd_num.f k r5.2 [(-1), r4.1, ((r2.1.length : Int)), 0]).bind fun r9 =>
     gd ((0 : Int) ≤ r4.1) <| gd (r4.1 < (r2.1.length : Int)) <| some (r2.1.set (r4.1.toNat) ((r2.1.getD (r4.1.toNat) (0, (0, (0, 0)))).1, ((r2.1.getD (r4.1.toNat) (0, (0, (0, 0)))).2.1, ((r2.1.getD (r4.1.toNat) (0, (0, (0, 0)))).2.2.1, r9.1))), r9.2)
 else
  some (r2.1, r3.2)) := by kernel_rfl
theorem ok (k : Nat) : Ok Tryz.prog 109 (sem k) := Fd.ok (cx_ok ⟨spec_l40Rd_pick.ok k, spec_l1Terms.ok k, spec_l40Rd_num.ok k, trivial⟩) ⟨Tryz.func109, rfl, by kernel_rfl⟩ rfl
attribute [irreducible] f
end spec_l1Any
/-! loop.example/wholecheck/spec.l2When -/
namespace spec_l2When
noncomputable def D : Fd := ⟨Tryz.f110, 1, h13, (.ow .sh), [.loan (.ow (.ag (.pr .sh .sh))), .sh], h3, h29⟩
noncomputable def C (k : Nat) : Ctx := cx [(66, spec_l40Rd_pick.sem k), (130, spec_l2Cond.sem k), (65, spec_l40Rd_num.sem k), (131, spec_Joined.sem k)] [((5, 14), 3)] [] [0] [(5, [0, 3, 4, 5, 6, 7, 8, 9, 11, 12, 1, 2, 10, 13, 14])] [] []
noncomputable def sem (k : Nat) : Sem := D.sem (D.ev (C k) k)
noncomputable def f (k : Nat) (p0 : ((List Int) × Int)) (p1 : y2) : Option (y1 × ((List Int) × Int)) := D.ev (C k) k (p0, p1, ())
theorem s (k : Nat) (p0 : ((List Int) × Int)) (p1 : y2) : f k p0 p1 =
 ((spec_l40Rd_pick.f k p0 ((p1.length : Int))).bind fun r1 =>
 gd ((0 : Int) ≤ r1.1) <| gd (r1.1 < (p1.length : Int)) <| (spec_l2Cond.f k r1.2 (p1.getD (r1.1.toNat) (0, (0, 0))) r1.1).bind fun r2 =>
 (spec_l40Rd_pick.f k r2.2 2).bind fun r3 =>
 if (r3.1 == 0) = true then
  (spec_l40Rd_pick.f k r3.2 ((p1.length : Int))).bind fun r4 =>
  gd ((0 : Int) ≤ r4.1) <| gd (r4.1 < (p1.length : Int)) <| (spec_l40Rd_num.f k r4.2 [8, 9, 8]).bind fun r5 =>
  (spec_l2Cond.f k r5.2 (p1.getD (r4.1.toNat) (0, (0, 0))) r4.1).bind fun r6 =>
  (spec_Joined.f k r5.1 r2.1 r6.1 ((p1.length : Int))).bind fun r7 =>
  some (r7.1, r6.2)
 else
  some (r2.1, r3.2)) := by kernel_rfl
theorem ok (k : Nat) : Ok Tryz.prog 110 (sem k) := Fd.ok (cx_ok ⟨spec_l40Rd_pick.ok k, spec_l2Cond.ok k, spec_l40Rd_num.ok k, spec_Joined.ok k, trivial⟩) ⟨Tryz.func110, rfl, by kernel_rfl⟩ rfl
attribute [irreducible] f
end spec_l2When
/-! loop.example/wholecheck/spec.l20Facts -/
namespace spec_l20Facts
noncomputable def D : Fd := ⟨Tryz.f132, 1, .bool, .sh, [.sh, .sh], .unit, h57⟩
noncomputable def C (k : Nat) : Ctx := cx [(112, spec_l2Is.sem k), (59, spec_SystemValid.sem k)] [] [(2, [(1, none), (2, none), (5, none)])] [] [(4, [0, 1, 2, 3, 4, 5, 6, 7, 8])] [] []
noncomputable def sem (k : Nat) : Sem := D.sem (D.ev (C k) k)
noncomputable def f (k : Nat) (p0 : y9) (p1 : y5) : Option (Bool × Unit) := D.ev (C k) k (p0, p1, ())
noncomputable def l2 (k : Nat) (p0 : y9) (p1 : y5) (n : Nat) (v5_2 : Int) : Option (Bool × Unit) :=
 D.lp (C k) k 2 [1, 0, 1, 0] [] n [(5, vI v5_2), (2, .val h44 (.ow .sh) p0), (1, vS h36 p1)]
theorem s2 (k : Nat) (p0 : y9) (p1 : y5) (n : Nat) (v5_2 : Int) : l2 k p0 p1 (n + 1) v5_2 =
 (if (decide (v5_2 < ((p1.length : Int)))) = true then
  gd ((0 : Int) ≤ v5_2) <| gd (v5_2 < (p1.length : Int)) <| (spec_l2Is.f k (p1.getD (v5_2.toNat) []) ((p0.1.length : Int)) 2).bind fun r1 =>
  if (!r1.1) = true then
   some (false, ())
  else
   l2 k p0 p1 n (w64 (v5_2 + 1))
 else
  (spec_SystemValid.f k p0).bind fun r2 =>
  if r2.1 = true then
   some (decide (((p1.length : Int)) ≤ 4), ())
  else
   some (false, ())) := by kernel_rfl
theorem s (k : Nat) (p0 : y9) (p1 : y5) : f k p0 p1 =
 (l2 k p0 p1 k 0) := by kernel_rfl
theorem ok (k : Nat) : Ok Tryz.prog 132 (sem k) := Fd.ok (cx_ok ⟨spec_l2Is.ok k, spec_SystemValid.ok k, trivial⟩) ⟨Tryz.func132, rfl, by kernel_rfl⟩ rfl
attribute [irreducible] f l2
end spec_l20Facts
/-! loop.example/wholecheck/spec.FirstState -/
namespace spec_FirstState
noncomputable def D : Fd := ⟨Tryz.f91, 1, h7, (.ow .sh), [.sh], .unit, h48⟩
noncomputable def C (k : Nat) : Ctx := cx [(59, spec_SystemValid.sem k)] [] [(3, [(1, none), (3, none), (4, none)])] [] [] [] []
noncomputable def sem (k : Nat) : Sem := D.sem (D.ev (C k) k)
noncomputable def f (k : Nat) (p0 : y9) : Option ((List Int) × Unit) := D.ev (C k) k (p0, ())
noncomputable def l3 (k : Nat) (p0 : y9) (n : Nat) (v3_3 : (List Int)) (v4_3 : Int) : Option ((List Int) × Unit) :=
 D.lp (C k) k 3 [1, 1, 0, 1, 0] [] n [(4, vI v4_3), (3, vO h7 v3_3), (1, .val h44 (.ow .sh) p0)]
theorem s3 (k : Nat) (p0 : y9) (n : Nat) (v3_3 : (List Int)) (v4_3 : Int) : l3 k p0 (n + 1) v3_3 v4_3 =
 (if (decide (v4_3 < ((p0.1.length : Int)))) = true then
  (spec_SystemValid.f k p0).bind fun r1 =>
  if r1.1 = true then
   gd ((0 : Int) ≤ v4_3) <| gd (v4_3 < (p0.1.length : Int)) <| gd ((v3_3.length : Int) + ([(p0.1.getD (v4_3.toNat) (0, (0, 0))).2.2].length : Int) ≤ 1099511627776) <| l3 k p0 n (v3_3 ++ [(p0.1.getD (v4_3.toNat) (0, (0, 0))).2.2]) (w64 (v4_3 + 1))
  else
   some (v3_3, ())
 else
  some (v3_3, ())) := by kernel_rfl
theorem s (k : Nat) (p0 : y9) : f k p0 =
 (l3 k p0 k [] 0) := by kernel_rfl
theorem ok (k : Nat) : Ok Tryz.prog 91 (sem k) := Fd.ok (cx_ok ⟨spec_SystemValid.ok k, trivial⟩) ⟨Tryz.func91, rfl, by kernel_rfl⟩ rfl
attribute [irreducible] f l3
end spec_FirstState
/-! loop.example/wholecheck/spec.l3Copy -/
namespace spec_l3Copy
noncomputable def D : Fd := ⟨Tryz.f49, 1, h7, (.ow .sh), [.sh], .unit, h8⟩
noncomputable def C (k : Nat) : Ctx := cx [] [] [(3, [(0, none), (3, none), (4, none)])] [] [] [] []
noncomputable def sem (k : Nat) : Sem := D.sem (D.ev (C k) k)
noncomputable def f (k : Nat) (p0 : (List Int)) : Option ((List Int) × Unit) := D.ev (C k) k (p0, ())
noncomputable def l3 (k : Nat) (p0 : (List Int)) (n : Nat) (v3_3 : (List Int)) (v4_3 : Int) : Option ((List Int) × Unit) :=
 D.lp (C k) k 3 [1, 1, 0, 1, 0] [] n [(4, vI v4_3), (3, vO h7 v3_3), (0, vS h7 p0)]
theorem s3 (k : Nat) (p0 : (List Int)) (n : Nat) (v3_3 : (List Int)) (v4_3 : Int) : l3 k p0 (n + 1) v3_3 v4_3 =
 (if (decide (v4_3 < ((p0.length : Int)))) = true then
  gd ((0 : Int) ≤ v4_3) <| gd (v4_3 < (p0.length : Int)) <| gd ((v3_3.length : Int) + ([(p0.getD (v4_3.toNat) 0)].length : Int) ≤ 1099511627776) <| l3 k p0 n (v3_3 ++ [(p0.getD (v4_3.toNat) 0)]) (w64 (v4_3 + 1))
 else
  some (v3_3, ())) := by kernel_rfl
theorem s (k : Nat) (p0 : (List Int)) : f k p0 =
 (l3 k p0 k [] 0) := by kernel_rfl
theorem ok (k : Nat) : Ok Tryz.prog 49 (sem k) := Fd.ok (cx_ok trivial) ⟨Tryz.func49, rfl, by kernel_rfl⟩ rfl
attribute [irreducible] f l3
end spec_l3Copy
/-! loop.example/wholecheck/spec.l4State -/
namespace spec_l4State
noncomputable def D : Fd := ⟨Tryz.f119, 1, h7, (.ow .sh), [.sh, .sh], .unit, h58⟩
noncomputable def C (k : Nat) : Ctx := cx [(91, spec_FirstState.sem k), (49, spec_l3Copy.sem k)] [] [(3, [(1, none), (2, none), (5, none), (6, none)])] [] [(5, [0, 1, 2, 3, 4, 5, 6, 7, 8, 9, 10, 11, 12, 13, 14]), (6, [0, 1, 2, 3, 4, 5, 6, 7, 8, 9, 10, 11, 12, 13])] [] []
noncomputable def sem (k : Nat) : Sem := D.sem (D.ev (C k) k)
noncomputable def f (k : Nat) (p0 : y9) (p1 : Int) : Option ((List Int) × Unit) := D.ev (C k) k (p0, p1, ())
noncomputable def l3 (k : Nat) (p0 : y9) (n : Nat) (v1_3 : Int) (v5_3 : (List Int)) (v6_3 : Int) : Option ((List Int) × Unit) :=
 D.lp (C k) k 3 [1, 1, 0, 1, 0] [] n [(6, vI v6_3), (5, vO h7 v5_3), (2, .val h44 (.ow .sh) p0), (1, vI v1_3)]
theorem s3 (k : Nat) (p0 : y9) (n : Nat) (v1_3 : Int) (v5_3 : (List Int)) (v6_3 : Int) : l3 k p0 (n + 1) v1_3 v5_3 v6_3 =
 (if (decide (v6_3 ≥ 0)) = true then
  gd ((0 : Int) ≤ v6_3) <| gd (v6_3 < (p0.1.length : Int)) <| gd ((0 : Int) ≤ v6_3) <| gd (v6_3 < (p0.1.length : Int)) <| gd ((0 : Int) ≤ v6_3) <| gd (v6_3 < (p0.1.length : Int)) <| gd (((w64 ((w64 ((p0.1.getD (v6_3.toNat) (0, (0, 0))).2.1 - (p0.1.getD (v6_3.toNat) (0, (0, 0))).1)) + 1)) : Int) ≠ 0) <| gd ((0 : Int) ≤ v6_3) <| gd (v6_3 < (v5_3.length : Int)) <| gd (((w64 ((w64 ((p0.1.getD (v6_3.toNat) (0, (0, 0))).2.1 - (p0.1.getD (v6_3.toNat) (0, (0, 0))).1)) + 1)) : Int) ≠ 0) <| l3 k p0 n (w64 (v1_3.tdiv (w64 ((w64 ((p0.1.getD (v6_3.toNat) (0, (0, 0))).2.1 - (p0.1.getD (v6_3.toNat) (0, (0, 0))).1)) + 1)))) (v5_3.set (v6_3.toNat) (w64 ((p0.1.getD (v6_3.toNat) (0, (0, 0))).1 + (v1_3.tmod (w64 ((w64 ((p0.1.getD (v6_3.toNat) (0, (0, 0))).2.1 - (p0.1.getD (v6_3.toNat) (0, (0, 0))).1)) + 1)))))) (w64 (v6_3 - 1))
 else
  some (v5_3, ())) := by kernel_rfl
theorem s (k : Nat) (p0 : y9) (p1 : Int) : f k p0 p1 =
 ((spec_FirstState.f k p0).bind fun r1 =>
 (spec_l3Copy.f k r1.1).bind fun r2 =>
 l3 k p0 k p1 r2.1 (w64 (((p0.1.length : Int)) - 1))) := by kernel_rfl
theorem ok (k : Nat) : Ok Tryz.prog 119 (sem k) := Fd.ok (cx_ok ⟨spec_FirstState.ok k, spec_l3Copy.ok k, trivial⟩) ⟨Tryz.func119, rfl, by kernel_rfl⟩ rfl
attribute [irreducible] f l3
end spec_l4State
/-! loop.example/wholecheck/spec.l1Held -/
namespace spec_l1Held
noncomputable def D : Fd := ⟨Tryz.f180, 1, I, .sh, [.sh], .unit, h5⟩
noncomputable def C (k : Nat) : Ctx := cx [] [] [] [] [] [] []
noncomputable def sem (k : Nat) : Sem := D.sem (D.ev (C k) k)
noncomputable def f (k : Nat) (p0 : Int) : Option (Int × Unit) := D.ev (C k) k (p0, ())
theorem s (k : Nat) (p0 : Int) : f k p0 =
 (if (decide (p0 > 9999)) = true then
  some (9999, ())
 else
  if (decide (p0 < (-9999))) = true then
   some ((-9999), ())
  else
   some (p0, ())) := by kernel_rfl
theorem ok (k : Nat) : Ok Tryz.prog 180 (sem k) := Fd.ok (cx_ok trivial) ⟨Tryz.func180, rfl, by kernel_rfl⟩ rfl
attribute [irreducible] f
end spec_l1Held
/-! loop.example/wholecheck/spec.l1Truth -/
namespace spec_l1Truth
noncomputable def D : Fd := ⟨Tryz.f34, 1, I, .sh, [.sh], .unit, h59⟩
noncomputable def C (k : Nat) : Ctx := cx [] [] [] [] [] [] []
noncomputable def sem (k : Nat) : Sem := D.sem (D.ev (C k) k)
noncomputable def f (k : Nat) (p0 : Bool) : Option (Int × Unit) := D.ev (C k) k (p0, ())
theorem s (k : Nat) (p0 : Bool) : f k p0 =
 (if p0 = true then
  some (1, ())
 else
  some (0, ())) := by kernel_rfl
theorem ok (k : Nat) : Ok Tryz.prog 34 (sem k) := Fd.ok (cx_ok trivial) ⟨Tryz.func34, rfl, by kernel_rfl⟩ rfl
attribute [irreducible] f
end spec_l1Truth
/-! loop.example/wholecheck/spec.l1Do -/
namespace spec_l1Do
noncomputable def D : Fd := ⟨Tryz.f179, 1, I, .sh, [.sh, .sh, .sh], .unit, h18⟩
noncomputable def C (k : Nat) : Ctx := cx [(180, spec_l1Held.sem k), (34, spec_l1Truth.sem k)] [] [] [] [] [] []
noncomputable def sem (k : Nat) : Sem := D.sem (D.ev (C k) k)
noncomputable def f (k : Nat) (p0 p1 p2 : Int) : Option (Int × Unit) := D.ev (C k) k (p0, p1, p2, ())
theorem s (k : Nat) (p0 p1 p2 : Int) : f k p0 p1 p2 =
 (if (p0 == 2) = true then
  (spec_l1Held.f k (w64 (p1 + p2))).bind fun r1 =>
  some (r1.1, ())
 else
  if (p0 == 3) = true then
   (spec_l1Held.f k (w64 (p1 - p2))).bind fun r2 =>
   some (r2.1, ())
  else
   if (p0 == 4) = true then
    (spec_l1Held.f k (w64 (p1 * p2))).bind fun r3 =>
    some (r3.1, ())
   else
    if (p0 == 5) = true then
     (spec_l1Truth.f k (decide (p1 < p2))).bind fun r4 =>
     some (r4.1, ())
    else
     if (p0 == 6) = true then
      (spec_l1Truth.f k (p1 == p2)).bind fun r5 =>
      some (r5.1, ())
     else
      if (p0 == 7) = true then
       some (w64 (1 - p1), ())
      else
       if (p0 == 8) = true then
        some (w64 (p1 * p2), ())
       else
        (spec_l1Truth.f k (decide ((w64 (p1 + p2)) > 0))).bind fun r6 =>
        some (r6.1, ())) := by kernel_rfl
theorem ok (k : Nat) : Ok Tryz.prog 179 (sem k) := Fd.ok (cx_ok ⟨spec_l1Held.ok k, spec_l1Truth.ok k, trivial⟩) ⟨Tryz.func179, rfl, by kernel_rfl⟩ rfl
attribute [irreducible] f
end spec_l1Do
/-! loop.example/wholecheck/spec.l1Values -/
namespace spec_l1Values
noncomputable def D : Fd := ⟨Tryz.f175, 1, h7, (.ow .sh), [.sh, .sh], .unit, h60⟩
noncomputable def C (k : Nat) : Ctx := cx [(179, spec_l1Do.sem k)] [((10, 16), 3)] [(3, [(0, none), (1, none), (5, none), (6, none)])] [] [(10, [0, 1, 2, 3, 4, 5, 6, 7, 8, 9, 10, 11, 12, 13, 14, 15, 16])] [] []
noncomputable def sem (k : Nat) : Sem := D.sem (D.ev (C k) k)
noncomputable def f (k : Nat) (p0 : y1) (p1 : (List Int)) : Option ((List Int) × Unit) := D.ev (C k) k (p0, p1, ())
noncomputable def l3 (k : Nat) (p0 : y1) (p1 : (List Int)) (n : Nat) (v5_3 : (List Int)) (v6_3 : Int) : Option ((List Int) × Unit) :=
 D.lp (C k) k 3 [1, 1, 0, 1, 0] [] n [(6, vI v6_3), (5, vO h7 v5_3), (1, vS h7 p1), (0, vS h13 p0)]
theorem s3 (k : Nat) (p0 : y1) (p1 : (List Int)) (n : Nat) (v5_3 : (List Int)) (v6_3 : Int) : l3 k p0 p1 (n + 1) v5_3 v6_3 =
 (if (decide (v6_3 < ((p0.length : Int)))) = true then
  gd ((0 : Int) ≤ v6_3) <| gd (v6_3 < (p0.length : Int)) <| if ((p0.getD (v6_3.toNat) (0, (0, (0, 0)))).1 == 0) = true then
   gd ((v5_3.length : Int) + ([(p0.getD (v6_3.toNat) (0, (0, (0, 0)))).2.1].length : Int) ≤ 1099511627776) <| l3 k p0 p1 n (v5_3 ++ [(p0.getD (v6_3.toNat) (0, (0, (0, 0)))).2.1]) (w64 (v6_3 + 1))
  else
   if ((p0.getD (v6_3.toNat) (0, (0, (0, 0)))).1 == 1) = true then
    gd ((0 : Int) ≤ (p0.getD (v6_3.toNat) (0, (0, (0, 0)))).2.1) <| gd ((p0.getD (v6_3.toNat) (0, (0, (0, 0)))).2.1 < (p1.length : Int)) <| gd ((v5_3.length : Int) + ([(p1.getD ((p0.getD (v6_3.toNat) (0, (0, (0, 0)))).2.1.toNat) 0)].length : Int) ≤ 1099511627776) <| l3 k p0 p1 n (v5_3 ++ [(p1.getD ((p0.getD (v6_3.toNat) (0, (0, (0, 0)))).2.1.toNat) 0)]) (w64 (v6_3 + 1))
   else
    gd ((0 : Int) ≤ (p0.getD (v6_3.toNat) (0, (0, (0, 0)))).2.2.1) <| gd ((p0.getD (v6_3.toNat) (0, (0, (0, 0)))).2.2.1 < (v5_3.length : Int)) <| gd ((0 : Int) ≤ (p0.getD (v6_3.toNat) (0, (0, (0, 0)))).2.2.2) <| gd ((p0.getD (v6_3.toNat) (0, (0, (0, 0)))).2.2.2 < (v5_3.length : Int)) <| (spec_l1Do.f k (p0.getD (v6_3.toNat) (0, (0, (0, 0)))).1 (v5_3.getD ((p0.getD (v6_3.toNat) (0, (0, (0, 0)))).2.2.1.toNat) 0) (v5_3.getD ((p0.getD (v6_3.toNat) (0, (0, (0, 0)))).2.2.2.toNat) 0)).bind fun r1 =>
    gd ((v5_3.length : Int) + ([r1.1].length : Int) ≤ 1099511627776) <| l3 k p0 p1 n (v5_3 ++ [r1.1]) (w64 (v6_3 + 1))
 else
  some (v5_3, ())) := by kernel_rfl
theorem s (k : Nat) (p0 : y1) (p1 : (List Int)) : f k p0 p1 =
 (l3 k p0 p1 k [] 0) := by kernel_rfl
theorem ok (k : Nat) : Ok Tryz.prog 175 (sem k) := Fd.ok (cx_ok ⟨spec_l1Do.ok k, trivial⟩) ⟨Tryz.func175, rfl, by kernel_rfl⟩ rfl
attribute [irreducible] f l3
end spec_l1Values
/-! loop.example/wholecheck/spec.l2Last -/
namespace spec_l2Last
noncomputable def D : Fd := ⟨Tryz.f164, 1, I, .sh, [.sh, .sh], .unit, h60⟩
noncomputable def C (k : Nat) : Ctx := cx [(175, spec_l1Values.sem k)] [] [] [] [] [] []
noncomputable def sem (k : Nat) : Sem := D.sem (D.ev (C k) k)
noncomputable def f (k : Nat) (p0 : y1) (p1 : (List Int)) : Option (Int × Unit) := D.ev (C k) k (p0, p1, ())
theorem s (k : Nat) (p0 : y1) (p1 : (List Int)) : f k p0 p1 =
 ((spec_l1Values.f k p0 p1).bind fun r1 =>
 gd ((0 : Int) ≤ (w64 (((p0.length : Int)) - 1))) <| gd ((w64 (((p0.length : Int)) - 1)) < (r1.1.length : Int)) <| some (r1.1.getD ((w64 (((p0.length : Int)) - 1)).toNat) 0, ())) := by kernel_rfl
theorem ok (k : Nat) : Ok Tryz.prog 164 (sem k) := Fd.ok (cx_ok ⟨spec_l1Values.ok k, trivial⟩) ⟨Tryz.func164, rfl, by kernel_rfl⟩ rfl
attribute [irreducible] f
end spec_l2Last
/-! loop.example/wholecheck/spec.l20Of -/
namespace spec_l20Of
noncomputable def D : Fd := ⟨Tryz.f133, 1, h7, (.ow .sh), [.sh, .sh], .unit, h61⟩
noncomputable def C (k : Nat) : Ctx := cx [(164, spec_l2Last.sem k)] [] [(3, [(0, none), (1, none), (5, none), (6, none)])] [] [] [] []
noncomputable def sem (k : Nat) : Sem := D.sem (D.ev (C k) k)
noncomputable def f (k : Nat) (p0 : y5) (p1 : (List Int)) : Option ((List Int) × Unit) := D.ev (C k) k (p0, p1, ())
noncomputable def l3 (k : Nat) (p0 : y5) (p1 : (List Int)) (n : Nat) (v5_3 : (List Int)) (v6_3 : Int) : Option ((List Int) × Unit) :=
 D.lp (C k) k 3 [1, 1, 0, 1, 0] [] n [(6, vI v6_3), (5, vO h7 v5_3), (1, vS h7 p1), (0, vS h36 p0)]
theorem s3 (k : Nat) (p0 : y5) (p1 : (List Int)) (n : Nat) (v5_3 : (List Int)) (v6_3 : Int) : l3 k p0 p1 (n + 1) v5_3 v6_3 =
 (if (decide (v6_3 < ((p0.length : Int)))) = true then
  gd ((0 : Int) ≤ v6_3) <| gd (v6_3 < (p0.length : Int)) <| (spec_l2Last.f k (p0.getD (v6_3.toNat) []) p1).bind fun r1 =>
  gd ((v5_3.length : Int) + ([r1.1].length : Int) ≤ 1099511627776) <| l3 k p0 p1 n (v5_3 ++ [r1.1]) (w64 (v6_3 + 1))
 else
  some (v5_3, ())) := by kernel_rfl
theorem s (k : Nat) (p0 : y5) (p1 : (List Int)) : f k p0 p1 =
 (l3 k p0 p1 k [] 0) := by kernel_rfl
theorem ok (k : Nat) : Ok Tryz.prog 133 (sem k) := Fd.ok (cx_ok ⟨spec_l2Last.ok k, trivial⟩) ⟨Tryz.func133, rfl, by kernel_rfl⟩ rfl
attribute [irreducible] f l3
end spec_l20Of
/-! loop.example/wholecheck/spec.BlocksBy -/
namespace spec_BlocksBy
noncomputable def D : Fd := ⟨Tryz.f111, 2, h62, (.pr (.ag (.ow .sh)) .sh), [.sh, .sh], .unit, h57⟩
noncomputable def C (k : Nat) : Ctx := cx [(132, spec_l20Facts.sem k), (25, spec_SizeOf.sem k), (119, spec_l4State.sem k), (133, spec_l20Of.sem k), (36, spec_l28Rows.sem k)] [] [(5, [(1, none), (2, none), (4, none), (6, none), (7, none)])] [] [] [] []
noncomputable def sem (k : Nat) : Sem := D.sem (D.ev (C k) k)
noncomputable def f (k : Nat) (p0 : y9) (p1 : y5) : Option (((List Int) × Bool) × Unit) := D.ev (C k) k (p0, p1, ())
noncomputable def l5 (k : Nat) (p0 : y9) (p1 : y5) (n : Nat) (v6_5 : (List (List Int))) (v7_5 : Int) : Option (((List Int) × Bool) × Unit) :=
 D.lp (C k) k 5 [1, 1, 1, 0, 1, 0] [] n [(7, vI v7_5), (6, vO h51 v6_5), (4, vO h53 []), (2, .val h44 (.ow .sh) p0), (1, vS h36 p1)]
theorem s5 (k : Nat) (p0 : y9) (p1 : y5) (n : Nat) (v6_5 : (List (List Int))) (v7_5 : Int) : l5 k p0 p1 (n + 1) v6_5 v7_5 =
 ((spec_SizeOf.f k p0).bind fun r2 =>
 if (decide (v7_5 < r2.1)) = true then
  (spec_l4State.f k p0 v7_5).bind fun r3 =>
  (spec_l20Of.f k p1 r3.1).bind fun r4 =>
  gd ((v6_5.length : Int) + ([r4.1].length : Int) ≤ 1099511627776) <| l5 k p0 p1 n (v6_5 ++ [r4.1]) (w64 (v7_5 + 1))
 else
  (spec_l28Rows.f k v6_5).bind fun r5 =>
  some ((r5.1, true), ())) := by kernel_rfl
theorem s (k : Nat) (p0 : y9) (p1 : y5) : f k p0 p1 =
 ((spec_l20Facts.f k p0 p1).bind fun r1 =>
 if (!r1.1) = true then
  some (([], false), ())
 else
  l5 k p0 p1 k [] 0) := by kernel_rfl
theorem ok (k : Nat) : Ok Tryz.prog 111 (sem k) := Fd.ok (cx_ok ⟨spec_l20Facts.ok k, spec_SizeOf.ok k, spec_l4State.ok k, spec_l20Of.ok k, spec_l28Rows.ok k, trivial⟩) ⟨Tryz.func111, rfl, by kernel_rfl⟩ rfl
attribute [irreducible] f l5
end spec_BlocksBy
/-! loop.example/wholecheck/spec.l28Ask -/
namespace spec_l28Ask
noncomputable def D : Fd := ⟨Tryz.f82, 3, h64, (.pr (.ag (.pr .sh (.ow (.ag (.pr (.ow .sh) (.pr (.ow .sh) (.ow (.ow .sh)))))))) (.pr (.ag (.ow .sh)) .sh)), [.sh], .unit, h4⟩
noncomputable def C (k : Nat) : Ctx := cx [(28, spec_l28Draw.sem k), (109, spec_l1Any.sem k), (102, spec_l2Var.sem k), (66, spec_l40Rd_pick.sem k), (110, spec_l2When.sem k), (59, spec_SystemValid.sem k), (111, spec_BlocksBy.sem k)] [((4, 3), 2), ((6, 2), 1)] [] [] [(3, [0, 1, 2, 3, 4, 5, 6, 7, 8, 9]), (8, [0, 1, 2, 3, 4, 5])] [((3, 6), [6, 7]), ((3, 7), [7]), ((8, 3), [7])] []
noncomputable def sem (k : Nat) : Sem := D.sem (D.ev (C k) k)
noncomputable def f (k : Nat) (p0 : (List Int)) : Option (y13 × Unit) := D.ev (C k) k (p0, ())
theorem s (k : Nat) (p0 : (List Int)) : f k p0 =
 ((spec_l28Draw.f k p0).bind fun r1 =>
 if (((r1.1.2.1.1.length : Int)) == 0) = true then
  (spec_l1Any.f k r1.1.1 ((r1.1.2.1.1.length : Int))).bind fun r2 =>
  some ((r1.1.2.1, (r1.1.2.2, r2.1)), ())
 else
  gd ((0 : Int) ≤ 0) <| gd (0 < (r1.1.2.1.1.length : Int)) <| (spec_l2Var.f k (r1.1.2.1.1.getD (Int.toNat 0) (0, (0, 0)))).bind fun r3 =>
  if (!r3.1) = true then
   (spec_l1Any.f k r1.1.1 ((r1.1.2.1.1.length : Int))).bind fun r4 =>
   some ((r1.1.2.1, (r1.1.2.2, r4.1)), ())
  else
   (spec_l40Rd_pick.f k r1.1.1 16).bind fun r5 =>
   if (r5.1 == 0) = true then
    (spec_l1Any.f k r5.2 ((r1.1.2.1.1.length : Int))).bind fun r6 =>
    some ((r1.1.2.1, (r1.1.2.2, r6.1)), ())
   else
    gd ((0 : Int) ≤ 0) <| gd ((0 : Int) ≤ 1) <| gd (1 ≤ (r1.1.2.1.1.length : Int)) <| (spec_l2When.f k r5.2 ((r1.1.2.1.1.take (Int.toNat 1)).drop (Int.toNat 0))).bind fun r7 =>
    (spec_SystemValid.f k r1.1.2.1).bind fun r8 =>
    if r8.1 = true then
     (spec_l40Rd_pick.f k r7.2 2).bind fun r9 =>
     if (r9.1 == 0) = true then
      (spec_BlocksBy.f k r1.1.2.1 [r7.1]).bind fun r10 =>
      some ((r1.1.2.1, (r10.1.1, r7.1)), ())
     else
      some ((r1.1.2.1, (r1.1.2.2, r7.1)), ())
    else
     some ((r1.1.2.1, (r1.1.2.2, r7.1)), ())) := by kernel_rfl
theorem ok (k : Nat) : Ok Tryz.prog 82 (sem k) := Fd.ok (cx_ok ⟨spec_l28Draw.ok k, spec_l1Any.ok k, spec_l2Var.ok k, spec_l40Rd_pick.ok k, spec_l2When.ok k, spec_SystemValid.ok k, spec_BlocksBy.ok k, trivial⟩) ⟨Tryz.func82, rfl, by kernel_rfl⟩ rfl
attribute [irreducible] f
end spec_l28Ask
/-! loop.example/wholecheck/spec.BlocksValid -/
namespace spec_BlocksValid
noncomputable def D : Fd := ⟨Tryz.f12, 1, .bool, .sh, [.sh, .sh], .unit, h66⟩
noncomputable def C (k : Nat) : Ctx := cx [(25, spec_SizeOf.sem k), (39, spec_l1In.sem k)] [] [(4, [(3, none), (5, none)])] [] [(1, [0, 1, 2, 3, 4, 5, 6, 7, 8, 9, 10, 11]), (6, [0, 1, 2, 3, 4, 5, 6, 7, 8, 9, 10, 11, 12, 13, 14, 15, 16, 17, 18, 19, 20, 21, 22, 23, 24])] [((1, 4), [3])] []
noncomputable def sem (k : Nat) : Sem := D.sem (D.ev (C k) k)
noncomputable def f (k : Nat) (p0 : y9) (p1 : (List Int)) : Option (Bool × Unit) := D.ev (C k) k (p0, p1, ())
noncomputable def l4 (k : Nat) (p1 : (List Int)) (n : Nat) (v5_4 : Int) : Option (Bool × Unit) :=
 D.lp (C k) k 4 [1, 1, 0, 1, 0] [] n [(5, vI v5_4), (3, .val h53 (.ow .sh) p1)]
theorem s4 (k : Nat) (p1 : (List Int)) (n : Nat) (v5_4 : Int) : l4 k p1 (n + 1) v5_4 =
 (if (decide (v5_4 < ((p1.length : Int)))) = true then
  gd ((0 : Int) ≤ v5_4) <| gd (v5_4 < (p1.length : Int)) <| (spec_l1In.f k (p1.getD (v5_4.toNat) 0) 0 v5_4).bind fun r2 =>
  if (!r2.1) = true then
   some (false, ())
  else
   gd ((0 : Int) ≤ v5_4) <| gd (v5_4 < (p1.length : Int)) <| gd ((0 : Int) ≤ (p1.getD (v5_4.toNat) 0)) <| gd ((p1.getD (v5_4.toNat) 0) < (p1.length : Int)) <| gd ((0 : Int) ≤ v5_4) <| gd (v5_4 < (p1.length : Int)) <| if ((p1.getD ((p1.getD (v5_4.toNat) 0).toNat) 0) != (p1.getD (v5_4.toNat) 0)) = true then
    some (false, ())
   else
    l4 k p1 n (w64 (v5_4 + 1))
 else
  some (true, ())) := by kernel_rfl
theorem s (k : Nat) (p0 : y9) (p1 : (List Int)) : f k p0 p1 =
 ((spec_SizeOf.f k p0).bind fun r1 =>
 if (((p1.length : Int)) != r1.1) = true then
  some (false, ())
 else
  if (((p1.length : Int)) == 0) = true then
   some (false, ())
  else
   l4 k p1 k 0) := by kernel_rfl
theorem ok (k : Nat) : Ok Tryz.prog 12 (sem k) := Fd.ok (cx_ok ⟨spec_SizeOf.ok k, spec_l1In.ok k, trivial⟩) ⟨Tryz.func12, rfl, by kernel_rfl⟩ rfl
attribute [irreducible] f l4
end spec_BlocksValid
/-! loop.example/wholecheck/spec.StatesWhere -/
namespace spec_StatesWhere
noncomputable def D : Fd := ⟨Tryz.f135, 1, h7, (.ow .sh), [.sh, .sh], .unit, h68⟩
noncomputable def C (k : Nat) : Ctx := cx [(59, spec_SystemValid.sem k), (112, spec_l2Is.sem k), (25, spec_SizeOf.sem k), (119, spec_l4State.sem k), (164, spec_l2Last.sem k)] [] [(5, [(1, none), (2, none), (5, none), (6, none)])] [] [] [] []
noncomputable def sem (k : Nat) : Sem := D.sem (D.ev (C k) k)
noncomputable def f (k : Nat) (p0 : y9) (p1 : y1) : Option ((List Int) × Unit) := D.ev (C k) k (p0, p1, ())
noncomputable def l5 (k : Nat) (p0 : y9) (p1 : y1) (n : Nat) (v5_5 : (List Int)) (v6_5 : Int) : Option ((List Int) × Unit) :=
 D.lp (C k) k 5 [1, 1, 1, 0, 1, 0] [] n [(6, vI v6_5), (5, vO h7 v5_5), (2, .val h44 (.ow .sh) p0), (1, vS h13 p1)]
theorem s5 (k : Nat) (p0 : y9) (p1 : y1) (n : Nat) (v5_5 : (List Int)) (v6_5 : Int) : l5 k p0 p1 (n + 1) v5_5 v6_5 =
 ((spec_SizeOf.f k p0).bind fun r3 =>
 if (decide (v6_5 < r3.1)) = true then
  (spec_l4State.f k p0 v6_5).bind fun r4 =>
  (spec_l2Last.f k p1 r4.1).bind fun r5 =>
  if (r5.1 == 1) = true then
   gd ((v5_5.length : Int) + ([v6_5].length : Int) ≤ 1099511627776) <| l5 k p0 p1 n (v5_5 ++ [v6_5]) (w64 (v6_5 + 1))
  else
   l5 k p0 p1 n v5_5 (w64 (v6_5 + 1))
 else
  some (v5_5, ())) := by kernel_rfl
theorem s (k : Nat) (p0 : y9) (p1 : y1) : f k p0 p1 =
 ((spec_SystemValid.f k p0).bind fun r1 =>
 if (!r1.1) = true then
  some ([], ())
 else
  (spec_l2Is.f k p1 ((p0.1.length : Int)) 2).bind fun r2 =>
  if (!r2.1) = true then
   some ([], ())
  else
   l5 k p0 p1 k [] 0) := by kernel_rfl
theorem ok (k : Nat) : Ok Tryz.prog 135 (sem k) := Fd.ok (cx_ok ⟨spec_SystemValid.ok k, spec_l2Is.ok k, spec_SizeOf.ok k, spec_l4State.ok k, spec_l2Last.ok k, trivial⟩) ⟨Tryz.func135, rfl, by kernel_rfl⟩ rfl
attribute [irreducible] f l5
end spec_StatesWhere
/-! loop.example/wholecheck/spec.l4Marks -/
namespace spec_l4Marks
noncomputable def D : Fd := ⟨Tryz.f96, 1, h69, (.ow .sh), [.sh, .sh], .unit, h19⟩
noncomputable def C (k : Nat) : Ctx := cx [] [] [(3, [(0, none), (5, none), (6, none)])] [] [] [] []
noncomputable def sem (k : Nat) : Sem := D.sem (D.ev (C k) k)
noncomputable def f (k : Nat) (p0 : (List Int)) (p1 : Int) : Option ((List Bool) × Unit) := D.ev (C k) k (p0, p1, ())
noncomputable def l3 (k : Nat) (p0 : (List Int)) (n : Nat) (v5_3 : (List Bool)) (v6_3 : Int) : Option ((List Bool) × Unit) :=
 D.lp (C k) k 3 [1, 1, 0, 1, 0] [] n [(6, vI v6_3), (5, vO h69 v5_3), (0, vS h7 p0)]
theorem s3 (k : Nat) (p0 : (List Int)) (n : Nat) (v5_3 : (List Bool)) (v6_3 : Int) : l3 k p0 (n + 1) v5_3 v6_3 =
 (if (decide (v6_3 < ((p0.length : Int)))) = true then
  gd ((0 : Int) ≤ v6_3) <| gd (v6_3 < (p0.length : Int)) <| gd ((0 : Int) ≤ (p0.getD (v6_3.toNat) 0)) <| gd ((p0.getD (v6_3.toNat) 0) < (v5_3.length : Int)) <| l3 k p0 n (v5_3.set ((p0.getD (v6_3.toNat) 0).toNat) true) (w64 (v6_3 + 1))
 else
  some (v5_3, ())) := by kernel_rfl
theorem s (k : Nat) (p0 : (List Int)) (p1 : Int) : f k p0 p1 =
 (gd ((0 : Int) ≤ p1) <| gd ((p1 : Int) ≤ 1099511627776) <| l3 k p0 k ((List.replicate p1.toNat false : (List Bool))) 0) := by kernel_rfl
theorem ok (k : Nat) : Ok Tryz.prog 96 (sem k) := Fd.ok (cx_ok trivial) ⟨Tryz.func96, rfl, by kernel_rfl⟩ rfl
attribute [irreducible] f l3
end spec_l4Marks
/-! loop.example/wholecheck/spec.l15Good -/
namespace spec_l15Good
noncomputable def D : Fd := ⟨Tryz.f113, 1, h69, (.ow .sh), [.sh, .sh], .unit, h68⟩
noncomputable def C (k : Nat) : Ctx := cx [(135, spec_StatesWhere.sem k), (25, spec_SizeOf.sem k), (96, spec_l4Marks.sem k)] [] [] [] [(1, [0, 1, 3, 2, 4, 5, 6])] [((1, 2), [2])] []
noncomputable def sem (k : Nat) : Sem := D.sem (D.ev (C k) k)
noncomputable def f (k : Nat) (p0 : y9) (p1 : y1) : Option ((List Bool) × Unit) := D.ev (C k) k (p0, p1, ())
theorem s (k : Nat) (p0 : y9) (p1 : y1) : f k p0 p1 =
 ((spec_StatesWhere.f k p0 p1).bind fun r1 =>
 (spec_SizeOf.f k p0).bind fun r2 =>
 (spec_l4Marks.f k r1.1 r2.1).bind fun r3 =>
 some (r3.1, ())) := by kernel_rfl
theorem ok (k : Nat) : Ok Tryz.prog 113 (sem k) := Fd.ok (cx_ok ⟨spec_StatesWhere.ok k, spec_SizeOf.ok k, spec_l4Marks.ok k, trivial⟩) ⟨Tryz.func113, rfl, by kernel_rfl⟩ rfl
attribute [irreducible] f
end spec_l15Good
/-! loop.example/wholecheck/spec.l2In -/
namespace spec_l2In
noncomputable def D : Fd := ⟨Tryz.f165, 1, .bool, .sh, [.sh, .sh], .unit, h70⟩
noncomputable def C (k : Nat) : Ctx := cx [(39, spec_l1In.sem k)] [] [(4, [(1, none), (2, none), (5, none)])] [] [(6, [0, 1, 2, 3, 4, 5, 6, 7, 8, 9, 10, 11, 12, 13, 14, 15, 16, 17])] [] []
noncomputable def sem (k : Nat) : Sem := D.sem (D.ev (C k) k)
noncomputable def f (k : Nat) (p0 : y9) (p1 : (List Int)) : Option (Bool × Unit) := D.ev (C k) k (p0, p1, ())
noncomputable def l4 (k : Nat) (p0 : y9) (p1 : (List Int)) (n : Nat) (v5_4 : Int) : Option (Bool × Unit) :=
 D.lp (C k) k 4 [1, 1, 0, 1, 0] [] n [(5, vI v5_4), (2, .val h44 (.ow .sh) p0), (1, vS h7 p1)]
theorem s4 (k : Nat) (p0 : y9) (p1 : (List Int)) (n : Nat) (v5_4 : Int) : l4 k p0 p1 (n + 1) v5_4 =
 (if (decide (v5_4 < ((p1.length : Int)))) = true then
  gd ((0 : Int) ≤ v5_4) <| gd (v5_4 < (p1.length : Int)) <| gd ((0 : Int) ≤ v5_4) <| gd (v5_4 < (p0.1.length : Int)) <| gd ((0 : Int) ≤ v5_4) <| gd (v5_4 < (p0.1.length : Int)) <| (spec_l1In.f k (p1.getD (v5_4.toNat) 0) (p0.1.getD (v5_4.toNat) (0, (0, 0))).1 (p0.1.getD (v5_4.toNat) (0, (0, 0))).2.1).bind fun r1 =>
  if (!r1.1) = true then
   some (false, ())
  else
   l4 k p0 p1 n (w64 (v5_4 + 1))
 else
  some (true, ())) := by kernel_rfl
theorem s (k : Nat) (p0 : y9) (p1 : (List Int)) : f k p0 p1 =
 (if (((p1.length : Int)) != ((p0.1.length : Int))) = true then
  some (false, ())
 else
  l4 k p0 p1 k 0) := by kernel_rfl
theorem ok (k : Nat) : Ok Tryz.prog 165 (sem k) := Fd.ok (cx_ok ⟨spec_l1In.ok k, trivial⟩) ⟨Tryz.func165, rfl, by kernel_rfl⟩ rfl
attribute [irreducible] f l4
end spec_l2In
/-! loop.example/wholecheck/spec.l2Use -/
namespace spec_l2Use
noncomputable def D : Fd := ⟨Tryz.f136, 1, h7, (.ow .sh), [.sh, .sh, .sh], .unit, h71⟩
noncomputable def C (k : Nat) : Ctx := cx [(164, spec_l2Last.sem k), (165, spec_l2In.sem k)] [] [(6, [(1, none), (3, none), (7, none), (8, none), (9, none)]), (10, [(1, none), (3, none), (7, none), (8, none), (10, none)])] [] [(12, [0, 1, 2, 3, 4, 5, 6, 7, 8, 9, 10, 11, 12, 13, 14])] [((12, 12), [7])] []
noncomputable def sem (k : Nat) : Sem := D.sem (D.ev (C k) k)
noncomputable def f (k : Nat) (p0 : y9) (p1 : (List Int)) (p2 : Int) : Option ((List Int) × Unit) := D.ev (C k) k (p0, p1, p2, ())
noncomputable def l6 (k : Nat) (p0 : y9) (p1 : (List Int)) (p2 : Int) (n : Nat) (v8_6 : (List Int)) (v9_6 : Int) : Option ((List Int) × Unit) :=
 D.lp (C k) k 6 [1, 1, 1, 1, 0, 1, 0] [] n [(9, vI v9_6), (8, vO h7 v8_6), (7, .val h41 (.ow .sh) (p0.2.getD (p2.toNat) ([], ([], [])))), (3, .val h44 (.ow .sh) p0), (1, vS h7 p1)]
noncomputable def l10 (k : Nat) (p0 : y9) (p1 : (List Int)) (p2 : Int) (n : Nat) (v8_10 : (List Int)) (v10_10 : Int) : Option ((List Int) × Unit) :=
 D.lp (C k) k 10 [1, 1, 1, 1, 1, 0, 1, 0] [] n [(10, vI v10_10), (8, vO h7 v8_10), (7, .val h41 (.ow .sh) (p0.2.getD (p2.toNat) ([], ([], [])))), (3, .val h44 (.ow .sh) p0), (1, vS h7 p1)]
theorem s10 (k : Nat) (p0 : y9) (p1 : (List Int)) (p2 : Int) (n : Nat) (v8_10 : (List Int)) (v10_10 : Int) : l10 k p0 p1 p2 (n + 1) v8_10 v10_10 =
 (if (decide (v10_10 < (((p0.2.getD (p2.toNat) ([], ([], []))).2.1.length : Int)))) = true then
  gd ((0 : Int) ≤ v10_10) <| gd (v10_10 < ((p0.2.getD (p2.toNat) ([], ([], []))).2.1.length : Int)) <| gd ((0 : Int) ≤ v10_10) <| gd (v10_10 < ((p0.2.getD (p2.toNat) ([], ([], []))).2.2.length : Int)) <| (spec_l2Last.f k ((p0.2.getD (p2.toNat) ([], ([], []))).2.2.getD (v10_10.toNat) []) p1).bind fun r2 =>
  gd ((0 : Int) ≤ ((p0.2.getD (p2.toNat) ([], ([], []))).2.1.getD (v10_10.toNat) 0)) <| gd (((p0.2.getD (p2.toNat) ([], ([], []))).2.1.getD (v10_10.toNat) 0) < (v8_10.length : Int)) <| l10 k p0 p1 p2 n (v8_10.set (((p0.2.getD (p2.toNat) ([], ([], []))).2.1.getD (v10_10.toNat) 0).toNat) r2.1) (w64 (v10_10 + 1))
 else
  (spec_l2In.f k p0 v8_10).bind fun r3 =>
  if (!r3.1) = true then
   some ([], ())
  else
   some (v8_10, ())) := by kernel_rfl
theorem s6 (k : Nat) (p0 : y9) (p1 : (List Int)) (p2 : Int) (n : Nat) (v8_6 : (List Int)) (v9_6 : Int) : l6 k p0 p1 p2 (n + 1) v8_6 v9_6 =
 (if (decide (v9_6 < ((p1.length : Int)))) = true then
  gd ((0 : Int) ≤ v9_6) <| gd (v9_6 < (p1.length : Int)) <| gd ((v8_6.length : Int) + ([(p1.getD (v9_6.toNat) 0)].length : Int) ≤ 1099511627776) <| l6 k p0 p1 p2 n (v8_6 ++ [(p1.getD (v9_6.toNat) 0)]) (w64 (v9_6 + 1))
 else
  l10 k p0 p1 p2 k v8_6 0) := by kernel_rfl
theorem s (k : Nat) (p0 : y9) (p1 : (List Int)) (p2 : Int) : f k p0 p1 p2 =
 (gd ((0 : Int) ≤ p2) <| gd (p2 < (p0.2.length : Int)) <| (spec_l2Last.f k (p0.2.getD (p2.toNat) ([], ([], []))).1 p1).bind fun r1 =>
 if (r1.1 == 0) = true then
  some ([], ())
 else
  l6 k p0 p1 p2 k [] 0) := by kernel_rfl
theorem ok (k : Nat) : Ok Tryz.prog 136 (sem k) := Fd.ok (cx_ok ⟨spec_l2Last.ok k, spec_l2In.ok k, trivial⟩) ⟨Tryz.func136, rfl, by kernel_rfl⟩ rfl
attribute [irreducible] f l6 l10
end spec_l2Use
/-! loop.example/wholecheck/spec.l2Less -/
namespace spec_l2Less
noncomputable def D : Fd := ⟨Tryz.f166, 1, .bool, .sh, [.sh, .sh], .unit, h49⟩
noncomputable def C (k : Nat) : Ctx := cx [] [] [(2, [(0, none), (1, none), (5, none)])] [] [(4, [0, 1, 2, 3, 4, 5, 6, 7, 8]), (5, [0, 1, 2, 3, 4, 5, 6, 7, 8, 9])] [] []
noncomputable def sem (k : Nat) : Sem := D.sem (D.ev (C k) k)
noncomputable def f (k : Nat) (p0 p1 : (List Int)) : Option (Bool × Unit) := D.ev (C k) k (p0, p1, ())
noncomputable def l2 (k : Nat) (p0 p1 : (List Int)) (n : Nat) (v5_2 : Int) : Option (Bool × Unit) :=
 D.lp (C k) k 2 [1, 0, 1, 0] [] n [(5, vI v5_2), (1, vS h7 p1), (0, vS h7 p0)]
theorem s2 (k : Nat) (p0 p1 : (List Int)) (n : Nat) (v5_2 : Int) : l2 k p0 p1 (n + 1) v5_2 =
 (if (decide (v5_2 < ((p0.length : Int)))) = true then
  if (decide (v5_2 < ((p1.length : Int)))) = true then
   gd ((0 : Int) ≤ v5_2) <| gd (v5_2 < (p0.length : Int)) <| gd ((0 : Int) ≤ v5_2) <| gd (v5_2 < (p1.length : Int)) <| if ((p0.getD (v5_2.toNat) 0) != (p1.getD (v5_2.toNat) 0)) = true then
    gd ((0 : Int) ≤ v5_2) <| gd (v5_2 < (p0.length : Int)) <| gd ((0 : Int) ≤ v5_2) <| gd (v5_2 < (p1.length : Int)) <| some (decide ((p0.getD (v5_2.toNat) 0) < (p1.getD (v5_2.toNat) 0)), ())
   else
    l2 k p0 p1 n (w64 (v5_2 + 1))
  else
   some (decide (((p0.length : Int)) < ((p1.length : Int))), ())
 else
  some (decide (((p0.length : Int)) < ((p1.length : Int))), ())) := by kernel_rfl
theorem s (k : Nat) (p0 p1 : (List Int)) : f k p0 p1 =
 (l2 k p0 p1 k 0) := by kernel_rfl
theorem ok (k : Nat) : Ok Tryz.prog 166 (sem k) := Fd.ok (cx_ok trivial) ⟨Tryz.func166, rfl, by kernel_rfl⟩ rfl
attribute [irreducible] f l2
end spec_l2Less
/-! loop.example/wholecheck/spec.l2Put -/
namespace spec_l2Put
noncomputable def D : Fd := ⟨Tryz.f137, 1, h51, (.ow .sh), [.sh, .sh], .unit, h72⟩
noncomputable def C (k : Nat) : Ctx := cx [(71, spec_l2Same.sem k), (166, spec_l2Less.sem k)] [] [(4, [(0, none), (1, none), (5, some (h51, (.ow .sh))), (6, none), (7, none)])] [] [] [] [(8, [(0, none), (1, none), (5, none), (6, none), (7, none)])]
noncomputable def sem (k : Nat) : Sem := D.sem (D.ev (C k) k)
noncomputable def f (k : Nat) (p0 : (List (List Int))) (p1 : (List Int)) : Option ((List (List Int)) × Unit) := D.ev (C k) k (p0, p1, ())
noncomputable def l4 (k : Nat) (p0 : (List (List Int))) (p1 : (List Int)) (n : Nat) (v5_4 : (List (List Int))) (v6_4 : Bool) (v7_4 : Int) : Option ((List (List Int)) × Unit) :=
 D.lp (C k) k 4 [1, 1, 1, 0, 1, 0] [] n [(7, vI v7_4), (6, vB v6_4), (5, .val h51 (.ow .sh) v5_4), (1, vS h7 p1), (0, vS h51 p0)]
noncomputable def lj8 (k n4 : Nat) (p0 : (List (List Int))) (p1 : (List Int)) (v5_4 : (List (List Int))) (v7_4 : Int) (n : Nat) (v6_j8 : Bool) : Option ((List (List Int)) × Unit) :=
 D.jn (C k) k 8 [1, 1, 1, 0, 1, 0, 0, 1, 0, 0] [n4] n [(7, vI v7_4), (6, vB v6_j8), (5, .val h51 (.ow .sh) v5_4), (1, vS h7 p1), (0, vS h51 p0)]
theorem sj8 (k n4 : Nat) (p0 : (List (List Int))) (p1 : (List Int)) (v5_4 : (List (List Int))) (v7_4 : Int) (n : Nat) (v6_j8 : Bool) : lj8 k n4 p0 p1 v5_4 v7_4 (n + 1) v6_j8 =
 (if (!v6_j8) = true then
  gd ((0 : Int) ≤ v7_4) <| gd (v7_4 < (p0.length : Int)) <| (spec_l2Less.f k p1 (p0.getD (v7_4.toNat) [])).bind fun r2 =>
  if r2.1 = true then
   gd ((v5_4.length : Int) + ([p1].length : Int) ≤ 1099511627776) <| gd ((0 : Int) ≤ v7_4) <| gd (v7_4 < (p0.length : Int)) <| gd (((v5_4 ++ [p1]).length : Int) + ([(p0.getD (v7_4.toNat) [])].length : Int) ≤ 1099511627776) <| l4 k p0 p1 n4 ((v5_4 ++ [p1]) ++ [(p0.getD (v7_4.toNat) [])]) true (w64 (v7_4 + 1))
  else
   gd ((0 : Int) ≤ v7_4) <| gd (v7_4 < (p0.length : Int)) <| gd ((v5_4.length : Int) + ([(p0.getD (v7_4.toNat) [])].length : Int) ≤ 1099511627776) <| l4 k p0 p1 n4 (v5_4 ++ [(p0.getD (v7_4.toNat) [])]) v6_j8 (w64 (v7_4 + 1))
 else
  gd ((0 : Int) ≤ v7_4) <| gd (v7_4 < (p0.length : Int)) <| gd ((v5_4.length : Int) + ([(p0.getD (v7_4.toNat) [])].length : Int) ≤ 1099511627776) <| l4 k p0 p1 n4 (v5_4 ++ [(p0.getD (v7_4.toNat) [])]) v6_j8 (w64 (v7_4 + 1))) := by kernel_rfl
theorem s4 (k : Nat) (p0 : (List (List Int))) (p1 : (List Int)) (n : Nat) (v5_4 : (List (List Int))) (v6_4 : Bool) (v7_4 : Int) : l4 k p0 p1 (n + 1) v5_4 v6_4 v7_4 =
 (if (decide (v7_4 < ((p0.length : Int)))) = true then
  if (!v6_4) = true then
   gd ((0 : Int) ≤ v7_4) <| gd (v7_4 < (p0.length : Int)) <| (spec_l2Same.f k (p0.getD (v7_4.toNat) []) p1).bind fun r1 =>
   if r1.1 = true then
    lj8 k n p0 p1 v5_4 v7_4 k true
   else
    lj8 k n p0 p1 v5_4 v7_4 k v6_4
  else
   lj8 k n p0 p1 v5_4 v7_4 k v6_4
 else
  if (!v6_4) = true then
   gd ((v5_4.length : Int) + ([p1].length : Int) ≤ 1099511627776) <| some (v5_4 ++ [p1], ())
  else
   some (v5_4, ())) := by kernel_rfl
theorem s (k : Nat) (p0 : (List (List Int))) (p1 : (List Int)) : f k p0 p1 =
 (l4 k p0 p1 k [] false 0) := by kernel_rfl
theorem ok (k : Nat) : Ok Tryz.prog 137 (sem k) := Fd.ok (cx_ok ⟨spec_l2Same.ok k, spec_l2Less.ok k, trivial⟩) ⟨Tryz.func137, rfl, by kernel_rfl⟩ rfl
attribute [irreducible] f l4 lj8
end spec_l2Put
/-! loop.example/wholecheck/spec.l2Next -/
namespace spec_l2Next
noncomputable def D : Fd := ⟨Tryz.f118, 1, h51, (.ow .sh), [.sh, .sh], .unit, h70⟩
noncomputable def C (k : Nat) : Ctx := cx [(136, spec_l2Use.sem k), (137, spec_l2Put.sem k)] [] [(3, [(1, none), (2, none), (5, some (h51, (.ow .sh))), (6, none)])] [] [] [] []
noncomputable def sem (k : Nat) : Sem := D.sem (D.ev (C k) k)
noncomputable def f (k : Nat) (p0 : y9) (p1 : (List Int)) : Option ((List (List Int)) × Unit) := D.ev (C k) k (p0, p1, ())
noncomputable def l3 (k : Nat) (p0 : y9) (p1 : (List Int)) (n : Nat) (v5_3 : (List (List Int))) (v6_3 : Int) : Option ((List (List Int)) × Unit) :=
 D.lp (C k) k 3 [1, 1, 0, 1, 0] [] n [(6, vI v6_3), (5, .val h51 (.ow .sh) v5_3), (2, .val h44 (.ow .sh) p0), (1, vS h7 p1)]
theorem s3 (k : Nat) (p0 : y9) (p1 : (List Int)) (n : Nat) (v5_3 : (List (List Int))) (v6_3 : Int) : l3 k p0 p1 (n + 1) v5_3 v6_3 =
 (if (decide (v6_3 < ((p0.2.length : Int)))) = true then
  (spec_l2Use.f k p0 p1 v6_3).bind fun r1 =>
  if (decide (((r1.1.length : Int)) > 0)) = true then
   (spec_l2Put.f k v5_3 r1.1).bind fun r2 =>
   l3 k p0 p1 n r2.1 (w64 (v6_3 + 1))
  else
   l3 k p0 p1 n v5_3 (w64 (v6_3 + 1))
 else
  some (v5_3, ())) := by kernel_rfl
theorem s (k : Nat) (p0 : y9) (p1 : (List Int)) : f k p0 p1 =
 (l3 k p0 p1 k [] 0) := by kernel_rfl
theorem ok (k : Nat) : Ok Tryz.prog 118 (sem k) := Fd.ok (cx_ok ⟨spec_l2Use.ok k, spec_l2Put.ok k, trivial⟩) ⟨Tryz.func118, rfl, by kernel_rfl⟩ rfl
attribute [irreducible] f l3
end spec_l2Next
/-! loop.example/wholecheck/spec.l4Number -/
namespace spec_l4Number
noncomputable def D : Fd := ⟨Tryz.f90, 1, I, .sh, [.sh, .sh], .unit, h70⟩
noncomputable def C (k : Nat) : Ctx := cx [] [((5, 28), 3)] [(3, [(1, none), (2, none), (5, none), (6, none)])] [] [(5, [0, 1, 2, 3, 4, 5, 6, 7, 8, 9, 10, 11, 12, 13, 14, 15, 16, 17, 18, 19, 20, 21, 22, 23, 24, 25, 26, 27, 28])] [] []
noncomputable def sem (k : Nat) : Sem := D.sem (D.ev (C k) k)
noncomputable def f (k : Nat) (p0 : y9) (p1 : (List Int)) : Option (Int × Unit) := D.ev (C k) k (p0, p1, ())
noncomputable def l3 (k : Nat) (p0 : y9) (p1 : (List Int)) (n : Nat) (v5_3 v6_3 : Int) : Option (Int × Unit) :=
 D.lp (C k) k 3 [1, 1, 0, 1, 0] [] n [(6, vI v6_3), (5, vI v5_3), (2, .val h44 (.ow .sh) p0), (1, vS h7 p1)]
theorem s3 (k : Nat) (p0 : y9) (p1 : (List Int)) (n : Nat) (v5_3 v6_3 : Int) : l3 k p0 p1 (n + 1) v5_3 v6_3 =
 (if (decide (v6_3 < ((p1.length : Int)))) = true then
  gd ((0 : Int) ≤ v6_3) <| gd (v6_3 < (p0.1.length : Int)) <| gd ((0 : Int) ≤ v6_3) <| gd (v6_3 < (p0.1.length : Int)) <| gd ((0 : Int) ≤ v6_3) <| gd (v6_3 < (p1.length : Int)) <| gd ((0 : Int) ≤ v6_3) <| gd (v6_3 < (p0.1.length : Int)) <| l3 k p0 p1 n (w64 ((w64 ((w64 (v5_3 * (w64 ((w64 ((p0.1.getD (v6_3.toNat) (0, (0, 0))).2.1 - (p0.1.getD (v6_3.toNat) (0, (0, 0))).1)) + 1)))) + (p1.getD (v6_3.toNat) 0))) - (p0.1.getD (v6_3.toNat) (0, (0, 0))).1)) (w64 (v6_3 + 1))
 else
  some (v5_3, ())) := by kernel_rfl
theorem s (k : Nat) (p0 : y9) (p1 : (List Int)) : f k p0 p1 =
 (l3 k p0 p1 k 0 0) := by kernel_rfl
theorem ok (k : Nat) : Ok Tryz.prog 90 (sem k) := Fd.ok (cx_ok trivial) ⟨Tryz.func90, rfl, by kernel_rfl⟩ rfl
attribute [irreducible] f l3
end spec_l4Number
/-! loop.example/wholecheck/spec.l4Steps -/
namespace spec_l4Steps
noncomputable def D : Fd := ⟨Tryz.f89, 1, h51, (.ow (.ow .sh)), [.sh], .unit, h48⟩
noncomputable def C (k : Nat) : Ctx := cx [(25, spec_SizeOf.sem k), (119, spec_l4State.sem k), (118, spec_l2Next.sem k), (90, spec_l4Number.sem k)] [((10, 9), 3)] [(3, [(1, none), (3, none), (4, none)]), (8, [(1, none), (3, none), (4, none), (5, none), (6, none), (7, none)])] [] [(5, [0, 1, 2, 3, 4, 5]), (10, [0, 1, 2, 3, 4, 5, 6, 7, 8, 9])] [((5, 3), [1])] []
noncomputable def sem (k : Nat) : Sem := D.sem (D.ev (C k) k)
noncomputable def f (k : Nat) (p0 : y9) : Option ((List (List Int)) × Unit) := D.ev (C k) k (p0, ())
noncomputable def l3 (k : Nat) (p0 : y9) (n : Nat) (v3_3 : (List (List Int))) (v4_3 : Int) : Option ((List (List Int)) × Unit) :=
 D.lp (C k) k 3 [1, 1, 0, 1, 0] [] n [(4, vI v4_3), (3, vO h51 v3_3), (1, .val h44 (.ow .sh) p0)]
noncomputable def l8 (k n3 : Nat) (p0 : y9) (v3_3 : (List (List Int))) (v4_3 : Int) (n : Nat) (v5_8 : (List (List Int))) (v6_8 : (List Int)) (v7_8 : Int) : Option ((List (List Int)) × Unit) :=
 D.lp (C k) k 8 [1, 1, 0, 1, 0, 0, 1, 0, 0, 1, 1, 0, 1, 0] [n3] n [(7, vI v7_8), (6, vO h7 v6_8), (5, .val h51 (.ow .sh) v5_8), (4, vI v4_3), (3, vO h51 v3_3), (1, .val h44 (.ow .sh) p0)]
theorem s8 (k n3 : Nat) (p0 : y9) (v3_3 : (List (List Int))) (v4_3 : Int) (n : Nat) (v5_8 : (List (List Int))) (v6_8 : (List Int)) (v7_8 : Int) : l8 k n3 p0 v3_3 v4_3 (n + 1) v5_8 v6_8 v7_8 =
 (if (decide (v7_8 < ((v5_8.length : Int)))) = true then
  gd ((0 : Int) ≤ v7_8) <| gd (v7_8 < (v5_8.length : Int)) <| (spec_l4Number.f k p0 (v5_8.getD (v7_8.toNat) [])).bind fun r4 =>
  gd ((v6_8.length : Int) + ([r4.1].length : Int) ≤ 1099511627776) <| l8 k n3 p0 v3_3 v4_3 n v5_8 (v6_8 ++ [r4.1]) (w64 (v7_8 + 1))
 else
  gd ((v3_3.length : Int) + ([v6_8].length : Int) ≤ 1099511627776) <| l3 k p0 n3 (v3_3 ++ [v6_8]) (w64 (v4_3 + 1))) := by kernel_rfl
theorem s3 (k : Nat) (p0 : y9) (n : Nat) (v3_3 : (List (List Int))) (v4_3 : Int) : l3 k p0 (n + 1) v3_3 v4_3 =
 ((spec_SizeOf.f k p0).bind fun r1 =>
 if (decide (v4_3 < r1.1)) = true then
  (spec_l4State.f k p0 v4_3).bind fun r2 =>
  (spec_l2Next.f k p0 r2.1).bind fun r3 =>
  l8 k n p0 v3_3 v4_3 k r3.1 [] 0
 else
  some (v3_3, ())) := by kernel_rfl
theorem s (k : Nat) (p0 : y9) : f k p0 =
 (l3 k p0 k [] 0) := by kernel_rfl
theorem ok (k : Nat) : Ok Tryz.prog 89 (sem k) := Fd.ok (cx_ok ⟨spec_SizeOf.ok k, spec_l4State.ok k, spec_l2Next.ok k, spec_l4Number.ok k, trivial⟩) ⟨Tryz.func89, rfl, by kernel_rfl⟩ rfl
attribute [irreducible] f l3 l8
end spec_l4Steps
/-! loop.example/wholecheck/spec.l4List -/
namespace spec_l4List
noncomputable def D : Fd := ⟨Tryz.f94, 1, h7, (.ow .sh), [.sh], .unit, h73⟩
noncomputable def C (k : Nat) : Ctx := cx [] [] [(3, [(0, none), (3, none), (4, none)])] [] [] [] []
noncomputable def sem (k : Nat) : Sem := D.sem (D.ev (C k) k)
noncomputable def f (k : Nat) (p0 : (List Bool)) : Option ((List Int) × Unit) := D.ev (C k) k (p0, ())
noncomputable def l3 (k : Nat) (p0 : (List Bool)) (n : Nat) (v3_3 : (List Int)) (v4_3 : Int) : Option ((List Int) × Unit) :=
 D.lp (C k) k 3 [1, 1, 0, 1, 0] [] n [(4, vI v4_3), (3, vO h7 v3_3), (0, vS h69 p0)]
theorem s3 (k : Nat) (p0 : (List Bool)) (n : Nat) (v3_3 : (List Int)) (v4_3 : Int) : l3 k p0 (n + 1) v3_3 v4_3 =
 (if (decide (v4_3 < ((p0.length : Int)))) = true then
  gd ((0 : Int) ≤ v4_3) <| gd (v4_3 < (p0.length : Int)) <| if (p0.getD (v4_3.toNat) false) = true then
   gd ((v3_3.length : Int) + ([v4_3].length : Int) ≤ 1099511627776) <| l3 k p0 n (v3_3 ++ [v4_3]) (w64 (v4_3 + 1))
  else
   l3 k p0 n v3_3 (w64 (v4_3 + 1))
 else
  some (v3_3, ())) := by kernel_rfl
theorem s (k : Nat) (p0 : (List Bool)) : f k p0 =
 (l3 k p0 k [] 0) := by kernel_rfl
theorem ok (k : Nat) : Ok Tryz.prog 94 (sem k) := Fd.ok (cx_ok trivial) ⟨Tryz.func94, rfl, by kernel_rfl⟩ rfl
attribute [irreducible] f l3
end spec_l4List
/-! loop.example/wholecheck/spec.l17Ordered -/
namespace spec_l17Ordered
noncomputable def D : Fd := ⟨Tryz.f101, 1, h7, (.ow .sh), [.sh], .unit, h8⟩
noncomputable def C (k : Nat) : Ctx := cx [(94, spec_l4List.sem k)] [] [(3, [(0, none), (3, none), (4, none)])] [] [] [] []
noncomputable def sem (k : Nat) : Sem := D.sem (D.ev (C k) k)
noncomputable def f (k : Nat) (p0 : (List Int)) : Option ((List Int) × Unit) := D.ev (C k) k (p0, ())
noncomputable def l3 (k : Nat) (p0 : (List Int)) (n : Nat) (v3_3 : (List Bool)) (v4_3 : Int) : Option ((List Int) × Unit) :=
 D.lp (C k) k 3 [1, 1, 0, 1, 0] [] n [(4, vI v4_3), (3, vO h69 v3_3), (0, vS h7 p0)]
theorem s3 (k : Nat) (p0 : (List Int)) (n : Nat) (v3_3 : (List Bool)) (v4_3 : Int) : l3 k p0 (n + 1) v3_3 v4_3 =
 (if (decide (v4_3 < ((p0.length : Int)))) = true then
  gd ((0 : Int) ≤ v4_3) <| gd (v4_3 < (p0.length : Int)) <| gd ((0 : Int) ≤ (p0.getD (v4_3.toNat) 0)) <| gd ((p0.getD (v4_3.toNat) 0) < (v3_3.length : Int)) <| l3 k p0 n (v3_3.set ((p0.getD (v4_3.toNat) 0).toNat) true) (w64 (v4_3 + 1))
 else
  (spec_l4List.f k v3_3).bind fun r1 =>
  some (r1.1, ())) := by kernel_rfl
theorem s (k : Nat) (p0 : (List Int)) : f k p0 =
 (gd ((0 : Int) ≤ 400) <| gd ((400 : Int) ≤ 400) <| gd ((400 : Int) ≤ 1099511627776) <| l3 k p0 k ((List.replicate ((400 : Int)).toNat false : (List Bool))) 0) := by kernel_rfl
theorem ok (k : Nat) : Ok Tryz.prog 101 (sem k) := Fd.ok (cx_ok ⟨spec_l4List.ok k, trivial⟩) ⟨Tryz.func101, rfl, by kernel_rfl⟩ rfl
attribute [irreducible] f l3
end spec_l17Ordered
/-! loop.example/wholecheck/spec.l28Steps -/
namespace spec_l28Steps
noncomputable def D : Fd := ⟨Tryz.f57, 1, h51, (.ow (.ow .sh)), [.sh, .sh], .unit, h66⟩
noncomputable def C (k : Nat) : Ctx := cx [(89, spec_l4Steps.sem k), (101, spec_l17Ordered.sem k)] [((13, 14), 3)] [(4, [(3, none), (5, none), (6, none), (7, none)]), (8, [(3, none), (5, none), (6, none), (7, none), (8, none), (9, none)]), (11, [(3, none), (5, none), (6, none), (7, none), (8, none), (9, none), (10, none)])] [] [(13, [0, 1, 2, 3, 4, 5, 6, 7, 8, 9, 10, 11, 12, 13, 14])] [] []
noncomputable def sem (k : Nat) : Sem := D.sem (D.ev (C k) k)
noncomputable def f (k : Nat) (p0 : y9) (p1 : (List Int)) : Option ((List (List Int)) × Unit) := D.ev (C k) k (p0, p1, ())
noncomputable def l4 (k : Nat) (p1 : (List Int)) (n : Nat) (v5_4 v6_4 : (List (List Int))) (v7_4 : Int) : Option ((List (List Int)) × Unit) :=
 D.lp (C k) k 4 [1, 1, 1, 0, 1, 0] [] n [(7, vI v7_4), (6, vO h51 v6_4), (5, vO h51 v5_4), (3, .val h53 (.ow .sh) p1)]
noncomputable def l8 (k n4 : Nat) (p1 : (List Int)) (v5_4 v6_4 : (List (List Int))) (v7_4 : Int) (n : Nat) (v8_8 : (List Int)) (v9_8 : Int) : Option ((List (List Int)) × Unit) :=
 D.lp (C k) k 8 [1, 1, 1, 0, 1, 0, 0, 1, 0, 0, 1, 0, 1, 0] [n4] n [(9, vI v9_8), (8, vO h7 v8_8), (7, vI v7_4), (6, vO h51 v6_4), (5, vO h51 v5_4), (3, .val h53 (.ow .sh) p1)]
noncomputable def l11 (k n4 n8 : Nat) (p1 : (List Int)) (v5_4 v6_4 : (List (List Int))) (v7_4 v9_8 : Int) (n : Nat) (v8_11 : (List Int)) (v10_11 : Int) : Option ((List (List Int)) × Unit) :=
 D.lp (C k) k 11 [1, 1, 1, 0, 1, 0, 0, 1, 0, 0, 1, 0, 1, 0, 0, 1, 0, 0, 1, 0] [n4, n8] n [(10, vI v10_11), (9, vI v9_8), (8, vO h7 v8_11), (7, vI v7_4), (6, vO h51 v6_4), (5, vO h51 v5_4), (3, .val h53 (.ow .sh) p1)]
theorem s11 (k n4 n8 : Nat) (p1 : (List Int)) (v5_4 v6_4 : (List (List Int))) (v7_4 v9_8 : Int) (n : Nat) (v8_11 : (List Int)) (v10_11 : Int) : l11 k n4 n8 p1 v5_4 v6_4 v7_4 v9_8 (n + 1) v8_11 v10_11 =
 (gd ((0 : Int) ≤ v9_8) <| gd (v9_8 < (v5_4.length : Int)) <| if (decide (v10_11 < (((v5_4.getD (v9_8.toNat) []).length : Int)))) = true then
  gd ((0 : Int) ≤ v9_8) <| gd (v9_8 < (p1.length : Int)) <| if ((p1.getD (v9_8.toNat) 0) == v7_4) = true then
   gd ((0 : Int) ≤ v9_8) <| gd (v9_8 < (v5_4.length : Int)) <| gd ((0 : Int) ≤ v10_11) <| gd (v10_11 < ((v5_4.getD (v9_8.toNat) []).length : Int)) <| gd ((0 : Int) ≤ ((v5_4.getD (v9_8.toNat) []).getD (v10_11.toNat) 0)) <| gd (((v5_4.getD (v9_8.toNat) []).getD (v10_11.toNat) 0) < (p1.length : Int)) <| gd ((v8_11.length : Int) + ([(p1.getD (((v5_4.getD (v9_8.toNat) []).getD (v10_11.toNat) 0).toNat) 0)].length : Int) ≤ 1099511627776) <| l11 k n4 n8 p1 v5_4 v6_4 v7_4 v9_8 n (v8_11 ++ [(p1.getD (((v5_4.getD (v9_8.toNat) []).getD (v10_11.toNat) 0).toNat) 0)]) (w64 (v10_11 + 1))
  else
   l8 k n4 p1 v5_4 v6_4 v7_4 n8 v8_11 (w64 (v9_8 + 1))
 else
  l8 k n4 p1 v5_4 v6_4 v7_4 n8 v8_11 (w64 (v9_8 + 1))) := by kernel_rfl
theorem s8 (k n4 : Nat) (p1 : (List Int)) (v5_4 v6_4 : (List (List Int))) (v7_4 : Int) (n : Nat) (v8_8 : (List Int)) (v9_8 : Int) : l8 k n4 p1 v5_4 v6_4 v7_4 (n + 1) v8_8 v9_8 =
 (if (decide (v9_8 < ((v5_4.length : Int)))) = true then
  l11 k n4 n p1 v5_4 v6_4 v7_4 v9_8 k v8_8 0
 else
  (spec_l17Ordered.f k v8_8).bind fun r2 =>
  gd ((v6_4.length : Int) + ([r2.1].length : Int) ≤ 1099511627776) <| l4 k p1 n4 v5_4 (v6_4 ++ [r2.1]) (w64 (v7_4 + 1))) := by kernel_rfl
theorem s4 (k : Nat) (p1 : (List Int)) (n : Nat) (v5_4 v6_4 : (List (List Int))) (v7_4 : Int) : l4 k p1 (n + 1) v5_4 v6_4 v7_4 =
 (if (decide (v7_4 < ((v5_4.length : Int)))) = true then
  l8 k n p1 v5_4 v6_4 v7_4 k [] v7_4
 else
  some (v6_4, ())) := by kernel_rfl
theorem s (k : Nat) (p0 : y9) (p1 : (List Int)) : f k p0 p1 =
 ((spec_l4Steps.f k p0).bind fun r1 =>
 l4 k p1 k r1.1 [] 0) := by kernel_rfl
theorem ok (k : Nat) : Ok Tryz.prog 57 (sem k) := Fd.ok (cx_ok ⟨spec_l4Steps.ok k, spec_l17Ordered.ok k, trivial⟩) ⟨Tryz.func57, rfl, by kernel_rfl⟩ rfl
attribute [irreducible] f l4 l8 l11
end spec_l28Steps
/-! loop.example/wholecheck/spec.l28First -/
namespace spec_l28First
noncomputable def D : Fd := ⟨Tryz.f62, 1, h69, (.ow .sh), [.sh, .sh], .unit, h66⟩
noncomputable def C (k : Nat) : Ctx := cx [(91, spec_FirstState.sem k), (90, spec_l4Number.sem k), (96, spec_l4Marks.sem k)] [] [] [] [(1, [0, 1, 2, 3, 9, 10, 11, 4, 5, 6, 7, 8, 12, 13])] [((1, 4), [2, 3]), ((1, 5), [3]), ((1, 8), [3])] []
noncomputable def sem (k : Nat) : Sem := D.sem (D.ev (C k) k)
noncomputable def f (k : Nat) (p0 : y9) (p1 : (List Int)) : Option ((List Bool) × Unit) := D.ev (C k) k (p0, p1, ())
theorem s (k : Nat) (p0 : y9) (p1 : (List Int)) : f k p0 p1 =
 ((spec_FirstState.f k p0).bind fun r1 =>
 (spec_l4Number.f k p0 r1.1).bind fun r2 =>
 gd ((0 : Int) ≤ r2.1) <| gd (r2.1 < (p1.length : Int)) <| (spec_l4Marks.f k [(p1.getD (r2.1.toNat) 0)] ((p1.length : Int))).bind fun r3 =>
 some (r3.1, ())) := by kernel_rfl
theorem ok (k : Nat) : Ok Tryz.prog 62 (sem k) := Fd.ok (cx_ok ⟨spec_FirstState.ok k, spec_l4Number.ok k, spec_l4Marks.ok k, trivial⟩) ⟨Tryz.func62, rfl, by kernel_rfl⟩ rfl
attribute [irreducible] f
end spec_l28First
/-! loop.example/wholecheck/spec.l5Steps -/
namespace spec_l5Steps
noncomputable def D : Fd := ⟨Tryz.f61, 1, h7, (.ow .sh), [.sh, .sh], .unit, h74⟩
noncomputable def C (k : Nat) : Ctx := cx [] [] [(3, [(0, none), (1, none), (5, none), (6, none)]), (10, [(0, none), (5, none), (7, none), (8, none)]), (14, [(0, none), (5, none), (7, none), (8, none), (9, none)]), (17, [(0, none), (5, none), (7, none), (8, none), (9, none), (10, none)])] [] [] [] []
noncomputable def sem (k : Nat) : Sem := D.sem (D.ev (C k) k)
noncomputable def f (k : Nat) (p0 : (List (List Int))) (p1 : (List Bool)) : Option ((List Int) × Unit) := D.ev (C k) k (p0, p1, ())
noncomputable def l3 (k : Nat) (p0 : (List (List Int))) (p1 : (List Bool)) (n : Nat) (v5_3 : (List Int)) (v6_3 : Int) : Option ((List Int) × Unit) :=
 D.lp (C k) k 3 [1, 1, 0, 1, 0] [] n [(6, vI v6_3), (5, vO h7 v5_3), (1, vS h69 p1), (0, vS h51 p0)]
noncomputable def l10 (k : Nat) (p0 : (List (List Int))) (n : Nat) (v5_10 : (List Int)) (v7_10 : Bool) (v8_10 : Int) : Option ((List Int) × Unit) :=
 D.lp (C k) k 10 [1, 1, 1, 1, 0, 1, 0] [] n [(8, vI v8_10), (7, vB v7_10), (5, vO h7 v5_10), (0, vS h51 p0)]
noncomputable def l14 (k n10 : Nat) (p0 : (List (List Int))) (v8_10 : Int) (n : Nat) (v5_14 : (List Int)) (v7_14 : Bool) (v9_14 : Int) : Option ((List Int) × Unit) :=
 D.lp (C k) k 14 [1, 1, 1, 1, 0, 1, 0, 0, 1, 0, 0, 1, 1, 0] [n10] n [(9, vI v9_14), (8, vI v8_10), (7, vB v7_14), (5, vO h7 v5_14), (0, vS h51 p0)]
noncomputable def l17 (k n10 n14 : Nat) (p0 : (List (List Int))) (v8_10 v9_14 : Int) (n : Nat) (v5_17 : (List Int)) (v7_17 : Bool) (v10_17 : Int) : Option ((List Int) × Unit) :=
 D.lp (C k) k 17 [1, 1, 1, 1, 0, 1, 0, 0, 1, 0, 0, 1, 1, 0, 0, 1, 0, 0, 1, 0] [n10, n14] n [(10, vI v10_17), (9, vI v9_14), (8, vI v8_10), (7, vB v7_17), (5, vO h7 v5_17), (0, vS h51 p0)]
theorem s17 (k n10 n14 : Nat) (p0 : (List (List Int))) (v8_10 v9_14 : Int) (n : Nat) (v5_17 : (List Int)) (v7_17 : Bool) (v10_17 : Int) : l17 k n10 n14 p0 v8_10 v9_14 (n + 1) v5_17 v7_17 v10_17 =
 (gd ((0 : Int) ≤ v9_14) <| gd (v9_14 < (p0.length : Int)) <| if (decide (v10_17 < (((p0.getD (v9_14.toNat) []).length : Int)))) = true then
  gd ((0 : Int) ≤ v9_14) <| gd (v9_14 < (v5_17.length : Int)) <| if ((v5_17.getD (v9_14.toNat) 0) == v8_10) = true then
   gd ((0 : Int) ≤ v9_14) <| gd (v9_14 < (p0.length : Int)) <| gd ((0 : Int) ≤ v10_17) <| gd (v10_17 < ((p0.getD (v9_14.toNat) []).length : Int)) <| gd ((0 : Int) ≤ ((p0.getD (v9_14.toNat) []).getD (v10_17.toNat) 0)) <| gd (((p0.getD (v9_14.toNat) []).getD (v10_17.toNat) 0) < (v5_17.length : Int)) <| if (decide ((v5_17.getD (((p0.getD (v9_14.toNat) []).getD (v10_17.toNat) 0).toNat) 0) < 0)) = true then
    gd ((0 : Int) ≤ v9_14) <| gd (v9_14 < (p0.length : Int)) <| gd ((0 : Int) ≤ v10_17) <| gd (v10_17 < ((p0.getD (v9_14.toNat) []).length : Int)) <| gd ((0 : Int) ≤ ((p0.getD (v9_14.toNat) []).getD (v10_17.toNat) 0)) <| gd (((p0.getD (v9_14.toNat) []).getD (v10_17.toNat) 0) < (v5_17.length : Int)) <| l17 k n10 n14 p0 v8_10 v9_14 n (v5_17.set (((p0.getD (v9_14.toNat) []).getD (v10_17.toNat) 0).toNat) (w64 (v8_10 + 1))) true (w64 (v10_17 + 1))
   else
    l17 k n10 n14 p0 v8_10 v9_14 n v5_17 v7_17 (w64 (v10_17 + 1))
  else
   l14 k n10 p0 v8_10 n14 v5_17 v7_17 (w64 (v9_14 + 1))
 else
  l14 k n10 p0 v8_10 n14 v5_17 v7_17 (w64 (v9_14 + 1))) := by kernel_rfl
theorem s14 (k n10 : Nat) (p0 : (List (List Int))) (v8_10 : Int) (n : Nat) (v5_14 : (List Int)) (v7_14 : Bool) (v9_14 : Int) : l14 k n10 p0 v8_10 (n + 1) v5_14 v7_14 v9_14 =
 (if (decide (v9_14 < ((p0.length : Int)))) = true then
  l17 k n10 n p0 v8_10 v9_14 k v5_14 v7_14 0
 else
  l10 k p0 n10 v5_14 v7_14 (w64 (v8_10 + 1))) := by kernel_rfl
theorem s10 (k : Nat) (p0 : (List (List Int))) (n : Nat) (v5_10 : (List Int)) (v7_10 : Bool) (v8_10 : Int) : l10 k p0 (n + 1) v5_10 v7_10 v8_10 =
 (if v7_10 = true then
  l14 k n p0 v8_10 k v5_10 false 0
 else
  some (v5_10, ())) := by kernel_rfl
theorem s3 (k : Nat) (p0 : (List (List Int))) (p1 : (List Bool)) (n : Nat) (v5_3 : (List Int)) (v6_3 : Int) : l3 k p0 p1 (n + 1) v5_3 v6_3 =
 (if (decide (v6_3 < ((p0.length : Int)))) = true then
  gd ((0 : Int) ≤ v6_3) <| gd (v6_3 < (p1.length : Int)) <| if (p1.getD (v6_3.toNat) false) = true then
   gd ((v5_3.length : Int) + ([0].length : Int) ≤ 1099511627776) <| l3 k p0 p1 n (v5_3 ++ [0]) (w64 (v6_3 + 1))
  else
   gd ((v5_3.length : Int) + ([(-1)].length : Int) ≤ 1099511627776) <| l3 k p0 p1 n (v5_3 ++ [(-1)]) (w64 (v6_3 + 1))
 else
  l10 k p0 k v5_3 true 0) := by kernel_rfl
theorem s (k : Nat) (p0 : (List (List Int))) (p1 : (List Bool)) : f k p0 p1 =
 (l3 k p0 p1 k [] 0) := by kernel_rfl
theorem ok (k : Nat) : Ok Tryz.prog 61 (sem k) := Fd.ok (cx_ok trivial) ⟨Tryz.func61, rfl, by kernel_rfl⟩ rfl
attribute [irreducible] f l3 l10 l14 l17
end spec_l5Steps
/-! loop.example/wholecheck/spec.l5Nearest -/
namespace spec_l5Nearest
noncomputable def D : Fd := ⟨Tryz.f114, 1, I, .sh, [.sh, .sh], .unit, h75⟩
noncomputable def C (k : Nat) : Ctx := cx [] [] [(3, [(0, none), (1, none), (5, none), (6, none)])] [] [(5, [0, 1, 2, 3, 4, 5, 6, 7, 8, 9, 10, 11, 12, 13, 14, 15, 16, 17, 18, 19, 20, 21, 22, 23, 24, 25])] [] []
noncomputable def sem (k : Nat) : Sem := D.sem (D.ev (C k) k)
noncomputable def f (k : Nat) (p0 : (List Int)) (p1 : (List Bool)) : Option (Int × Unit) := D.ev (C k) k (p0, p1, ())
noncomputable def l3 (k : Nat) (p0 : (List Int)) (p1 : (List Bool)) (n : Nat) (v5_3 v6_3 : Int) : Option (Int × Unit) :=
 D.lp (C k) k 3 [1, 1, 0, 1, 0] [] n [(6, vI v6_3), (5, vI v5_3), (1, vS h69 p1), (0, vS h7 p0)]
theorem s3 (k : Nat) (p0 : (List Int)) (p1 : (List Bool)) (n : Nat) (v5_3 v6_3 : Int) : l3 k p0 p1 (n + 1) v5_3 v6_3 =
 (if (decide (v6_3 < ((p0.length : Int)))) = true then
  gd ((0 : Int) ≤ v6_3) <| gd (v6_3 < (p1.length : Int)) <| if (p1.getD (v6_3.toNat) false) = true then
   gd ((0 : Int) ≤ v6_3) <| gd (v6_3 < (p0.length : Int)) <| if (decide ((p0.getD (v6_3.toNat) 0) ≥ 0)) = true then
    if (decide (v5_3 < 0)) = true then
     l3 k p0 p1 n v6_3 (w64 (v6_3 + 1))
    else
     gd ((0 : Int) ≤ v6_3) <| gd (v6_3 < (p0.length : Int)) <| gd ((0 : Int) ≤ v5_3) <| gd (v5_3 < (p0.length : Int)) <| if (decide ((p0.getD (v6_3.toNat) 0) < (p0.getD (v5_3.toNat) 0))) = true then
      l3 k p0 p1 n v6_3 (w64 (v6_3 + 1))
     else
      l3 k p0 p1 n v5_3 (w64 (v6_3 + 1))
   else
    l3 k p0 p1 n v5_3 (w64 (v6_3 + 1))
  else
   l3 k p0 p1 n v5_3 (w64 (v6_3 + 1))
 else
  some (v5_3, ())) := by kernel_rfl
theorem s (k : Nat) (p0 : (List Int)) (p1 : (List Bool)) : f k p0 p1 =
 (l3 k p0 p1 k (-1) 0) := by kernel_rfl
theorem ok (k : Nat) : Ok Tryz.prog 114 (sem k) := Fd.ok (cx_ok trivial) ⟨Tryz.func114, rfl, by kernel_rfl⟩ rfl
attribute [irreducible] f l3
end spec_l5Nearest
/-! loop.example/wholecheck/spec.l2Has -/
namespace spec_l2Has
noncomputable def D : Fd := ⟨Tryz.f35, 1, .bool, .sh, [.sh, .sh], .unit, h19⟩
noncomputable def C (k : Nat) : Ctx := cx [] [] [(2, [(0, none), (1, none), (5, none)])] [] [] [] []
noncomputable def sem (k : Nat) : Sem := D.sem (D.ev (C k) k)
noncomputable def f (k : Nat) (p0 : (List Int)) (p1 : Int) : Option (Bool × Unit) := D.ev (C k) k (p0, p1, ())
noncomputable def l2 (k : Nat) (p0 : (List Int)) (p1 : Int) (n : Nat) (v5_2 : Int) : Option (Bool × Unit) :=
 D.lp (C k) k 2 [1, 0, 1, 0] [] n [(5, vI v5_2), (1, vI p1), (0, vS h7 p0)]
theorem s2 (k : Nat) (p0 : (List Int)) (p1 : Int) (n : Nat) (v5_2 : Int) : l2 k p0 p1 (n + 1) v5_2 =
 (if (decide (v5_2 < ((p0.length : Int)))) = true then
  gd ((0 : Int) ≤ v5_2) <| gd (v5_2 < (p0.length : Int)) <| if ((p0.getD (v5_2.toNat) 0) == p1) = true then
   some (true, ())
  else
   l2 k p0 p1 n (w64 (v5_2 + 1))
 else
  some (false, ())) := by kernel_rfl
theorem s (k : Nat) (p0 : (List Int)) (p1 : Int) : f k p0 p1 =
 (l2 k p0 p1 k 0) := by kernel_rfl
theorem ok (k : Nat) : Ok Tryz.prog 35 (sem k) := Fd.ok (cx_ok trivial) ⟨Tryz.func35, rfl, by kernel_rfl⟩ rfl
attribute [irreducible] f l2
end spec_l2Has
/-! loop.example/wholecheck/spec.l5Back -/
namespace spec_l5Back
noncomputable def D : Fd := ⟨Tryz.f115, 1, I, .sh, [.sh, .sh, .sh], .unit, h76⟩
noncomputable def C (k : Nat) : Ctx := cx [(35, spec_l2Has.sem k)] [] [(2, [(0, none), (1, none), (2, none), (7, none)])] [] [(4, [0, 1, 2, 3, 4, 5, 6, 7, 8, 9, 10, 11, 12, 13, 14, 15, 16, 17])] [] []
noncomputable def sem (k : Nat) : Sem := D.sem (D.ev (C k) k)
noncomputable def f (k : Nat) (p0 : (List (List Int))) (p1 : (List Int)) (p2 : Int) : Option (Int × Unit) := D.ev (C k) k (p0, p1, p2, ())
noncomputable def l2 (k : Nat) (p0 : (List (List Int))) (p1 : (List Int)) (p2 : Int) (n : Nat) (v7_2 : Int) : Option (Int × Unit) :=
 D.lp (C k) k 2 [1, 0, 1, 0] [] n [(7, vI v7_2), (2, vI p2), (1, vS h7 p1), (0, vS h51 p0)]
theorem s2 (k : Nat) (p0 : (List (List Int))) (p1 : (List Int)) (p2 : Int) (n : Nat) (v7_2 : Int) : l2 k p0 p1 p2 (n + 1) v7_2 =
 (if (decide (v7_2 < ((p0.length : Int)))) = true then
  gd ((0 : Int) ≤ v7_2) <| gd (v7_2 < (p1.length : Int)) <| gd ((0 : Int) ≤ p2) <| gd (p2 < (p1.length : Int)) <| if ((p1.getD (v7_2.toNat) 0) == (w64 ((p1.getD (p2.toNat) 0) - 1))) = true then
   gd ((0 : Int) ≤ v7_2) <| gd (v7_2 < (p0.length : Int)) <| (spec_l2Has.f k (p0.getD (v7_2.toNat) []) p2).bind fun r1 =>
   if r1.1 = true then
    some (v7_2, ())
   else
    l2 k p0 p1 p2 n (w64 (v7_2 + 1))
  else
   l2 k p0 p1 p2 n (w64 (v7_2 + 1))
 else
  some ((-1), ())) := by kernel_rfl
theorem s (k : Nat) (p0 : (List (List Int))) (p1 : (List Int)) (p2 : Int) : f k p0 p1 p2 =
 (l2 k p0 p1 p2 k 0) := by kernel_rfl
theorem ok (k : Nat) : Ok Tryz.prog 115 (sem k) := Fd.ok (cx_ok ⟨spec_l2Has.ok k, trivial⟩) ⟨Tryz.func115, rfl, by kernel_rfl⟩ rfl
attribute [irreducible] f l2
end spec_l5Back
/-! loop.example/wholecheck/spec.l22Turned -/
namespace spec_l22Turned
noncomputable def D : Fd := ⟨Tryz.f116, 1, h7, (.ow .sh), [.sh], .unit, h8⟩
noncomputable def C (k : Nat) : Ctx := cx [] [] [(3, [(0, none), (3, none), (4, none)])] [] [] [] []
noncomputable def sem (k : Nat) : Sem := D.sem (D.ev (C k) k)
noncomputable def f (k : Nat) (p0 : (List Int)) : Option ((List Int) × Unit) := D.ev (C k) k (p0, ())
noncomputable def l3 (k : Nat) (p0 : (List Int)) (n : Nat) (v3_3 : (List Int)) (v4_3 : Int) : Option ((List Int) × Unit) :=
 D.lp (C k) k 3 [1, 1, 0, 1, 0] [] n [(4, vI v4_3), (3, vO h7 v3_3), (0, vS h7 p0)]
theorem s3 (k : Nat) (p0 : (List Int)) (n : Nat) (v3_3 : (List Int)) (v4_3 : Int) : l3 k p0 (n + 1) v3_3 v4_3 =
 (if (decide (v4_3 ≥ 0)) = true then
  gd ((0 : Int) ≤ v4_3) <| gd (v4_3 < (p0.length : Int)) <| gd ((v3_3.length : Int) + ([(p0.getD (v4_3.toNat) 0)].length : Int) ≤ 1099511627776) <| l3 k p0 n (v3_3 ++ [(p0.getD (v4_3.toNat) 0)]) (w64 (v4_3 - 1))
 else
  some (v3_3, ())) := by kernel_rfl
theorem s (k : Nat) (p0 : (List Int)) : f k p0 =
 (l3 k p0 k [] (w64 (((p0.length : Int)) - 1))) := by kernel_rfl
theorem ok (k : Nat) : Ok Tryz.prog 116 (sem k) := Fd.ok (cx_ok trivial) ⟨Tryz.func116, rfl, by kernel_rfl⟩ rfl
attribute [irreducible] f l3
end spec_l22Turned
/-! loop.example/wholecheck/spec.BlockWay -/
namespace spec_BlockWay
noncomputable def D : Fd := ⟨Tryz.f83, 2, h77, (.pr (.ow .sh) .sh), [.sh, .sh, .sh], .unit, h79⟩
noncomputable def C (k : Nat) : Ctx := cx [(12, spec_BlocksValid.sem k), (112, spec_l2Is.sem k), (113, spec_l15Good.sem k), (57, spec_l28Steps.sem k), (62, spec_l28First.sem k), (61, spec_l5Steps.sem k), (114, spec_l5Nearest.sem k), (115, spec_l5Back.sem k), (116, spec_l22Turned.sem k)] [] [(6, [(3, none), (4, none), (8, none), (9, none), (10, none)]), (16, [(11, none), (12, none), (14, none)])] [] [] [] []
noncomputable def sem (k : Nat) : Sem := D.sem (D.ev (C k) k)
noncomputable def f (k : Nat) (p0 : y9) (p1 : (List Int)) (p2 : y1) : Option (((List Int) × Bool) × Unit) := D.ev (C k) k (p0, p1, p2, ())
noncomputable def l6 (k : Nat) (p0 : y9) (p1 : (List Int)) (n : Nat) (v8_6 v9_6 : (List Bool)) (v10_6 : Int) : Option (((List Int) × Bool) × Unit) :=
 D.lp (C k) k 6 [1, 1, 1, 1, 0, 1, 0] [] n [(10, vI v10_6), (9, vO h69 v9_6), (8, vO h69 v8_6), (4, .val h53 (.ow .sh) p1), (3, .val h44 (.ow .sh) p0)]
noncomputable def l16 (k : Nat) (n : Nat) (v11_16 : (List (List Int))) (v12_16 v14_16 : (List Int)) : Option (((List Int) × Bool) × Unit) :=
 D.lp (C k) k 16 [1, 1, 1, 1, 1, 1, 1, 1, 1, 1, 0, 0] [] n [(14, vO h7 v14_16), (12, vO h7 v12_16), (11, vO h51 v11_16)]
theorem s16 (k : Nat) (n : Nat) (v11_16 : (List (List Int))) (v12_16 v14_16 : (List Int)) : l16 k (n + 1) v11_16 v12_16 v14_16 =
 (gd ((0 : Int) ≤ (w64 (((v14_16.length : Int)) - 1))) <| gd ((w64 (((v14_16.length : Int)) - 1)) < (v14_16.length : Int)) <| gd ((0 : Int) ≤ (v14_16.getD ((w64 (((v14_16.length : Int)) - 1)).toNat) 0)) <| gd ((v14_16.getD ((w64 (((v14_16.length : Int)) - 1)).toNat) 0) < (v12_16.length : Int)) <| if (decide ((v12_16.getD ((v14_16.getD ((w64 (((v14_16.length : Int)) - 1)).toNat) 0).toNat) 0) > 0)) = true then
  gd ((0 : Int) ≤ (w64 (((v14_16.length : Int)) - 1))) <| gd ((w64 (((v14_16.length : Int)) - 1)) < (v14_16.length : Int)) <| (spec_l5Back.f k v11_16 v12_16 (v14_16.getD ((w64 (((v14_16.length : Int)) - 1)).toNat) 0)).bind fun r8 =>
  gd ((v14_16.length : Int) + ([r8.1].length : Int) ≤ 1099511627776) <| l16 k n v11_16 v12_16 (v14_16 ++ [r8.1])
 else
  (spec_l22Turned.f k v14_16).bind fun r9 =>
  some ((r9.1, true), ())) := by kernel_rfl
theorem s6 (k : Nat) (p0 : y9) (p1 : (List Int)) (n : Nat) (v8_6 v9_6 : (List Bool)) (v10_6 : Int) : l6 k p0 p1 (n + 1) v8_6 v9_6 v10_6 =
 (if (decide (v10_6 < ((p1.length : Int)))) = true then
  gd ((0 : Int) ≤ v10_6) <| gd (v10_6 < (v8_6.length : Int)) <| if (!(v8_6.getD (v10_6.toNat) false)) = true then
   gd ((0 : Int) ≤ v10_6) <| gd (v10_6 < (p1.length : Int)) <| gd ((0 : Int) ≤ (p1.getD (v10_6.toNat) 0)) <| gd ((p1.getD (v10_6.toNat) 0) < (v9_6.length : Int)) <| l6 k p0 p1 n v8_6 (v9_6.set ((p1.getD (v10_6.toNat) 0).toNat) true) (w64 (v10_6 + 1))
  else
   l6 k p0 p1 n v8_6 v9_6 (w64 (v10_6 + 1))
 else
  (spec_l28Steps.f k p0 p1).bind fun r4 =>
  (spec_l28First.f k p0 p1).bind fun r5 =>
  (spec_l5Steps.f k r4.1 r5.1).bind fun r6 =>
  (spec_l5Nearest.f k r6.1 v9_6).bind fun r7 =>
  if (decide (r7.1 < 0)) = true then
   some (([], false), ())
  else
   l16 k k r4.1 r6.1 [r7.1]) := by kernel_rfl
theorem s (k : Nat) (p0 : y9) (p1 : (List Int)) (p2 : y1) : f k p0 p1 p2 =
 ((spec_BlocksValid.f k p0 p1).bind fun r1 =>
 if (!r1.1) = true then
  some (([], false), ())
 else
  (spec_l2Is.f k p2 ((p0.1.length : Int)) 2).bind fun r2 =>
  if (!r2.1) = true then
   some (([], false), ())
  else
   (spec_l15Good.f k p0 p2).bind fun r3 =>
   gd ((0 : Int) ≤ ((p1.length : Int))) <| gd ((((p1.length : Int)) : Int) ≤ 1099511627776) <| l6 k p0 p1 k r3.1 ((List.replicate ((p1.length : Int)).toNat false : (List Bool))) 0) := by kernel_rfl
theorem ok (k : Nat) : Ok Tryz.prog 83 (sem k) := Fd.ok (cx_ok ⟨spec_BlocksValid.ok k, spec_l2Is.ok k, spec_l15Good.ok k, spec_l28Steps.ok k, spec_l28First.ok k, spec_l5Steps.ok k, spec_l5Nearest.ok k, spec_l5Back.ok k, spec_l22Turned.ok k, trivial⟩) ⟨Tryz.func83, rfl, by kernel_rfl⟩ rfl
attribute [irreducible] f l6 l16
end spec_BlockWay
/-! loop.example/wholecheck/spec.l29Draw -/
namespace spec_l29Draw
noncomputable def D : Fd := ⟨Tryz.f44, 4, h82, (.pr (.ag (.pr .sh (.ow (.ag (.pr (.ow .sh) (.pr (.ow .sh) (.ow (.ow .sh)))))))) (.pr (.ag (.ow .sh)) (.pr (.ow .sh) .sh))), [.sh], .unit, h4⟩
noncomputable def C (k : Nat) : Ctx := cx [(82, spec_l28Ask.sem k), (63, spec_l40Open.sem k), (83, spec_BlockWay.sem k), (66, spec_l40Rd_pick.sem k), (12, spec_BlocksValid.sem k)] [] [(7, [(2, none), (3, none), (6, none), (7, none), (8, none), (9, none), (10, none), (12, none)])] [] [(13, [0, 1, 2, 3, 4, 5, 6, 7])] [((13, 4), [7])] [(5, [(2, none), (3, none), (6, none), (7, none), (8, none), (9, none), (10, none), (35, none)])]
noncomputable def sem (k : Nat) : Sem := D.sem (D.ev (C k) k)
noncomputable def f (k : Nat) (p0 : (List Int)) : Option (y15 × Unit) := D.ev (C k) k (p0, ())
noncomputable def lj5 (k : Nat) (n : Nat) (v6_j5 : y9) (v7_j5 : (List Int)) (v8_j5 : y1) (v9_j5 : ((List Int) × Int)) (v10_j5 : (List Int)) (v35_j5 : Bool) : Option (y15 × Unit) :=
 D.jn (C k) k 5 [1, 1, 1, 1, 0] [] n [(35, vB v35_j5), (10, vO h7 v10_j5), (9, .val h3 (.ow (.ag (.pr .sh .sh))) v9_j5), (8, vS h13 v8_j5), (7, vO h53 v7_j5), (6, .val h44 (.ow (.ag (.pr .sh (.ow (.ag (.pr (.ow .sh) (.pr (.ow .sh) (.ow (.ow .sh))))))))) v6_j5), (3, vO h53 []), (2, vO h44 ([], []))]
noncomputable def l7 (k : Nat) (v6_j5 : y9) (v7_j5 : (List Int)) (v8_j5 : y1) (n : Nat) (v9_7 : ((List Int) × Int)) (v10_7 : (List Int)) (v12_7 : Int) : Option (y15 × Unit) :=
 D.lp (C k) k 7 [1, 1, 1, 1, 0, 1, 0, 1, 1, 0] [] n [(12, vI v12_7), (10, vO h83 v10_7), (9, .val h3 (.ow (.ag (.pr .sh .sh))) v9_7), (8, vS h13 v8_j5), (7, vO h53 v7_j5), (6, .val h44 (.ow (.ag (.pr .sh (.ow (.ag (.pr (.ow .sh) (.pr (.ow .sh) (.ow (.ow .sh))))))))) v6_j5), (3, vO h53 []), (2, vO h44 ([], []))]
theorem s7 (k : Nat) (v6_j5 : y9) (v7_j5 : (List Int)) (v8_j5 : y1) (n : Nat) (v9_7 : ((List Int) × Int)) (v10_7 : (List Int)) (v12_7 : Int) : l7 k v6_j5 v7_j5 v8_j5 (n + 1) v9_7 v10_7 v12_7 =
 (if (decide (v12_7 > 0)) = true then
  if (decide (((v7_j5.length : Int)) > 0)) = true then
   (spec_l40Rd_pick.f k v9_7 ((v7_j5.length : Int))).bind fun r5 =>
   (spec_BlocksValid.f k v6_j5 v7_j5).bind fun r6 =>
   if r6.1 = true then
    (spec_l40Rd_pick.f k r5.2 16).bind fun r7 =>
    if (decide (r7.1 > 0)) = true then
     gd ((0 : Int) ≤ r5.1) <| gd (r5.1 < (v7_j5.length : Int)) <| gd ((v10_7.length : Int) + ([(v7_j5.getD (r5.1.toNat) 0)].length : Int) ≤ 1099511627776) <| l7 k v6_j5 v7_j5 v8_j5 n r7.2 (v10_7 ++ [(v7_j5.getD (r5.1.toNat) 0)]) (w64 (v12_7 - 1))
    else
     gd ((v10_7.length : Int) + ([r5.1].length : Int) ≤ 1099511627776) <| l7 k v6_j5 v7_j5 v8_j5 n r7.2 (v10_7 ++ [r5.1]) (w64 (v12_7 - 1))
   else
    gd ((v10_7.length : Int) + ([r5.1].length : Int) ≤ 1099511627776) <| l7 k v6_j5 v7_j5 v8_j5 n r5.2 (v10_7 ++ [r5.1]) (w64 (v12_7 - 1))
  else
   some ((v6_j5, (v7_j5, (v10_7, v8_j5))), ())
 else
  some ((v6_j5, (v7_j5, (v10_7, v8_j5))), ())) := by kernel_rfl
theorem sj5 (k : Nat) (n : Nat) (v6_j5 : y9) (v7_j5 : (List Int)) (v8_j5 : y1) (v9_j5 : ((List Int) × Int)) (v10_j5 : (List Int)) (v35_j5 : Bool) : lj5 k (n + 1) v6_j5 v7_j5 v8_j5 v9_j5 v10_j5 v35_j5 =
 (if v35_j5 = true then
  (spec_l40Rd_pick.f k v9_j5 4).bind fun r4 =>
  l7 k v6_j5 v7_j5 v8_j5 k r4.2 [] (w64 (1 + r4.1))
 else
  some ((v6_j5, (v7_j5, (v10_j5, v8_j5))), ())) := by kernel_rfl
theorem s (k : Nat) (p0 : (List Int)) : f k p0 =
 ((spec_l28Ask.f k p0).bind fun r1 =>
 (spec_l40Open.f k p0).bind fun r2 =>
 (spec_BlockWay.f k r1.1.1 r1.1.2.1 r1.1.2.2).bind fun r3 =>
 if (!r3.1.2) = true then
  lj5 k k r1.1.1 r1.1.2.1 r1.1.2.2 r2.1 r3.1.1 true
 else
  (spec_l40Rd_pick.f k r2.1 4).bind fun r8 =>
  lj5 k k r1.1.1 r1.1.2.1 r1.1.2.2 r8.2 r3.1.1 (r8.1 == 0)) := by kernel_rfl
theorem ok (k : Nat) : Ok Tryz.prog 44 (sem k) := Fd.ok (cx_ok ⟨spec_l28Ask.ok k, spec_l40Open.ok k, spec_BlockWay.ok k, spec_l40Rd_pick.ok k, spec_BlocksValid.ok k, trivial⟩) ⟨Tryz.func44, rfl, by kernel_rfl⟩ rfl
attribute [irreducible] f lj5 l7
end spec_l29Draw
/-! loop.example/wholecheck/spec.DrawFollowBlocks -/
namespace spec_DrawFollowBlocks
noncomputable def D : Fd := ⟨Tryz.f16, 3, h85, (.pr (.ag (.pr .sh (.ow (.ag (.pr (.ow .sh) (.pr (.ow .sh) (.ow (.ow .sh)))))))) (.pr (.ag (.ow .sh)) (.ow .sh))), [.sh], .unit, h4⟩
noncomputable def C (k : Nat) : Ctx := cx [(44, spec_l29Draw.sem k)] [] [] [] [(2, [0, 1, 2, 3, 4, 5])] [((2, 3), [6])] []
noncomputable def sem (k : Nat) : Sem := D.sem (D.ev (C k) k)
noncomputable def f (k : Nat) (p0 : (List Int)) : Option (y17 × Unit) := D.ev (C k) k (p0, ())
theorem s (k : Nat) (p0 : (List Int)) : f k p0 =
 ((spec_l29Draw.f k p0).bind fun r1 =>
 some ((r1.1.1, (r1.1.2.1, r1.1.2.2.1)), ())) := by kernel_rfl
theorem ok (k : Nat) : Ok Tryz.prog 16 (sem k) := Fd.ok (cx_ok ⟨spec_l29Draw.ok k, trivial⟩) ⟨Tryz.func16, rfl, by kernel_rfl⟩ rfl
attribute [irreducible] f
end spec_DrawFollowBlocks
/-! loop.example/wholecheck/impl.in -/
namespace impl_in
noncomputable def D : Fd := ⟨Tryz.f67, 1, .bool, .sh, [.sh, .sh, .sh], .unit, h18⟩
noncomputable def C (k : Nat) : Ctx := cx [] [] [] [] [] [] []
noncomputable def sem (k : Nat) : Sem := D.sem (D.ev (C k) k)
noncomputable def f (k : Nat) (p0 p1 p2 : Int) : Option (Bool × Unit) := D.ev (C k) k (p0, p1, p2, ())
theorem s (k : Nat) (p0 p1 p2 : Int) : f k p0 p1 p2 =
 (if (decide (p0 ≥ p1)) = true then
  some (decide (p0 ≤ p2), ())
 else
  some (false, ())) := by kernel_rfl
theorem ok (k : Nat) : Ok Tryz.prog 67 (sem k) := Fd.ok (cx_ok trivial) ⟨Tryz.func67, rfl, by kernel_rfl⟩ rfl
attribute [irreducible] f
end impl_in
/-! loop.example/wholecheck/impl.varOk -/
namespace impl_varOk
noncomputable def D : Fd := ⟨Tryz.f74, 1, .bool, .sh, [.sh], .unit, h45⟩
noncomputable def C (k : Nat) : Ctx := cx [(67, impl_in.sem k)] [] [] [] [] [] []
noncomputable def sem (k : Nat) : Sem := D.sem (D.ev (C k) k)
noncomputable def f (k : Nat) (p0 : (Int × (Int × Int))) : Option (Bool × Unit) := D.ev (C k) k (p0, ())
theorem s (k : Nat) (p0 : (Int × (Int × Int))) : f k p0 =
 ((impl_in.f k p0.1 (-9999) 9999).bind fun r1 =>
 if r1.1 = true then
  (impl_in.f k p0.2.1 p0.1 9999).bind fun r2 =>
  if r2.1 = true then
   if (decide ((w64 (p0.2.1 - p0.1)) < 20)) = true then
    (impl_in.f k p0.2.2 p0.1 p0.2.1).bind fun r3 =>
    some (r3.1, ())
   else
    some (false, ())
  else
   some (false, ())
 else
  some (false, ())) := by kernel_rfl
theorem ok (k : Nat) : Ok Tryz.prog 74 (sem k) := Fd.ok (cx_ok ⟨impl_in.ok k, trivial⟩) ⟨Tryz.func74, rfl, by kernel_rfl⟩ rfl
attribute [irreducible] f
end impl_varOk
/-! loop.example/wholecheck/impl.SystemValid$1 -/
namespace impl_SystemValid_1
noncomputable def D : Fd := ⟨Tryz.f73, 1, .bool, .sh, [.sh], .unit, h45⟩
noncomputable def C (k : Nat) : Ctx := cx [(74, impl_varOk.sem k)] [] [] [] [] [] []
noncomputable def sem (k : Nat) : Sem := D.sem (D.ev (C k) k)
noncomputable def f (k : Nat) (p0 : (Int × (Int × Int))) : Option (Bool × Unit) := D.ev (C k) k (p0, ())
theorem s (k : Nat) (p0 : (Int × (Int × Int))) : f k p0 =
 ((impl_varOk.f k p0).bind fun r1 =>
 some (!r1.1, ())) := by kernel_rfl
theorem ok (k : Nat) : Ok Tryz.prog 73 (sem k) := Fd.ok (cx_ok ⟨impl_varOk.ok k, trivial⟩) ⟨Tryz.func73, rfl, by kernel_rfl⟩ rfl
attribute [irreducible] f
end impl_SystemValid_1
/-! slices.IndexFunc[[]loop.example/wholecheck/impl.Var,loop.example/wholecheck/impl.Var] -/
namespace slices_IndexFunc_impl_Var_impl_Var
noncomputable def D : Fd := ⟨Tryz.f106, 1, I, .sh, [.sh, .sh], .unit, h88⟩
noncomputable def C (k : Nat) : Ctx := cx [] [] [(2, [(0, none), (1, none), (7, none), (8, none)])] [] [] [] []
noncomputable def sem (k : Nat) : Sem := D.sem (D.ev (C k) k)
noncomputable def f (k : Nat) (p0 : y2) (p1 : y18) : Option (Int × Unit) := D.ev (C k) k (p0, p1, ())
noncomputable def l2 (k : Nat) (p0 : y2) (p1 : y18) (n : Nat) (v8_2 : Int) : Option (Int × Unit) :=
 D.lp (C k) k 2 [1, 0, 1, 0] [] n [(8, vI v8_2), (7, vI ((p0.length : Int))), (1, vS h86 p1), (0, vS h26 p0)]
theorem s2 (k : Nat) (p0 : y2) (p1 : y18) (n : Nat) (v8_2 : Int) : l2 k p0 p1 (n + 1) v8_2 =
 (if (decide (v8_2 < ((p0.length : Int)))) = true then
  gd ((0 : Int) ≤ v8_2) <| gd (v8_2 < (p0.length : Int)) <| (p1 (p0.getD (v8_2.toNat) (0, (0, 0)))).bind fun r1 =>
  if r1 = true then
   some (v8_2, ())
  else
   l2 k p0 p1 n (w64 (v8_2 + 1))
 else
  some ((-1), ())) := by kernel_rfl
theorem s (k : Nat) (p0 : y2) (p1 : y18) : f k p0 p1 =
 (l2 k p0 p1 k 0) := by kernel_rfl
theorem ok (k : Nat) : Ok Tryz.prog 106 (sem k) := Fd.ok (cx_ok trivial) ⟨Tryz.func106, rfl, by kernel_rfl⟩ rfl
attribute [irreducible] f l2
end slices_IndexFunc_impl_Var_impl_Var
/-! slices.ContainsFunc[[]loop.example/wholecheck/impl.Var,loop.example/wholecheck/impl.Var] -/
namespace slices_ContainsFunc_impl_Var_impl_Var
noncomputable def D : Fd := ⟨Tryz.f72, 1, .bool, .sh, [.sh, .sh], .unit, h88⟩
noncomputable def C (k : Nat) : Ctx := cx [(106, slices_IndexFunc_impl_Var_impl_Var.sem k)] [] [] [] [] [] []
noncomputable def sem (k : Nat) : Sem := D.sem (D.ev (C k) k)
noncomputable def f (k : Nat) (p0 : y2) (p1 : y18) : Option (Bool × Unit) := D.ev (C k) k (p0, p1, ())
theorem s (k : Nat) (p0 : y2) (p1 : y18) : f k p0 p1 =
 ((slices_IndexFunc_impl_Var_impl_Var.f k p0 p1).bind fun r1 =>
 some (decide (r1.1 ≥ 0), ())) := by kernel_rfl
theorem ok (k : Nat) : Ok Tryz.prog 72 (sem k) := Fd.ok (cx_ok ⟨slices_IndexFunc_impl_Var_impl_Var.ok k, trivial⟩) ⟨Tryz.func72, rfl, by kernel_rfl⟩ rfl
attribute [irreducible] f
end slices_ContainsFunc_impl_Var_impl_Var
/-! loop.example/wholecheck/impl.size -/
namespace impl_size
noncomputable def D : Fd := ⟨Tryz.f58, 1, I, .sh, [.sh], .unit, h28⟩
noncomputable def C (k : Nat) : Ctx := cx [] [] [(3, [(3, none), (6, none), (7, none), (8, none)])] [] [] [] []
noncomputable def sem (k : Nat) : Sem := D.sem (D.ev (C k) k)
noncomputable def f (k : Nat) (p0 : y2) : Option (Int × Unit) := D.ev (C k) k (p0, ())
noncomputable def l3 (k : Nat) (p0 : y2) (n : Nat) (v3_3 v8_3 : Int) : Option (Int × Unit) :=
 D.lp (C k) k 3 [1, 1, 0, 1, 0] [] n [(8, vI v8_3), (7, vI ((p0.length : Int))), (6, vS h26 p0), (3, vI v3_3)]
theorem s3 (k : Nat) (p0 : y2) (n : Nat) (v3_3 v8_3 : Int) : l3 k p0 (n + 1) v3_3 v8_3 =
 (if (decide (v8_3 < ((p0.length : Int)))) = true then
  gd ((0 : Int) ≤ v8_3) <| gd (v8_3 < (p0.length : Int)) <| l3 k p0 n (w64 (v3_3 * (w64 ((w64 ((p0.getD (v8_3.toNat) (0, (0, 0))).2.1 - (p0.getD (v8_3.toNat) (0, (0, 0))).1)) + 1)))) (w64 (v8_3 + 1))
 else
  some (v3_3, ())) := by kernel_rfl
theorem z3 (k : Nat) (p0 : y2) (v3_3 v8_3 : Int) : l3 k p0 0 v3_3 v8_3 = none := by kernel_rfl
theorem s (k : Nat) (p0 : y2) : f k p0 =
 (l3 k p0 k 1 0) := by kernel_rfl
theorem ok (k : Nat) : Ok Tryz.prog 58 (sem k) := Fd.ok (cx_ok trivial) ⟨Tryz.func58, rfl, by kernel_rfl⟩ rfl
attribute [irreducible] f l3
end impl_size
/-! loop.example/wholecheck/impl.parts -/
namespace impl_parts
noncomputable def D : Fd := ⟨Tryz.f156, 3, h10, (.pr .sh (.pr .sh .sh)), [.sh], .unit, h5⟩
noncomputable def C (k : Nat) : Ctx := cx [] [] [] [] [] [] [(8, [(5, none), (10, none)])]
noncomputable def sem (k : Nat) : Sem := D.sem (D.ev (C k) k)
noncomputable def f (k : Nat) (p0 : Int) : Option ((Int × (Int × Int)) × Unit) := D.ev (C k) k (p0, ())
noncomputable def lj8 (k : Nat) (p0 : Int) (n : Nat) (v10_j8 : Bool) : Option ((Int × (Int × Int)) × Unit) :=
 D.jn (C k) k 8 [1, 0, 1, 0, 1, 1] [] n [(10, vB v10_j8), (5, vI p0)]
theorem sj8 (k : Nat) (p0 : Int) (n : Nat) (v10_j8 : Bool) : lj8 k p0 (n + 1) v10_j8 =
 (if v10_j8 = true then
  some ((2, (1, 2)), ())
 else
  if (p0 == 7) = true then
   some ((1, (2, 2)), ())
  else
   if (p0 == 8) = true then
    if (p0 == 8) = true then
     some ((2, (2, 2)), ())
    else
     some ((0, (0, 1)), ())
   else
    if (p0 == 9) = true then
     some ((2, (2, 2)), ())
    else
     some ((0, (0, 1)), ())) := by kernel_rfl
theorem s (k : Nat) (p0 : Int) : f k p0 =
 (if (p0 == 2) = true then
  if (p0 == 2) = true then
   some ((2, (1, 1)), ())
  else
   if (p0 == 5) = true then
    lj8 k p0 k (p0 == 5)
   else
    lj8 k p0 k (p0 == 6)
 else
  if (p0 == 3) = true then
   if (p0 == 3) = true then
    some ((2, (1, 1)), ())
   else
    if (p0 == 5) = true then
     lj8 k p0 k (p0 == 5)
    else
     lj8 k p0 k (p0 == 6)
  else
   if (p0 == 4) = true then
    some ((2, (1, 1)), ())
   else
    if (p0 == 5) = true then
     lj8 k p0 k (p0 == 5)
    else
     lj8 k p0 k (p0 == 6)) := by kernel_rfl
theorem ok (k : Nat) : Ok Tryz.prog 156 (sem k) := Fd.ok (cx_ok trivial) ⟨Tryz.func156, rfl, by kernel_rfl⟩ rfl
attribute [irreducible] f lj8
end impl_parts
/-! loop.example/wholecheck/impl.kindsOf -/
namespace impl_kindsOf
noncomputable def D : Fd := ⟨Tryz.f128, 1, h83, (.ow .sh), [.sh, .sh], .unit, h22⟩
noncomputable def C (k : Nat) : Ctx := cx [(67, impl_in.sem k), (156, impl_parts.sem k)] [] [(5, [(1, none), (5, none), (24, none), (25, none), (26, none)])] [] [] [] []
noncomputable def sem (k : Nat) : Sem := D.sem (D.ev (C k) k)
noncomputable def f (k : Nat) (p0 : y1) (p1 : Int) : Option ((List Int) × Unit) := D.ev (C k) k (p0, p1, ())
noncomputable def l5 (k : Nat) (p0 : y1) (p1 : Int) (n : Nat) (v5_5 : (List Int)) (v26_5 : Int) : Option ((List Int) × Unit) :=
 D.lp (C k) k 5 [1, 1, 1, 0, 1, 0] [] n [(26, vI v26_5), (25, vI ((p0.length : Int))), (24, vS h13 p0), (5, vO h7 v5_5), (1, vI p1)]
theorem s5 (k : Nat) (p0 : y1) (p1 : Int) (n : Nat) (v5_5 : (List Int)) (v26_5 : Int) : l5 k p0 p1 (n + 1) v5_5 v26_5 =
 (if (decide (v26_5 < ((p0.length : Int)))) = true then
  gd ((0 : Int) ≤ v26_5) <| gd (v26_5 < (p0.length : Int)) <| (impl_parts.f k (p0.getD (v26_5.toNat) (0, (0, (0, 0)))).1).bind fun r3 =>
  (impl_in.f k (p0.getD (v26_5.toNat) (0, (0, (0, 0)))).1 0 9).bind fun r4 =>
  if ((p0.getD (v26_5.toNat) (0, (0, (0, 0)))).1 == 0) = true then
   (impl_in.f k (p0.getD (v26_5.toNat) (0, (0, (0, 0)))).2.1 (-9999) 9999).bind fun r5 =>
   if r5.1 = true then
    if ((p0.getD (v26_5.toNat) (0, (0, (0, 0)))).2.2.1 == 0) = true then
     if (!((p0.getD (v26_5.toNat) (0, (0, (0, 0)))).2.2.2 == 0)) = true then
      some ([], ())
     else
      gd ((v5_5.length : Int) + ([r3.1.2.2].length : Int) ≤ 1099511627776) <| l5 k p0 p1 n (v5_5 ++ [r3.1.2.2]) (w64 (v26_5 + 1))
    else
     if (!false) = true then
      some ([], ())
     else
      gd ((v5_5.length : Int) + ([r3.1.2.2].length : Int) ≤ 1099511627776) <| l5 k p0 p1 n (v5_5 ++ [r3.1.2.2]) (w64 (v26_5 + 1))
   else
    if (!false) = true then
     some ([], ())
    else
     gd ((v5_5.length : Int) + ([r3.1.2.2].length : Int) ≤ 1099511627776) <| l5 k p0 p1 n (v5_5 ++ [r3.1.2.2]) (w64 (v26_5 + 1))
  else
   if ((p0.getD (v26_5.toNat) (0, (0, (0, 0)))).1 == 1) = true then
    (impl_in.f k (p0.getD (v26_5.toNat) (0, (0, (0, 0)))).2.1 0 (w64 (p1 - 1))).bind fun r6 =>
    if r6.1 = true then
     if ((p0.getD (v26_5.toNat) (0, (0, (0, 0)))).2.2.1 == 0) = true then
      if (!((p0.getD (v26_5.toNat) (0, (0, (0, 0)))).2.2.2 == 0)) = true then
       some ([], ())
      else
       gd ((v5_5.length : Int) + ([r3.1.2.2].length : Int) ≤ 1099511627776) <| l5 k p0 p1 n (v5_5 ++ [r3.1.2.2]) (w64 (v26_5 + 1))
     else
      if (!false) = true then
       some ([], ())
      else
       gd ((v5_5.length : Int) + ([r3.1.2.2].length : Int) ≤ 1099511627776) <| l5 k p0 p1 n (v5_5 ++ [r3.1.2.2]) (w64 (v26_5 + 1))
    else
     if (!false) = true then
      some ([], ())
     else
      gd ((v5_5.length : Int) + ([r3.1.2.2].length : Int) ≤ 1099511627776) <| l5 k p0 p1 n (v5_5 ++ [r3.1.2.2]) (w64 (v26_5 + 1))
   else
    if r4.1 = true then
     if ((p0.getD (v26_5.toNat) (0, (0, (0, 0)))).2.1 == 0) = true then
      (impl_in.f k (p0.getD (v26_5.toNat) (0, (0, (0, 0)))).2.2.1 0 (w64 (v26_5 - 1))).bind fun r7 =>
      if r7.1 = true then
       (impl_in.f k (p0.getD (v26_5.toNat) (0, (0, (0, 0)))).2.2.2 0 (w64 (v26_5 - 1))).bind fun r8 =>
       if r8.1 = true then
        gd ((0 : Int) ≤ (p0.getD (v26_5.toNat) (0, (0, (0, 0)))).2.2.1) <| gd ((p0.getD (v26_5.toNat) (0, (0, (0, 0)))).2.2.1 < (v5_5.length : Int)) <| if ((v5_5.getD ((p0.getD (v26_5.toNat) (0, (0, (0, 0)))).2.2.1.toNat) 0) == r3.1.2.1) = true then
         gd ((0 : Int) ≤ (p0.getD (v26_5.toNat) (0, (0, (0, 0)))).2.2.2) <| gd ((p0.getD (v26_5.toNat) (0, (0, (0, 0)))).2.2.2 < (v5_5.length : Int)) <| if ((v5_5.getD ((p0.getD (v26_5.toNat) (0, (0, (0, 0)))).2.2.2.toNat) 0) == r3.1.2.1) = true then
          if (r3.1.1 == 2) = true then
           if (!true) = true then
            some ([], ())
           else
            gd ((v5_5.length : Int) + ([r3.1.2.2].length : Int) ≤ 1099511627776) <| l5 k p0 p1 n (v5_5 ++ [r3.1.2.2]) (w64 (v26_5 + 1))
          else
           if (!((p0.getD (v26_5.toNat) (0, (0, (0, 0)))).2.2.1 == (p0.getD (v26_5.toNat) (0, (0, (0, 0)))).2.2.2)) = true then
            some ([], ())
           else
            gd ((v5_5.length : Int) + ([r3.1.2.2].length : Int) ≤ 1099511627776) <| l5 k p0 p1 n (v5_5 ++ [r3.1.2.2]) (w64 (v26_5 + 1))
         else
          if (!false) = true then
           some ([], ())
          else
           gd ((v5_5.length : Int) + ([r3.1.2.2].length : Int) ≤ 1099511627776) <| l5 k p0 p1 n (v5_5 ++ [r3.1.2.2]) (w64 (v26_5 + 1))
        else
         if (!false) = true then
          some ([], ())
         else
          gd ((v5_5.length : Int) + ([r3.1.2.2].length : Int) ≤ 1099511627776) <| l5 k p0 p1 n (v5_5 ++ [r3.1.2.2]) (w64 (v26_5 + 1))
       else
        if (!false) = true then
         some ([], ())
        else
         gd ((v5_5.length : Int) + ([r3.1.2.2].length : Int) ≤ 1099511627776) <| l5 k p0 p1 n (v5_5 ++ [r3.1.2.2]) (w64 (v26_5 + 1))
      else
       if (!false) = true then
        some ([], ())
       else
        gd ((v5_5.length : Int) + ([r3.1.2.2].length : Int) ≤ 1099511627776) <| l5 k p0 p1 n (v5_5 ++ [r3.1.2.2]) (w64 (v26_5 + 1))
     else
      if (!false) = true then
       some ([], ())
      else
       gd ((v5_5.length : Int) + ([r3.1.2.2].length : Int) ≤ 1099511627776) <| l5 k p0 p1 n (v5_5 ++ [r3.1.2.2]) (w64 (v26_5 + 1))
    else
     if (!r4.1) = true then
      some ([], ())
     else
      gd ((v5_5.length : Int) + ([r3.1.2.2].length : Int) ≤ 1099511627776) <| l5 k p0 p1 n (v5_5 ++ [r3.1.2.2]) (w64 (v26_5 + 1))
 else
  gd (v5_5.length ≠ 0) <| some (v5_5, ())) := by kernel_rfl
theorem s (k : Nat) (p0 : y1) (p1 : Int) : f k p0 p1 =
 ((impl_in.f k p1 0 5).bind fun r1 =>
 if (!r1.1) = true then
  some ([], ())
 else
  (impl_in.f k ((p0.length : Int)) 1 40).bind fun r2 =>
  if (!r2.1) = true then
   some ([], ())
  else
   gd ((0 : Int) ≤ 0) <| gd ((0 : Int) ≤ ((p0.length : Int))) <| gd ((((p0.length : Int)) : Int) ≤ 1099511627776) <| l5 k p0 p1 k ((List.replicate ((0 : Int)).toNat 0 : (List Int))) 0) := by kernel_rfl
theorem ok (k : Nat) : Ok Tryz.prog 128 (sem k) := Fd.ok (cx_ok ⟨impl_in.ok k, impl_parts.ok k, trivial⟩) ⟨Tryz.func128, rfl, by kernel_rfl⟩ rfl
attribute [irreducible] f l5
end impl_kindsOf
/-! loop.example/wholecheck/impl.kindOf -/
namespace impl_kindOf
noncomputable def D : Fd := ⟨Tryz.f108, 1, I, .sh, [.sh, .sh], .unit, h22⟩
noncomputable def C (k : Nat) : Ctx := cx [(128, impl_kindsOf.sem k)] [] [] [] [] [] []
noncomputable def sem (k : Nat) : Sem := D.sem (D.ev (C k) k)
noncomputable def f (k : Nat) (p0 : y1) (p1 : Int) : Option (Int × Unit) := D.ev (C k) k (p0, p1, ())
theorem s (k : Nat) (p0 : y1) (p1 : Int) : f k p0 p1 =
 ((impl_kindsOf.f k p0 p1).bind fun r1 =>
 if (decide (r1.1.length = 0)) = true then
  some (0, ())
 else
  gd ((0 : Int) ≤ (w64 (((r1.1.length : Int)) - 1))) <| gd ((w64 (((r1.1.length : Int)) - 1)) < (r1.1.length : Int)) <| some (r1.1.getD ((w64 (((r1.1.length : Int)) - 1)).toNat) 0, ())) := by kernel_rfl
theorem ok (k : Nat) : Ok Tryz.prog 108 (sem k) := Fd.ok (cx_ok ⟨impl_kindsOf.ok k, trivial⟩) ⟨Tryz.func108, rfl, by kernel_rfl⟩ rfl
attribute [irreducible] f
end impl_kindOf
/-! loop.example/wholecheck/impl.ruleOk -/
namespace impl_ruleOk
noncomputable def D : Fd := ⟨Tryz.f77, 1, .bool, .sh, [.sh, .sh], .unit, h47⟩
noncomputable def C (k : Nat) : Ctx := cx [(108, impl_kindOf.sem k), (67, impl_in.sem k)] [] [(4, [(1, none), (2, none), (22, none), (23, none), (24, none)])] [] [] [] []
noncomputable def sem (k : Nat) : Sem := D.sem (D.ev (C k) k)
noncomputable def f (k : Nat) (p0 : y7) (p1 : Int) : Option (Bool × Unit) := D.ev (C k) k (p0, p1, ())
noncomputable def l4 (k : Nat) (p0 : y7) (p1 : Int) (n : Nat) (v24_4 : Int) : Option (Bool × Unit) :=
 D.lp (C k) k 4 [1, 1, 0, 1, 0] [] n [(24, vI v24_4), (23, vI ((p0.2.1.length : Int))), (22, vS h7 p0.2.1), (2, .val h41 (.ow .sh) p0), (1, vI p1)]
theorem s4 (k : Nat) (p0 : y7) (p1 : Int) (n : Nat) (v24_4 : Int) : l4 k p0 p1 (n + 1) v24_4 =
 (if (decide (v24_4 < ((p0.2.1.length : Int)))) = true then
  gd ((0 : Int) ≤ v24_4) <| gd (v24_4 < (p0.2.1.length : Int)) <| (impl_in.f k (p0.2.1.getD (v24_4.toNat) 0) 0 (w64 (p1 - 1))).bind fun r2 =>
  if (!r2.1) = true then
   some (false, ())
  else
   if (decide (v24_4 > 0)) = true then
    gd ((0 : Int) ≤ (w64 (v24_4 - 1))) <| gd ((w64 (v24_4 - 1)) < (p0.2.1.length : Int)) <| if (decide ((p0.2.1.getD ((w64 (v24_4 - 1)).toNat) 0) ≥ (p0.2.1.getD (v24_4.toNat) 0))) = true then
     some (false, ())
    else
     gd ((0 : Int) ≤ v24_4) <| gd (v24_4 < (p0.2.2.length : Int)) <| (impl_kindOf.f k (p0.2.2.getD (v24_4.toNat) []) p1).bind fun r3 =>
     if (r3.1 != 1) = true then
      some (false, ())
     else
      l4 k p0 p1 n (w64 (v24_4 + 1))
   else
    gd ((0 : Int) ≤ v24_4) <| gd (v24_4 < (p0.2.2.length : Int)) <| (impl_kindOf.f k (p0.2.2.getD (v24_4.toNat) []) p1).bind fun r4 =>
    if (r4.1 != 1) = true then
     some (false, ())
    else
     l4 k p0 p1 n (w64 (v24_4 + 1))
 else
  some (true, ())) := by kernel_rfl
theorem s (k : Nat) (p0 : y7) (p1 : Int) : f k p0 p1 =
 ((impl_kindOf.f k p0.1 p1).bind fun r1 =>
 if (r1.1 != 2) = true then
  some (false, ())
 else
  if (((p0.2.1.length : Int)) != ((p0.2.2.length : Int))) = true then
   some (false, ())
  else
   l4 k p0 p1 k 0) := by kernel_rfl
theorem ok (k : Nat) : Ok Tryz.prog 77 (sem k) := Fd.ok (cx_ok ⟨impl_kindOf.ok k, impl_in.ok k, trivial⟩) ⟨Tryz.func77, rfl, by kernel_rfl⟩ rfl
attribute [irreducible] f l4
end impl_ruleOk
/-! loop.example/wholecheck/impl.SystemValid$2 -/
namespace impl_SystemValid_2
noncomputable def D : Fd := ⟨Tryz.f76, 1, .bool, .sh, [.sh, .sh], .unit, h90⟩
noncomputable def C (k : Nat) : Ctx := cx [(77, impl_ruleOk.sem k)] [] [] [] [] [] []
noncomputable def sem (k : Nat) : Sem := D.sem (D.ev (C k) k)
noncomputable def f (k : Nat) (p0 : y7) (p1 : y9) : Option (Bool × Unit) := D.ev (C k) k (p0, p1, ())
theorem s (k : Nat) (p0 : y7) (p1 : y9) : f k p0 p1 =
 ((impl_ruleOk.f k p0 ((p1.1.length : Int))).bind fun r1 =>
 some (!r1.1, ())) := by kernel_rfl
theorem ok (k : Nat) : Ok Tryz.prog 76 (sem k) := Fd.ok (cx_ok ⟨impl_ruleOk.ok k, trivial⟩) ⟨Tryz.func76, rfl, by kernel_rfl⟩ rfl
attribute [irreducible] f
end impl_SystemValid_2
/-! slices.IndexFunc[[]loop.example/wholecheck/impl.Rule,loop.example/wholecheck/impl.Rule] -/
namespace slices_IndexFunc_impl_Rule_impl_Rule
noncomputable def D : Fd := ⟨Tryz.f107, 1, I, .sh, [.sh, .sh], .unit, h93⟩
noncomputable def C (k : Nat) : Ctx := cx [] [] [(2, [(0, none), (1, none), (7, none), (8, none)])] [] [] [] []
noncomputable def sem (k : Nat) : Sem := D.sem (D.ev (C k) k)
noncomputable def f (k : Nat) (p0 : y8) (p1 : y19) : Option (Int × Unit) := D.ev (C k) k (p0, p1, ())
noncomputable def l2 (k : Nat) (p0 : y8) (p1 : y19) (n : Nat) (v8_2 : Int) : Option (Int × Unit) :=
 D.lp (C k) k 2 [1, 0, 1, 0] [] n [(8, vI v8_2), (7, vI ((p0.length : Int))), (1, vS h91 p1), (0, vS h40 p0)]
theorem s2 (k : Nat) (p0 : y8) (p1 : y19) (n : Nat) (v8_2 : Int) : l2 k p0 p1 (n + 1) v8_2 =
 (if (decide (v8_2 < ((p0.length : Int)))) = true then
  gd ((0 : Int) ≤ v8_2) <| gd (v8_2 < (p0.length : Int)) <| (p1 (p0.getD (v8_2.toNat) ([], ([], [])))).bind fun r1 =>
  if r1 = true then
   some (v8_2, ())
  else
   l2 k p0 p1 n (w64 (v8_2 + 1))
 else
  some ((-1), ())) := by kernel_rfl
theorem s (k : Nat) (p0 : y8) (p1 : y19) : f k p0 p1 =
 (l2 k p0 p1 k 0) := by kernel_rfl
theorem ok (k : Nat) : Ok Tryz.prog 107 (sem k) := Fd.ok (cx_ok trivial) ⟨Tryz.func107, rfl, by kernel_rfl⟩ rfl
attribute [irreducible] f l2
end slices_IndexFunc_impl_Rule_impl_Rule
/-! slices.ContainsFunc[[]loop.example/wholecheck/impl.Rule,loop.example/wholecheck/impl.Rule] -/
namespace slices_ContainsFunc_impl_Rule_impl_Rule
noncomputable def D : Fd := ⟨Tryz.f75, 1, .bool, .sh, [.sh, .sh], .unit, h93⟩
noncomputable def C (k : Nat) : Ctx := cx [(107, slices_IndexFunc_impl_Rule_impl_Rule.sem k)] [] [] [] [] [] []
noncomputable def sem (k : Nat) : Sem := D.sem (D.ev (C k) k)
noncomputable def f (k : Nat) (p0 : y8) (p1 : y19) : Option (Bool × Unit) := D.ev (C k) k (p0, p1, ())
theorem s (k : Nat) (p0 : y8) (p1 : y19) : f k p0 p1 =
 ((slices_IndexFunc_impl_Rule_impl_Rule.f k p0 p1).bind fun r1 =>
 some (decide (r1.1 ≥ 0), ())) := by kernel_rfl
theorem ok (k : Nat) : Ok Tryz.prog 75 (sem k) := Fd.ok (cx_ok ⟨slices_IndexFunc_impl_Rule_impl_Rule.ok k, trivial⟩) ⟨Tryz.func75, rfl, by kernel_rfl⟩ rfl
attribute [irreducible] f
end slices_ContainsFunc_impl_Rule_impl_Rule
/-! loop.example/wholecheck/impl.SystemValid -/
namespace impl_SystemValid
noncomputable def D : Fd := ⟨Tryz.f37, 1, .bool, .sh, [.sh], .unit, h48⟩
noncomputable def C (k : Nat) : Ctx := cx [(67, impl_in.sem k), (73, impl_SystemValid_1.sem k), (72, slices_ContainsFunc_impl_Var_impl_Var.sem k), (58, impl_size.sem k), (76, impl_SystemValid_2.sem k), (75, slices_ContainsFunc_impl_Rule_impl_Rule.sem k)] [] [] [] [] [] []
noncomputable def sem (k : Nat) : Sem := D.sem (D.ev (C k) k)
noncomputable def f (k : Nat) (p0 : y9) : Option (Bool × Unit) := D.ev (C k) k (p0, ())
theorem s (k : Nat) (p0 : y9) : f k p0 =
 ((impl_in.f k ((p0.1.length : Int)) 1 5).bind fun r1 =>
 if (!r1.1) = true then
  some (false, ())
 else
  if (decide (((p0.2.length : Int)) > 8)) = true then
   some (false, ())
  else
   (slices_ContainsFunc_impl_Var_impl_Var.f k p0.1 (fun p => (impl_SystemValid_1.f k p).bind fun r => some r.1)).bind fun r2 =>
   if r2.1 = true then
    some (false, ())
   else
    (impl_size.f k p0.1).bind fun r3 =>
    if (decide (r3.1 > 400)) = true then
     some (false, ())
    else
     (slices_ContainsFunc_impl_Rule_impl_Rule.f k p0.2 (fun p => (impl_SystemValid_2.f k p p0).bind fun r => some r.1)).bind fun r4 =>
     some (!r4.1, ())) := by kernel_rfl
theorem ok (k : Nat) : Ok Tryz.prog 37 (sem k) := Fd.ok (cx_ok ⟨impl_in.ok k, impl_SystemValid_1.ok k, slices_ContainsFunc_impl_Var_impl_Var.ok k, impl_size.ok k, impl_SystemValid_2.ok k, slices_ContainsFunc_impl_Rule_impl_Rule.ok k, trivial⟩) ⟨Tryz.func37, rfl, by kernel_rfl⟩ rfl
attribute [irreducible] f
end impl_SystemValid
/-! loop.example/wholecheck/impl.blocksOk -/
namespace impl_blocksOk
noncomputable def D : Fd := ⟨Tryz.f38, 1, .bool, .sh, [.sh, .sh], .unit, h66⟩
noncomputable def C (k : Nat) : Ctx := cx [(58, impl_size.sem k), (67, impl_in.sem k)] [] [(4, [(3, none), (15, none), (16, none), (17, none)])] [] [(1, [0, 1, 2, 3, 4, 5, 6])] [((1, 5), [3])] []
noncomputable def sem (k : Nat) : Sem := D.sem (D.ev (C k) k)
noncomputable def f (k : Nat) (p0 : y9) (p1 : (List Int)) : Option (Bool × Unit) := D.ev (C k) k (p0, p1, ())
noncomputable def l4 (k : Nat) (p1 : (List Int)) (n : Nat) (v17_4 : Int) : Option (Bool × Unit) :=
 D.lp (C k) k 4 [1, 1, 0, 1, 0] [] n [(17, vI v17_4), (16, vI ((p1.length : Int))), (15, vS h7 p1), (3, .val h53 (.ow .sh) p1)]
theorem s4 (k : Nat) (p1 : (List Int)) (n : Nat) (v17_4 : Int) : l4 k p1 (n + 1) v17_4 =
 (if (decide (v17_4 < ((p1.length : Int)))) = true then
  gd ((0 : Int) ≤ v17_4) <| gd (v17_4 < (p1.length : Int)) <| (impl_in.f k (p1.getD (v17_4.toNat) 0) 0 v17_4).bind fun r2 =>
  if (!r2.1) = true then
   some (false, ())
  else
   gd ((0 : Int) ≤ (p1.getD (v17_4.toNat) 0)) <| gd ((p1.getD (v17_4.toNat) 0) < (p1.length : Int)) <| if ((p1.getD ((p1.getD (v17_4.toNat) 0).toNat) 0) != (p1.getD (v17_4.toNat) 0)) = true then
    some (false, ())
   else
    l4 k p1 n (w64 (v17_4 + 1))
 else
  some (true, ())) := by kernel_rfl
theorem s (k : Nat) (p0 : y9) (p1 : (List Int)) : f k p0 p1 =
 ((impl_size.f k p0.1).bind fun r1 =>
 if (((p1.length : Int)) != r1.1) = true then
  some (false, ())
 else
  l4 k p1 k 0) := by kernel_rfl
theorem ok (k : Nat) : Ok Tryz.prog 38 (sem k) := Fd.ok (cx_ok ⟨impl_size.ok k, impl_in.ok k, trivial⟩) ⟨Tryz.func38, rfl, by kernel_rfl⟩ rfl
attribute [irreducible] f l4
end impl_blocksOk
/-! loop.example/wholecheck/impl.BlocksValid -/
namespace impl_BlocksValid
noncomputable def D : Fd := ⟨Tryz.f11, 1, .bool, .sh, [.sh, .sh], .unit, h66⟩
noncomputable def C (k : Nat) : Ctx := cx [(37, impl_SystemValid.sem k), (38, impl_blocksOk.sem k)] [] [] [] [] [] []
noncomputable def sem (k : Nat) : Sem := D.sem (D.ev (C k) k)
noncomputable def f (k : Nat) (p0 : y9) (p1 : (List Int)) : Option (Bool × Unit) := D.ev (C k) k (p0, p1, ())
theorem s (k : Nat) (p0 : y9) (p1 : (List Int)) : f k p0 p1 =
 ((impl_SystemValid.f k p0).bind fun r1 =>
 if r1.1 = true then
  (impl_blocksOk.f k p0 p1).bind fun r2 =>
  some (r2.1, ())
 else
  some (false, ())) := by kernel_rfl
theorem ok (k : Nat) : Ok Tryz.prog 11 (sem k) := Fd.ok (cx_ok ⟨impl_SystemValid.ok k, impl_blocksOk.ok k, trivial⟩) ⟨Tryz.func11, rfl, by kernel_rfl⟩ rfl
attribute [irreducible] f
end impl_BlocksValid
/-! loop.example/wholecheck/impl.wayOk$1 -/
namespace impl_wayOk_1
noncomputable def D : Fd := ⟨Tryz.f85, 1, .bool, .sh, [.sh, .sh], .unit, h95⟩
noncomputable def C (k : Nat) : Ctx := cx [(67, impl_in.sem k)] [] [] [] [] [] []
noncomputable def sem (k : Nat) : Sem := D.sem (D.ev (C k) k)
noncomputable def f (k : Nat) (p0 : Int) (p1 : (List Int)) : Option (Bool × Unit) := D.ev (C k) k (p0, p1, ())
theorem s (k : Nat) (p0 : Int) (p1 : (List Int)) : f k p0 p1 =
 ((impl_in.f k p0 0 (w64 (((p1.length : Int)) - 1))).bind fun r1 =>
 if (!r1.1) = true then
  some (true, ())
 else
  gd ((0 : Int) ≤ p0) <| gd (p0 < (p1.length : Int)) <| some ((p1.getD (p0.toNat) 0) != p0, ())) := by kernel_rfl
theorem ok (k : Nat) : Ok Tryz.prog 85 (sem k) := Fd.ok (cx_ok ⟨impl_in.ok k, trivial⟩) ⟨Tryz.func85, rfl, by kernel_rfl⟩ rfl
attribute [irreducible] f
end impl_wayOk_1
/-! slices.IndexFunc[[]int,int] -/
namespace slices_IndexFunc_int_int
noncomputable def D : Fd := ⟨Tryz.f117, 1, I, .sh, [.sh, .sh], .unit, h98⟩
noncomputable def C (k : Nat) : Ctx := cx [] [] [(2, [(0, none), (1, none), (7, none), (8, none)])] [] [] [] []
noncomputable def sem (k : Nat) : Sem := D.sem (D.ev (C k) k)
noncomputable def f (k : Nat) (p0 : (List Int)) (p1 : (Int → Option Bool)) : Option (Int × Unit) := D.ev (C k) k (p0, p1, ())
noncomputable def l2 (k : Nat) (p0 : (List Int)) (p1 : (Int → Option Bool)) (n : Nat) (v8_2 : Int) : Option (Int × Unit) :=
 D.lp (C k) k 2 [1, 0, 1, 0] [] n [(8, vI v8_2), (7, vI ((p0.length : Int))), (1, vS h96 p1), (0, vS h7 p0)]
theorem s2 (k : Nat) (p0 : (List Int)) (p1 : (Int → Option Bool)) (n : Nat) (v8_2 : Int) : l2 k p0 p1 (n + 1) v8_2 =
 (if (decide (v8_2 < ((p0.length : Int)))) = true then
  gd ((0 : Int) ≤ v8_2) <| gd (v8_2 < (p0.length : Int)) <| (p1 (p0.getD (v8_2.toNat) 0)).bind fun r1 =>
  if r1 = true then
   some (v8_2, ())
  else
   l2 k p0 p1 n (w64 (v8_2 + 1))
 else
  some ((-1), ())) := by kernel_rfl
theorem s (k : Nat) (p0 : (List Int)) (p1 : (Int → Option Bool)) : f k p0 p1 =
 (l2 k p0 p1 k 0) := by kernel_rfl
theorem ok (k : Nat) : Ok Tryz.prog 117 (sem k) := Fd.ok (cx_ok trivial) ⟨Tryz.func117, rfl, by kernel_rfl⟩ rfl
attribute [irreducible] f l2
end slices_IndexFunc_int_int
/-! slices.ContainsFunc[[]int,int] -/
namespace slices_ContainsFunc_int_int
noncomputable def D : Fd := ⟨Tryz.f84, 1, .bool, .sh, [.sh, .sh], .unit, h98⟩
noncomputable def C (k : Nat) : Ctx := cx [(117, slices_IndexFunc_int_int.sem k)] [] [] [] [] [] []
noncomputable def sem (k : Nat) : Sem := D.sem (D.ev (C k) k)
noncomputable def f (k : Nat) (p0 : (List Int)) (p1 : (Int → Option Bool)) : Option (Bool × Unit) := D.ev (C k) k (p0, p1, ())
theorem s (k : Nat) (p0 : (List Int)) (p1 : (Int → Option Bool)) : f k p0 p1 =
 ((slices_IndexFunc_int_int.f k p0 p1).bind fun r1 =>
 some (decide (r1.1 ≥ 0), ())) := by kernel_rfl
theorem ok (k : Nat) : Ok Tryz.prog 84 (sem k) := Fd.ok (cx_ok ⟨slices_IndexFunc_int_int.ok k, trivial⟩) ⟨Tryz.func84, rfl, by kernel_rfl⟩ rfl
attribute [irreducible] f
end slices_ContainsFunc_int_int
/-! loop.example/wholecheck/impl.wayOk -/
namespace impl_wayOk
noncomputable def D : Fd := ⟨Tryz.f45, 1, .bool, .sh, [.sh, .sh], .unit, h99⟩
noncomputable def C (k : Nat) : Ctx := cx [(67, impl_in.sem k), (85, impl_wayOk_1.sem k), (84, slices_ContainsFunc_int_int.sem k)] [] [] [] [] [] []
noncomputable def sem (k : Nat) : Sem := D.sem (D.ev (C k) k)
noncomputable def f (k : Nat) (p0 p1 : (List Int)) : Option (Bool × Unit) := D.ev (C k) k (p0, p1, ())
theorem s (k : Nat) (p0 p1 : (List Int)) : f k p0 p1 =
 ((impl_in.f k ((p1.length : Int)) 1 500).bind fun r1 =>
 if r1.1 = true then
  (slices_ContainsFunc_int_int.f k p1 (fun p => (impl_wayOk_1.f k p p0).bind fun r => some r.1)).bind fun r2 =>
  some (!r2.1, ())
 else
  some (false, ())) := by kernel_rfl
theorem ok (k : Nat) : Ok Tryz.prog 45 (sem k) := Fd.ok (cx_ok ⟨impl_in.ok k, impl_wayOk_1.ok k, slices_ContainsFunc_int_int.ok k, trivial⟩) ⟨Tryz.func45, rfl, by kernel_rfl⟩ rfl
attribute [irreducible] f
end impl_wayOk
/-! loop.example/wholecheck/impl.stateAt -/
namespace impl_stateAt
noncomputable def D : Fd := ⟨Tryz.f98, 1, h7, (.ow .sh), [.sh, .sh], .unit, h58⟩
noncomputable def C (k : Nat) : Ctx := cx [] [] [(3, [(1, none), (2, none), (5, none), (6, none)])] [] [(7, [0, 1, 2, 3, 4, 5, 6, 7, 8, 9])] [] []
noncomputable def sem (k : Nat) : Sem := D.sem (D.ev (C k) k)
noncomputable def f (k : Nat) (p0 : y9) (p1 : Int) : Option ((List Int) × Unit) := D.ev (C k) k (p0, p1, ())
noncomputable def l3 (k : Nat) (p0 : y9) (n : Nat) (v1_3 : Int) (v5_3 : (List Int)) (v6_3 : Int) : Option ((List Int) × Unit) :=
 D.lp (C k) k 3 [1, 1, 0, 1, 0] [] n [(6, vI v6_3), (5, vO h7 v5_3), (2, .val h44 (.ow .sh) p0), (1, vI v1_3)]
theorem s3 (k : Nat) (p0 : y9) (n : Nat) (v1_3 : Int) (v5_3 : (List Int)) (v6_3 : Int) : l3 k p0 (n + 1) v1_3 v5_3 v6_3 =
 (if (decide (v6_3 ≥ 0)) = true then
  gd ((0 : Int) ≤ v6_3) <| gd (v6_3 < (p0.1.length : Int)) <| gd (((w64 ((w64 ((p0.1.getD (v6_3.toNat) (0, (0, 0))).2.1 - (p0.1.getD (v6_3.toNat) (0, (0, 0))).1)) + 1)) : Int) ≠ 0) <| gd ((0 : Int) ≤ v6_3) <| gd (v6_3 < (v5_3.length : Int)) <| gd (((w64 ((w64 ((p0.1.getD (v6_3.toNat) (0, (0, 0))).2.1 - (p0.1.getD (v6_3.toNat) (0, (0, 0))).1)) + 1)) : Int) ≠ 0) <| l3 k p0 n (w64 (v1_3.tdiv (w64 ((w64 ((p0.1.getD (v6_3.toNat) (0, (0, 0))).2.1 - (p0.1.getD (v6_3.toNat) (0, (0, 0))).1)) + 1)))) (v5_3.set (v6_3.toNat) (w64 ((p0.1.getD (v6_3.toNat) (0, (0, 0))).1 + (v1_3.tmod (w64 ((w64 ((p0.1.getD (v6_3.toNat) (0, (0, 0))).2.1 - (p0.1.getD (v6_3.toNat) (0, (0, 0))).1)) + 1)))))) (w64 (v6_3 - 1))
 else
  some (v5_3, ())) := by kernel_rfl
theorem s (k : Nat) (p0 : y9) (p1 : Int) : f k p0 p1 =
 (gd ((0 : Int) ≤ ((p0.1.length : Int))) <| gd ((((p0.1.length : Int)) : Int) ≤ 1099511627776) <| l3 k p0 k p1 ((List.replicate ((p0.1.length : Int)).toNat 0 : (List Int))) (w64 (((((List.replicate ((p0.1.length : Int)).toNat 0 : (List Int))).length : Int)) - 1))) := by kernel_rfl
theorem ok (k : Nat) : Ok Tryz.prog 98 (sem k) := Fd.ok (cx_ok trivial) ⟨Tryz.func98, rfl, by kernel_rfl⟩ rfl
attribute [irreducible] f l3
end impl_stateAt
/-! loop.example/wholecheck/impl.held -/
namespace impl_held
noncomputable def D : Fd := ⟨Tryz.f176, 1, I, .sh, [.sh], .unit, h5⟩
noncomputable def C (k : Nat) : Ctx := cx [] [] [] [] [] [] []
noncomputable def sem (k : Nat) : Sem := D.sem (D.ev (C k) k)
noncomputable def f (k : Nat) (p0 : Int) : Option (Int × Unit) := D.ev (C k) k (p0, ())
theorem s (k : Nat) (p0 : Int) : f k p0 =
 (some (mx (-9999) (mn 9999 p0), ())) := by kernel_rfl
theorem ok (k : Nat) : Ok Tryz.prog 176 (sem k) := Fd.ok (cx_ok trivial) ⟨Tryz.func176, rfl, by kernel_rfl⟩ rfl
attribute [irreducible] f
end impl_held
/-! loop.example/wholecheck/impl.bit -/
namespace impl_bit
noncomputable def D : Fd := ⟨Tryz.f70, 1, I, .sh, [.sh], .unit, h59⟩
noncomputable def C (k : Nat) : Ctx := cx [] [] [] [] [] [] []
noncomputable def sem (k : Nat) : Sem := D.sem (D.ev (C k) k)
noncomputable def f (k : Nat) (p0 : Bool) : Option (Int × Unit) := D.ev (C k) k (p0, ())
theorem s (k : Nat) (p0 : Bool) : f k p0 =
 (if p0 = true then
  some (1, ())
 else
  some (0, ())) := by kernel_rfl
theorem ok (k : Nat) : Ok Tryz.prog 70 (sem k) := Fd.ok (cx_ok trivial) ⟨Tryz.func70, rfl, by kernel_rfl⟩ rfl
attribute [irreducible] f
end impl_bit
/-! loop.example/wholecheck/impl.do -/
namespace impl_do
noncomputable def D : Fd := ⟨Tryz.f167, 1, I, .sh, [.sh, .sh, .sh], .unit, h18⟩
noncomputable def C (k : Nat) : Ctx := cx [(176, impl_held.sem k), (70, impl_bit.sem k)] [] [] [] [] [] []
noncomputable def sem (k : Nat) : Sem := D.sem (D.ev (C k) k)
noncomputable def f (k : Nat) (p0 p1 p2 : Int) : Option (Int × Unit) := D.ev (C k) k (p0, p1, p2, ())
theorem s (k : Nat) (p0 p1 p2 : Int) : f k p0 p1 p2 =
 (if (p0 == 2) = true then
  (impl_held.f k (w64 (p1 + p2))).bind fun r1 =>
  some (r1.1, ())
 else
  if (p0 == 3) = true then
   (impl_held.f k (w64 (p1 - p2))).bind fun r2 =>
   some (r2.1, ())
  else
   if (p0 == 4) = true then
    (impl_held.f k (w64 (p1 * p2))).bind fun r3 =>
    some (r3.1, ())
   else
    if (p0 == 5) = true then
     (impl_bit.f k (decide (p1 < p2))).bind fun r4 =>
     some (r4.1, ())
    else
     if (p0 == 6) = true then
      (impl_bit.f k (p1 == p2)).bind fun r5 =>
      some (r5.1, ())
     else
      if (p0 == 7) = true then
       some (w64 (1 - p1), ())
      else
       if (p0 == 8) = true then
        some (mn p1 p2, ())
       else
        some (mx p1 p2, ())) := by kernel_rfl
theorem ok (k : Nat) : Ok Tryz.prog 167 (sem k) := Fd.ok (cx_ok ⟨impl_held.ok k, impl_bit.ok k, trivial⟩) ⟨Tryz.func167, rfl, by kernel_rfl⟩ rfl
attribute [irreducible] f
end impl_do
/-! loop.example/wholecheck/impl.eval -/
namespace impl_eval
noncomputable def D : Fd := ⟨Tryz.f139, 1, I, .sh, [.sh, .sh], .unit, h60⟩
noncomputable def C (k : Nat) : Ctx := cx [(167, impl_do.sem k)] [] [(3, [(1, none), (5, none), (11, none), (12, none), (13, none)])] [] [(6, [0, 1, 2, 3, 4, 5, 6, 7, 8, 9, 10, 11, 12, 13, 14, 15, 16])] [] []
noncomputable def sem (k : Nat) : Sem := D.sem (D.ev (C k) k)
noncomputable def f (k : Nat) (p0 : y1) (p1 : (List Int)) : Option (Int × Unit) := D.ev (C k) k (p0, p1, ())
noncomputable def l3 (k : Nat) (p0 : y1) (p1 : (List Int)) (n : Nat) (v5_3 : (List Int)) (v13_3 : Int) : Option (Int × Unit) :=
 D.lp (C k) k 3 [1, 1, 0, 1, 0] [] n [(13, vI v13_3), (12, vI ((p0.length : Int))), (11, vS h13 p0), (5, vO h7 v5_3), (1, vS h7 p1)]
theorem s3 (k : Nat) (p0 : y1) (p1 : (List Int)) (n : Nat) (v5_3 : (List Int)) (v13_3 : Int) : l3 k p0 p1 (n + 1) v5_3 v13_3 =
 (if (decide (v13_3 < ((p0.length : Int)))) = true then
  gd ((0 : Int) ≤ v13_3) <| gd (v13_3 < (p0.length : Int)) <| if ((p0.getD (v13_3.toNat) (0, (0, (0, 0)))).1 == 0) = true then
   gd ((0 : Int) ≤ v13_3) <| gd (v13_3 < (v5_3.length : Int)) <| l3 k p0 p1 n (v5_3.set (v13_3.toNat) (p0.getD (v13_3.toNat) (0, (0, (0, 0)))).2.1) (w64 (v13_3 + 1))
  else
   if ((p0.getD (v13_3.toNat) (0, (0, (0, 0)))).1 == 1) = true then
    gd ((0 : Int) ≤ (p0.getD (v13_3.toNat) (0, (0, (0, 0)))).2.1) <| gd ((p0.getD (v13_3.toNat) (0, (0, (0, 0)))).2.1 < (p1.length : Int)) <| gd ((0 : Int) ≤ v13_3) <| gd (v13_3 < (v5_3.length : Int)) <| l3 k p0 p1 n (v5_3.set (v13_3.toNat) (p1.getD ((p0.getD (v13_3.toNat) (0, (0, (0, 0)))).2.1.toNat) 0)) (w64 (v13_3 + 1))
   else
    gd ((0 : Int) ≤ (p0.getD (v13_3.toNat) (0, (0, (0, 0)))).2.2.1) <| gd ((p0.getD (v13_3.toNat) (0, (0, (0, 0)))).2.2.1 < (v5_3.length : Int)) <| gd ((0 : Int) ≤ (p0.getD (v13_3.toNat) (0, (0, (0, 0)))).2.2.2) <| gd ((p0.getD (v13_3.toNat) (0, (0, (0, 0)))).2.2.2 < (v5_3.length : Int)) <| (impl_do.f k (p0.getD (v13_3.toNat) (0, (0, (0, 0)))).1 (v5_3.getD ((p0.getD (v13_3.toNat) (0, (0, (0, 0)))).2.2.1.toNat) 0) (v5_3.getD ((p0.getD (v13_3.toNat) (0, (0, (0, 0)))).2.2.2.toNat) 0)).bind fun r1 =>
    gd ((0 : Int) ≤ v13_3) <| gd (v13_3 < (v5_3.length : Int)) <| l3 k p0 p1 n (v5_3.set (v13_3.toNat) r1.1) (w64 (v13_3 + 1))
 else
  gd ((0 : Int) ≤ (w64 (((v5_3.length : Int)) - 1))) <| gd ((w64 (((v5_3.length : Int)) - 1)) < (v5_3.length : Int)) <| some (v5_3.getD ((w64 (((v5_3.length : Int)) - 1)).toNat) 0, ())) := by kernel_rfl
theorem s (k : Nat) (p0 : y1) (p1 : (List Int)) : f k p0 p1 =
 (gd ((0 : Int) ≤ ((p0.length : Int))) <| gd ((((p0.length : Int)) : Int) ≤ 1099511627776) <| l3 k p0 p1 k ((List.replicate ((p0.length : Int)).toNat 0 : (List Int))) 0) := by kernel_rfl
theorem ok (k : Nat) : Ok Tryz.prog 139 (sem k) := Fd.ok (cx_ok ⟨impl_do.ok k, trivial⟩) ⟨Tryz.func139, rfl, by kernel_rfl⟩ rfl
attribute [irreducible] f l3
end impl_eval
/-! loop.example/wholecheck/impl.clone[int] -/
namespace impl_clone_int
noncomputable def D : Fd := ⟨Tryz.f78, 1, h7, (.ow .sh), [.sh], .unit, h8⟩
noncomputable def C (k : Nat) : Ctx := cx [] [] [] [] [] [] []
noncomputable def sem (k : Nat) : Sem := D.sem (D.ev (C k) k)
noncomputable def f (k : Nat) (p0 : (List Int)) : Option ((List Int) × Unit) := D.ev (C k) k (p0, ())
theorem s (k : Nat) (p0 : (List Int)) : f k p0 =
 (if (((p0.length : Int)) == 0) = true then
  some ([], ())
 else
  gd ((0 : Int) ≤ ((p0.length : Int))) <| gd ((((p0.length : Int)) : Int) ≤ 1099511627776) <| some (p0.take ((List.replicate ((p0.length : Int)).toNat 0 : (List Int))).length ++ ((List.replicate ((p0.length : Int)).toNat 0 : (List Int))).drop p0.length, ())) := by kernel_rfl
theorem ok (k : Nat) : Ok Tryz.prog 78 (sem k) := Fd.ok (cx_ok trivial) ⟨Tryz.func78, rfl, by kernel_rfl⟩ rfl
attribute [irreducible] f
end impl_clone_int
/-! loop.example/wholecheck/impl.inRange -/
namespace impl_inRange
noncomputable def D : Fd := ⟨Tryz.f140, 1, .bool, .sh, [.sh, .sh], .unit, h70⟩
noncomputable def C (k : Nat) : Ctx := cx [(67, impl_in.sem k)] [] [(4, [(1, none), (14, none), (15, none), (16, none)])] [] [(6, [0, 1, 2, 3, 4, 5, 6, 7, 8, 9])] [] []
noncomputable def sem (k : Nat) : Sem := D.sem (D.ev (C k) k)
noncomputable def f (k : Nat) (p0 : y9) (p1 : (List Int)) : Option (Bool × Unit) := D.ev (C k) k (p0, p1, ())
noncomputable def l4 (k : Nat) (p0 : y9) (p1 : (List Int)) (n : Nat) (v16_4 : Int) : Option (Bool × Unit) :=
 D.lp (C k) k 4 [1, 1, 0, 1, 0] [] n [(16, vI v16_4), (15, vI ((p0.1.length : Int))), (14, vS h26 p0.1), (1, vS h7 p1)]
theorem s4 (k : Nat) (p0 : y9) (p1 : (List Int)) (n : Nat) (v16_4 : Int) : l4 k p0 p1 (n + 1) v16_4 =
 (if (decide (v16_4 < ((p0.1.length : Int)))) = true then
  gd ((0 : Int) ≤ v16_4) <| gd (v16_4 < (p0.1.length : Int)) <| gd ((0 : Int) ≤ v16_4) <| gd (v16_4 < (p1.length : Int)) <| (impl_in.f k (p1.getD (v16_4.toNat) 0) (p0.1.getD (v16_4.toNat) (0, (0, 0))).1 (p0.1.getD (v16_4.toNat) (0, (0, 0))).2.1).bind fun r1 =>
  if (!r1.1) = true then
   some (false, ())
  else
   l4 k p0 p1 n (w64 (v16_4 + 1))
 else
  some (true, ())) := by kernel_rfl
theorem s (k : Nat) (p0 : y9) (p1 : (List Int)) : f k p0 p1 =
 (if (((p1.length : Int)) != ((p0.1.length : Int))) = true then
  some (false, ())
 else
  l4 k p0 p1 k 0) := by kernel_rfl
theorem ok (k : Nat) : Ok Tryz.prog 140 (sem k) := Fd.ok (cx_ok ⟨impl_in.ok k, trivial⟩) ⟨Tryz.func140, rfl, by kernel_rfl⟩ rfl
attribute [irreducible] f l4
end impl_inRange
/-! loop.example/wholecheck/impl.use -/
namespace impl_use
noncomputable def D : Fd := ⟨Tryz.f121, 2, h77, (.pr (.ow .sh) .sh), [.sh, .sh, .sh], .unit, h71⟩
noncomputable def C (k : Nat) : Ctx := cx [(139, impl_eval.sem k), (78, impl_clone_int.sem k), (140, impl_inRange.sem k)] [] [(6, [(1, none), (3, none), (8, none), (9, none), (25, none), (26, none), (27, none)])] [] [] [] []
noncomputable def sem (k : Nat) : Sem := D.sem (D.ev (C k) k)
noncomputable def f (k : Nat) (p0 : y9) (p1 : (List Int)) (p2 : Int) : Option (((List Int) × Bool) × Unit) := D.ev (C k) k (p0, p1, p2, ())
noncomputable def l6 (k : Nat) (p0 : y9) (p1 : (List Int)) (p2 : Int) (n : Nat) (v9_6 : (List Int)) (v27_6 : Int) : Option (((List Int) × Bool) × Unit) :=
 D.lp (C k) k 6 [1, 1, 1, 1, 0, 1, 0] [] n [(27, vI v27_6), (26, vI (((p0.2.getD (p2.toNat) ([], ([], []))).2.1.length : Int))), (25, vS h7 (p0.2.getD (p2.toNat) ([], ([], []))).2.1), (9, vO h7 v9_6), (8, .val h41 (.ow .sh) (p0.2.getD (p2.toNat) ([], ([], [])))), (3, .val h44 (.ow .sh) p0), (1, vS h7 p1)]
theorem s6 (k : Nat) (p0 : y9) (p1 : (List Int)) (p2 : Int) (n : Nat) (v9_6 : (List Int)) (v27_6 : Int) : l6 k p0 p1 p2 (n + 1) v9_6 v27_6 =
 (if (decide (v27_6 < (((p0.2.getD (p2.toNat) ([], ([], []))).2.1.length : Int)))) = true then
  gd ((0 : Int) ≤ v27_6) <| gd (v27_6 < ((p0.2.getD (p2.toNat) ([], ([], []))).2.1.length : Int)) <| gd ((0 : Int) ≤ v27_6) <| gd (v27_6 < ((p0.2.getD (p2.toNat) ([], ([], []))).2.2.length : Int)) <| (impl_eval.f k ((p0.2.getD (p2.toNat) ([], ([], []))).2.2.getD (v27_6.toNat) []) p1).bind fun r3 =>
  gd ((0 : Int) ≤ ((p0.2.getD (p2.toNat) ([], ([], []))).2.1.getD (v27_6.toNat) 0)) <| gd (((p0.2.getD (p2.toNat) ([], ([], []))).2.1.getD (v27_6.toNat) 0) < (v9_6.length : Int)) <| l6 k p0 p1 p2 n (v9_6.set (((p0.2.getD (p2.toNat) ([], ([], []))).2.1.getD (v27_6.toNat) 0).toNat) r3.1) (w64 (v27_6 + 1))
 else
  (impl_inRange.f k p0 v9_6).bind fun r4 =>
  if (!r4.1) = true then
   some (([], false), ())
  else
   some ((v9_6, true), ())) := by kernel_rfl
theorem s (k : Nat) (p0 : y9) (p1 : (List Int)) (p2 : Int) : f k p0 p1 p2 =
 (gd ((0 : Int) ≤ p2) <| gd (p2 < (p0.2.length : Int)) <| (impl_eval.f k (p0.2.getD (p2.toNat) ([], ([], []))).1 p1).bind fun r1 =>
 if (r1.1 == 0) = true then
  some (([], false), ())
 else
  (impl_clone_int.f k p1).bind fun r2 =>
  l6 k p0 p1 p2 k r2.1 0) := by kernel_rfl
theorem ok (k : Nat) : Ok Tryz.prog 121 (sem k) := Fd.ok (cx_ok ⟨impl_eval.ok k, impl_clone_int.ok k, impl_inRange.ok k, trivial⟩) ⟨Tryz.func121, rfl, by kernel_rfl⟩ rfl
attribute [irreducible] f l6
end impl_use
/-! cmp.isNaN[int] -/
namespace cmp_isNaN_int
noncomputable def D : Fd := ⟨Tryz.f168, 1, .bool, .sh, [.sh], .unit, h5⟩
noncomputable def C (k : Nat) : Ctx := cx [] [] [] [] [] [] []
noncomputable def sem (k : Nat) : Sem := D.sem (D.ev (C k) k)
noncomputable def f (k : Nat) (p0 : Int) : Option (Bool × Unit) := D.ev (C k) k (p0, ())
theorem s (k : Nat) (p0 : Int) : f k p0 =
 (some (p0 != p0, ())) := by kernel_rfl
theorem ok (k : Nat) : Ok Tryz.prog 168 (sem k) := Fd.ok (cx_ok trivial) ⟨Tryz.func168, rfl, by kernel_rfl⟩ rfl
attribute [irreducible] f
end cmp_isNaN_int
/-! cmp.Compare[int] -/
namespace cmp_Compare_int
noncomputable def D : Fd := ⟨Tryz.f141, 1, I, .sh, [.sh, .sh], .unit, h17⟩
noncomputable def C (k : Nat) : Ctx := cx [(168, cmp_isNaN_int.sem k)] [] [] [] [] [] []
noncomputable def sem (k : Nat) : Sem := D.sem (D.ev (C k) k)
noncomputable def f (k : Nat) (p0 p1 : Int) : Option (Int × Unit) := D.ev (C k) k (p0, p1, ())
theorem s (k : Nat) (p0 p1 : Int) : f k p0 p1 =
 ((cmp_isNaN_int.f k p0).bind fun r1 =>
 (cmp_isNaN_int.f k p1).bind fun r2 =>
 if r1.1 = true then
  if r2.1 = true then
   some (0, ())
  else
   some ((-1), ())
 else
  if r2.1 = true then
   some (1, ())
  else
   if (decide (p0 < p1)) = true then
    some ((-1), ())
   else
    if (decide (p0 > p1)) = true then
     some (1, ())
    else
     some (0, ())) := by kernel_rfl
theorem ok (k : Nat) : Ok Tryz.prog 141 (sem k) := Fd.ok (cx_ok ⟨cmp_isNaN_int.ok k, trivial⟩) ⟨Tryz.func141, rfl, by kernel_rfl⟩ rfl
attribute [irreducible] f
end cmp_Compare_int
/-! slices.Compare[[]int,int] -/
namespace slices_Compare_int_int
noncomputable def D : Fd := ⟨Tryz.f123, 1, I, .sh, [.sh, .sh], .unit, h49⟩
noncomputable def C (k : Nat) : Ctx := cx [(141, cmp_Compare_int.sem k)] [] [(2, [(0, none), (1, none), (9, none), (10, none), (11, none)])] [] [] [] []
noncomputable def sem (k : Nat) : Sem := D.sem (D.ev (C k) k)
noncomputable def f (k : Nat) (p0 p1 : (List Int)) : Option (Int × Unit) := D.ev (C k) k (p0, p1, ())
noncomputable def l2 (k : Nat) (p0 p1 : (List Int)) (n : Nat) (v11_2 : Int) : Option (Int × Unit) :=
 D.lp (C k) k 2 [1, 0, 1, 0] [] n [(11, vI v11_2), (10, vI ((p0.length : Int))), (9, vS h7 p0), (1, vS h7 p1), (0, vS h7 p0)]
theorem s2 (k : Nat) (p0 p1 : (List Int)) (n : Nat) (v11_2 : Int) : l2 k p0 p1 (n + 1) v11_2 =
 (if (decide (v11_2 < ((p0.length : Int)))) = true then
  gd ((0 : Int) ≤ v11_2) <| gd (v11_2 < (p0.length : Int)) <| if (decide (v11_2 ≥ ((p1.length : Int)))) = true then
   some (1, ())
  else
   gd ((0 : Int) ≤ v11_2) <| gd (v11_2 < (p1.length : Int)) <| (cmp_Compare_int.f k (p0.getD (v11_2.toNat) 0) (p1.getD (v11_2.toNat) 0)).bind fun r1 =>
   if (r1.1 != 0) = true then
    some (r1.1, ())
   else
    l2 k p0 p1 n (w64 (v11_2 + 1))
 else
  if (decide (((p0.length : Int)) < ((p1.length : Int)))) = true then
   some ((-1), ())
  else
   some (0, ())) := by kernel_rfl
theorem s (k : Nat) (p0 p1 : (List Int)) : f k p0 p1 =
 (l2 k p0 p1 k 0) := by kernel_rfl
theorem ok (k : Nat) : Ok Tryz.prog 123 (sem k) := Fd.ok (cx_ok ⟨cmp_Compare_int.ok k, trivial⟩) ⟨Tryz.func123, rfl, by kernel_rfl⟩ rfl
attribute [irreducible] f l2
end slices_Compare_int_int
/-! slices.BinarySearchFunc[[][]int,[]int,[]int] -/
namespace slices_BinarySearchFunc_int_int_int
noncomputable def D : Fd := ⟨Tryz.f122, 2, h100, (.pr .sh .sh), [.sh, .sh, .sh], .unit, h104⟩
noncomputable def C (k : Nat) : Ctx := cx [] [] [(3, [(0, none), (1, none), (2, none), (8, none), (9, none), (10, none)])] [] [] [] []
noncomputable def sem (k : Nat) : Sem := D.sem (D.ev (C k) k)
noncomputable def f (k : Nat) (p0 : (List (List Int))) (p1 : (List Int)) (p2 : y21) : Option ((Int × Bool) × Unit) := D.ev (C k) k (p0, p1, p2, ())
noncomputable def l3 (k : Nat) (p0 : (List (List Int))) (p1 : (List Int)) (p2 : y21) (n : Nat) (v9_3 v10_3 : Int) : Option ((Int × Bool) × Unit) :=
 D.lp (C k) k 3 [1, 1, 1, 0, 0] [] n [(10, vI v10_3), (9, vI v9_3), (8, vI ((p0.length : Int))), (2, vS h101 p2), (1, vS h7 p1), (0, vS h51 p0)]
theorem s3 (k : Nat) (p0 : (List (List Int))) (p1 : (List Int)) (p2 : y21) (n : Nat) (v9_3 v10_3 : Int) : l3 k p0 p1 p2 (n + 1) v9_3 v10_3 =
 (if (decide (v9_3 < v10_3)) = true then
  gd ((0 : Int) ≤ 1) <| gd ((0 : Int) ≤ (w64 ((IntKind.u64.wrap (w64 (v9_3 + v10_3))).fdiv (2 ^ (min (Int.toNat 1) IntKind.u64.bits))))) <| gd ((w64 ((IntKind.u64.wrap (w64 (v9_3 + v10_3))).fdiv (2 ^ (min (Int.toNat 1) IntKind.u64.bits)))) < (p0.length : Int)) <| (p2 (p0.getD ((w64 ((IntKind.u64.wrap (w64 (v9_3 + v10_3))).fdiv (2 ^ (min (Int.toNat 1) IntKind.u64.bits)))).toNat) [], (p1, ()))).bind fun r1 =>
  if (decide (r1 < 0)) = true then
   l3 k p0 p1 p2 n (w64 ((w64 ((IntKind.u64.wrap (w64 (v9_3 + v10_3))).fdiv (2 ^ (min (Int.toNat 1) IntKind.u64.bits)))) + 1)) v10_3
  else
   l3 k p0 p1 p2 n v9_3 (w64 ((IntKind.u64.wrap (w64 (v9_3 + v10_3))).fdiv (2 ^ (min (Int.toNat 1) IntKind.u64.bits))))
 else
  if (decide (v9_3 < ((p0.length : Int)))) = true then
   gd ((0 : Int) ≤ v9_3) <| gd (v9_3 < (p0.length : Int)) <| (p2 (p0.getD (v9_3.toNat) [], (p1, ()))).bind fun r2 =>
   some ((v9_3, r2 == 0), ())
  else
   some ((v9_3, false), ())) := by kernel_rfl
theorem s (k : Nat) (p0 : (List (List Int))) (p1 : (List Int)) (p2 : y21) : f k p0 p1 p2 =
 (l3 k p0 p1 p2 k 0 ((p0.length : Int))) := by kernel_rfl
theorem ok (k : Nat) : Ok Tryz.prog 122 (sem k) := Fd.ok (cx_ok trivial) ⟨Tryz.func122, rfl, by kernel_rfl⟩ rfl
attribute [irreducible] f l3
end slices_BinarySearchFunc_int_int_int
/-! slices.Insert[[][]int,[]int] -/
namespace slices_Insert_int_int
noncomputable def sem (k : Nat) : Sem := mkSem [.move (.ow .sh), .sh, .move (.ow .sh)] 1 SII (.ow .sh) .unit (.pair SII (.pair I (.pair SII .unit))) insF
noncomputable def f (k : Nat) (p0 : List (List Int)) (p1 : Int) (p2 : List (List Int)) : Option (List (List Int) × Unit) := insF (p0, p1, p2, ())
theorem s (k : Nat) (p0 : List (List Int)) (p1 : Int) (p2 : List (List Int)) : f k p0 p1 p2 = (gd (0 ≤ p1) <| gd (p1 ≤ (p0.length : Int)) <| gd (0 < p2.length) <| gd ((p0.length : Int) + (p2.length : Int) ≤ LIM) <| some (p0.take (Int.toNat p1) ++ p2 ++ p0.drop (Int.toNat p1), ())) := rfl
theorem ok (k : Nat) : Ok Tryz.prog 124 (sem k) := Giv.insert
attribute [irreducible] f
end slices_Insert_int_int
/-! loop.example/wholecheck/impl.clone[[]int] -/
namespace impl_clone_Lint
noncomputable def D : Fd := ⟨Tryz.f55, 1, h51, (.ow .sh), [.sh], .unit, h52⟩
noncomputable def C (k : Nat) : Ctx := cx [] [] [] [] [] [] []
noncomputable def sem (k : Nat) : Sem := D.sem (D.ev (C k) k)
noncomputable def f (k : Nat) (p0 : (List (List Int))) : Option ((List (List Int)) × Unit) := D.ev (C k) k (p0, ())
theorem s (k : Nat) (p0 : (List (List Int))) : f k p0 =
 (if (((p0.length : Int)) == 0) = true then
  some ([], ())
 else
  gd ((0 : Int) ≤ ((p0.length : Int))) <| gd ((((p0.length : Int)) : Int) ≤ 1099511627776) <| some (p0.take ((List.replicate ((p0.length : Int)).toNat [] : (List (List Int)))).length ++ ((List.replicate ((p0.length : Int)).toNat [] : (List (List Int)))).drop p0.length, ())) := by kernel_rfl
theorem ok (k : Nat) : Ok Tryz.prog 55 (sem k) := Fd.ok (cx_ok trivial) ⟨Tryz.func55, rfl, by kernel_rfl⟩ rfl
attribute [irreducible] f
end impl_clone_Lint
/-! loop.example/wholecheck/impl.nextStates -/
namespace impl_nextStates
noncomputable def D : Fd := ⟨Tryz.f97, 1, h51, (.ow .sh), [.sh, .sh], .unit, h70⟩
noncomputable def C (k : Nat) : Ctx := cx [(121, impl_use.sem k), (123, slices_Compare_int_int.sem k), (122, slices_BinarySearchFunc_int_int_int.sem k), (124, slices_Insert_int_int.sem k), (55, impl_clone_Lint.sem k)] [] [(3, [(1, none), (2, none), (5, some (h51, (.ow .sh))), (13, none), (14, none)])] [] [] [] []
noncomputable def sem (k : Nat) : Sem := D.sem (D.ev (C k) k)
noncomputable def f (k : Nat) (p0 : y9) (p1 : (List Int)) : Option ((List (List Int)) × Unit) := D.ev (C k) k (p0, p1, ())
noncomputable def l3 (k : Nat) (p0 : y9) (p1 : (List Int)) (n : Nat) (v5_3 : (List (List Int))) (v14_3 : Int) : Option ((List (List Int)) × Unit) :=
 D.lp (C k) k 3 [1, 1, 0, 1, 0] [] n [(14, vI v14_3), (13, vI ((p0.2.length : Int))), (5, .val h51 (.ow .sh) v5_3), (2, .val h44 (.ow .sh) p0), (1, vS h7 p1)]
theorem s3 (k : Nat) (p0 : y9) (p1 : (List Int)) (n : Nat) (v5_3 : (List (List Int))) (v14_3 : Int) : l3 k p0 p1 (n + 1) v5_3 v14_3 =
 (if (decide (v14_3 < ((p0.2.length : Int)))) = true then
  (impl_use.f k p0 p1 v14_3).bind fun r1 =>
  if r1.1.2 = true then
   (slices_BinarySearchFunc_int_int_int.f k v5_3 r1.1.1 (fun p => (slices_Compare_int_int.f k p.1 p.2.1).bind fun r => some r.1)).bind fun r2 =>
   if (!r2.1.2) = true then
    (slices_Insert_int_int.f k v5_3 r2.1.1 [r1.1.1]).bind fun r3 =>
    l3 k p0 p1 n r3.1 (w64 (v14_3 + 1))
   else
    l3 k p0 p1 n v5_3 (w64 (v14_3 + 1))
  else
   l3 k p0 p1 n v5_3 (w64 (v14_3 + 1))
 else
  (impl_clone_Lint.f k v5_3).bind fun r4 =>
  some (r4.1, ())) := by kernel_rfl
theorem s (k : Nat) (p0 : y9) (p1 : (List Int)) : f k p0 p1 =
 (l3 k p0 p1 k [] 0) := by kernel_rfl
theorem ok (k : Nat) : Ok Tryz.prog 97 (sem k) := Fd.ok (cx_ok ⟨impl_use.ok k, slices_Compare_int_int.ok k, slices_BinarySearchFunc_int_int_int.ok k, slices_Insert_int_int.ok k, impl_clone_Lint.ok k, trivial⟩) ⟨Tryz.func97, rfl, by kernel_rfl⟩ rfl
attribute [irreducible] f l3
end impl_nextStates
/-! loop.example/wholecheck/impl.number -/
namespace impl_number
noncomputable def D : Fd := ⟨Tryz.f80, 1, I, .sh, [.sh, .sh], .unit, h70⟩
noncomputable def C (k : Nat) : Ctx := cx [] [((5, 16), 3)] [(3, [(1, none), (5, none), (9, none), (10, none), (11, none)])] [] [(5, [0, 1, 2, 3, 4, 5, 6, 7, 8, 9, 10, 11, 12, 13, 14, 15, 16])] [] []
noncomputable def sem (k : Nat) : Sem := D.sem (D.ev (C k) k)
noncomputable def f (k : Nat) (p0 : y9) (p1 : (List Int)) : Option (Int × Unit) := D.ev (C k) k (p0, p1, ())
noncomputable def l3 (k : Nat) (p0 : y9) (p1 : (List Int)) (n : Nat) (v5_3 v11_3 : Int) : Option (Int × Unit) :=
 D.lp (C k) k 3 [1, 1, 0, 1, 0] [] n [(11, vI v11_3), (10, vI ((p0.1.length : Int))), (9, vS h26 p0.1), (5, vI v5_3), (1, vS h7 p1)]
theorem s3 (k : Nat) (p0 : y9) (p1 : (List Int)) (n : Nat) (v5_3 v11_3 : Int) : l3 k p0 p1 (n + 1) v5_3 v11_3 =
 (if (decide (v11_3 < ((p0.1.length : Int)))) = true then
  gd ((0 : Int) ≤ v11_3) <| gd (v11_3 < (p0.1.length : Int)) <| gd ((0 : Int) ≤ v11_3) <| gd (v11_3 < (p1.length : Int)) <| l3 k p0 p1 n (w64 ((w64 ((w64 (v5_3 * (w64 ((w64 ((p0.1.getD (v11_3.toNat) (0, (0, 0))).2.1 - (p0.1.getD (v11_3.toNat) (0, (0, 0))).1)) + 1)))) + (p1.getD (v11_3.toNat) 0))) - (p0.1.getD (v11_3.toNat) (0, (0, 0))).1)) (w64 (v11_3 + 1))
 else
  some (v5_3, ())) := by kernel_rfl
theorem s (k : Nat) (p0 : y9) (p1 : (List Int)) : f k p0 p1 =
 (l3 k p0 p1 k 0 0) := by kernel_rfl
theorem ok (k : Nat) : Ok Tryz.prog 80 (sem k) := Fd.ok (cx_ok trivial) ⟨Tryz.func80, rfl, by kernel_rfl⟩ rfl
attribute [irreducible] f l3
end impl_number
/-! loop.example/wholecheck/impl.nexts -/
namespace impl_nexts
noncomputable def D : Fd := ⟨Tryz.f53, 1, h51, (.ow (.ow .sh)), [.sh], .unit, h48⟩
noncomputable def C (k : Nat) : Ctx := cx [(58, impl_size.sem k), (98, impl_stateAt.sem k), (97, impl_nextStates.sem k), (80, impl_number.sem k)] [((8, 10), 4)] [(3, [(1, none), (3, none), (12, none), (13, none)]), (6, [(1, none), (3, none), (4, none), (12, none), (13, none), (20, none), (21, none), (22, none)])] [] [(5, [0, 1, 2, 6, 3, 4, 5]), (8, [0, 1, 2, 3, 4, 5, 6, 7, 8, 9, 10, 11, 12])] [((5, 3), [1]), ((8, 8), [3]), ((8, 9), [3])] []
noncomputable def sem (k : Nat) : Sem := D.sem (D.ev (C k) k)
noncomputable def f (k : Nat) (p0 : y9) : Option ((List (List Int)) × Unit) := D.ev (C k) k (p0, ())
noncomputable def l3 (k : Nat) (p0 : y9) (n : Nat) (v3_3 : (List (List Int))) (v12_3 v13_3 : Int) : Option ((List (List Int)) × Unit) :=
 D.lp (C k) k 3 [1, 1, 0, 1, 0] [] n [(13, vI v13_3), (12, vI v12_3), (3, vO h51 v3_3), (1, .val h44 (.ow .sh) p0)]
noncomputable def l6 (k n3 : Nat) (p0 : y9) (v12_3 v13_3 : Int) (n : Nat) (v3_6 v20_6 : (List (List Int))) (v21_6 v22_6 : Int) : Option ((List (List Int)) × Unit) :=
 D.lp (C k) k 6 [1, 1, 0, 1, 0, 0, 1, 1, 0, 0, 1, 1, 0] [n3] n [(22, vI v22_6), (21, vI v21_6), (20, .val h51 (.ow .sh) v20_6), (13, vI v13_3), (12, vI v12_3), (4, vI v13_3), (3, vO h51 v3_6), (1, .val h44 (.ow .sh) p0)]
theorem s6 (k n3 : Nat) (p0 : y9) (v12_3 v13_3 : Int) (n : Nat) (v3_6 v20_6 : (List (List Int))) (v21_6 v22_6 : Int) : l6 k n3 p0 v12_3 v13_3 (n + 1) v3_6 v20_6 v21_6 v22_6 =
 (if (decide (v22_6 < v21_6)) = true then
  gd ((0 : Int) ≤ v22_6) <| gd (v22_6 < (v20_6.length : Int)) <| gd ((0 : Int) ≤ v13_3) <| gd (v13_3 < (v3_6.length : Int)) <| (impl_number.f k p0 (v20_6.getD (v22_6.toNat) [])).bind fun r4 =>
  gd (((v3_6.getD (v13_3.toNat) []).length : Int) + ([r4.1].length : Int) ≤ 1099511627776) <| gd ((0 : Int) ≤ v13_3) <| gd (v13_3 < (v3_6.length : Int)) <| gd (((v13_3.toNat) : Nat) = (v13_3.toNat)) <| l6 k n3 p0 v12_3 v13_3 n (v3_6.set (v13_3.toNat) ((v3_6.getD (v13_3.toNat) []) ++ [r4.1])) v20_6 v21_6 (w64 (v22_6 + 1))
 else
  l3 k p0 n3 v3_6 v12_3 (w64 (v13_3 + 1))) := by kernel_rfl
theorem s3 (k : Nat) (p0 : y9) (n : Nat) (v3_3 : (List (List Int))) (v12_3 v13_3 : Int) : l3 k p0 (n + 1) v3_3 v12_3 v13_3 =
 (if (decide (v13_3 < v12_3)) = true then
  (impl_stateAt.f k p0 v13_3).bind fun r2 =>
  (impl_nextStates.f k p0 r2.1).bind fun r3 =>
  l6 k n p0 v12_3 v13_3 k v3_3 r3.1 ((r3.1.length : Int)) 0
 else
  some (v3_3, ())) := by kernel_rfl
theorem s (k : Nat) (p0 : y9) : f k p0 =
 ((impl_size.f k p0.1).bind fun r1 =>
 gd ((0 : Int) ≤ r1.1) <| gd ((r1.1 : Int) ≤ 1099511627776) <| l3 k p0 k ((List.replicate r1.1.toNat [] : (List (List Int)))) ((((List.replicate r1.1.toNat [] : (List (List Int)))).length : Int)) 0) := by kernel_rfl
theorem ok (k : Nat) : Ok Tryz.prog 53 (sem k) := Fd.ok (cx_ok ⟨impl_size.ok k, impl_stateAt.ok k, impl_nextStates.ok k, impl_number.ok k, trivial⟩) ⟨Tryz.func53, rfl, by kernel_rfl⟩ rfl
attribute [irreducible] f l3 l6
end impl_nexts
/-! loop.example/wholecheck/impl.first -/
namespace impl_first
noncomputable def D : Fd := ⟨Tryz.f81, 1, h7, (.ow .sh), [.sh], .unit, h48⟩
noncomputable def C (k : Nat) : Ctx := cx [(78, impl_clone_int.sem k)] [] [(3, [(3, none), (7, none), (8, none), (9, none)])] [] [] [] []
noncomputable def sem (k : Nat) : Sem := D.sem (D.ev (C k) k)
noncomputable def f (k : Nat) (p0 : y9) : Option ((List Int) × Unit) := D.ev (C k) k (p0, ())
noncomputable def l3 (k : Nat) (p0 : y9) (n : Nat) (v3_3 : (List Int)) (v9_3 : Int) : Option ((List Int) × Unit) :=
 D.lp (C k) k 3 [1, 1, 0, 1, 0] [] n [(9, vI v9_3), (8, vI ((p0.1.length : Int))), (7, vS h26 p0.1), (3, vO h83 v3_3)]
theorem s3 (k : Nat) (p0 : y9) (n : Nat) (v3_3 : (List Int)) (v9_3 : Int) : l3 k p0 (n + 1) v3_3 v9_3 =
 (if (decide (v9_3 < ((p0.1.length : Int)))) = true then
  gd ((0 : Int) ≤ v9_3) <| gd (v9_3 < (p0.1.length : Int)) <| gd ((v3_3.length : Int) + ([(p0.1.getD (v9_3.toNat) (0, (0, 0))).2.2].length : Int) ≤ 1099511627776) <| l3 k p0 n (v3_3 ++ [(p0.1.getD (v9_3.toNat) (0, (0, 0))).2.2]) (w64 (v9_3 + 1))
 else
  (impl_clone_int.f k v3_3).bind fun r1 =>
  some (r1.1, ())) := by kernel_rfl
theorem s (k : Nat) (p0 : y9) : f k p0 =
 (l3 k p0 k [] 0) := by kernel_rfl
theorem ok (k : Nat) : Ok Tryz.prog 81 (sem k) := Fd.ok (cx_ok ⟨impl_clone_int.ok k, trivial⟩) ⟨Tryz.func81, rfl, by kernel_rfl⟩ rfl
attribute [irreducible] f l3
end impl_first
/-! loop.example/wholecheck/impl.listOf -/
namespace impl_listOf
noncomputable def D : Fd := ⟨Tryz.f42, 1, h7, (.ow .sh), [.sh], .unit, h73⟩
noncomputable def C (k : Nat) : Ctx := cx [(78, impl_clone_int.sem k)] [] [(3, [(3, none), (6, none), (7, none), (8, none)])] [] [] [] []
noncomputable def sem (k : Nat) : Sem := D.sem (D.ev (C k) k)
noncomputable def f (k : Nat) (p0 : (List Bool)) : Option ((List Int) × Unit) := D.ev (C k) k (p0, ())
noncomputable def l3 (k : Nat) (p0 : (List Bool)) (n : Nat) (v3_3 : (List Int)) (v8_3 : Int) : Option ((List Int) × Unit) :=
 D.lp (C k) k 3 [1, 1, 0, 1, 0] [] n [(8, vI v8_3), (7, vI ((p0.length : Int))), (6, vS h69 p0), (3, vO h83 v3_3)]
theorem s3 (k : Nat) (p0 : (List Bool)) (n : Nat) (v3_3 : (List Int)) (v8_3 : Int) : l3 k p0 (n + 1) v3_3 v8_3 =
 (if (decide (v8_3 < ((p0.length : Int)))) = true then
  gd ((0 : Int) ≤ v8_3) <| gd (v8_3 < (p0.length : Int)) <| if (p0.getD (v8_3.toNat) false) = true then
   gd ((v3_3.length : Int) + ([v8_3].length : Int) ≤ 1099511627776) <| l3 k p0 n (v3_3 ++ [v8_3]) (w64 (v8_3 + 1))
  else
   l3 k p0 n v3_3 (w64 (v8_3 + 1))
 else
  (impl_clone_int.f k v3_3).bind fun r1 =>
  some (r1.1, ())) := by kernel_rfl
theorem s (k : Nat) (p0 : (List Bool)) : f k p0 =
 (l3 k p0 k [] 0) := by kernel_rfl
theorem ok (k : Nat) : Ok Tryz.prog 42 (sem k) := Fd.ok (cx_ok ⟨impl_clone_int.ok k, trivial⟩) ⟨Tryz.func42, rfl, by kernel_rfl⟩ rfl
attribute [irreducible] f l3
end impl_listOf
/-! loop.example/wholecheck/impl.over -/
namespace impl_over
noncomputable def D : Fd := ⟨Tryz.f52, 1, h7, (.ow .sh), [.sh, .sh], .unit, h72⟩
noncomputable def C (k : Nat) : Ctx := cx [(42, impl_listOf.sem k)] [] [(3, [(0, none), (5, none), (13, none), (14, none), (15, none)]), (6, [(0, none), (5, none), (13, none), (14, none), (15, none), (22, none), (23, none), (24, none)])] [] [] [] []
noncomputable def sem (k : Nat) : Sem := D.sem (D.ev (C k) k)
noncomputable def f (k : Nat) (p0 : (List (List Int))) (p1 : (List Int)) : Option ((List Int) × Unit) := D.ev (C k) k (p0, p1, ())
noncomputable def l3 (k : Nat) (p0 : (List (List Int))) (p1 : (List Int)) (n : Nat) (v5_3 : (List Bool)) (v15_3 : Int) : Option ((List Int) × Unit) :=
 D.lp (C k) k 3 [1, 1, 0, 1, 0] [] n [(15, vI v15_3), (14, vI ((p1.length : Int))), (13, vS h7 p1), (5, vO h69 v5_3), (0, vS h51 p0)]
noncomputable def l6 (k n3 : Nat) (p0 : (List (List Int))) (p1 : (List Int)) (v15_3 : Int) (n : Nat) (v5_6 : (List Bool)) (v24_6 : Int) : Option ((List Int) × Unit) :=
 D.lp (C k) k 6 [1, 1, 0, 1, 0, 0, 1, 1, 0, 0, 1, 1, 0] [n3] n [(24, vI v24_6), (23, vI (((p0.getD ((p1.getD (v15_3.toNat) 0).toNat) []).length : Int))), (22, vS h7 (p0.getD ((p1.getD (v15_3.toNat) 0).toNat) [])), (15, vI v15_3), (14, vI ((p1.length : Int))), (13, vS h7 p1), (5, vO h69 v5_6), (0, vS h51 p0)]
theorem s6 (k n3 : Nat) (p0 : (List (List Int))) (p1 : (List Int)) (v15_3 : Int) (n : Nat) (v5_6 : (List Bool)) (v24_6 : Int) : l6 k n3 p0 p1 v15_3 (n + 1) v5_6 v24_6 =
 (if (decide (v24_6 < (((p0.getD ((p1.getD (v15_3.toNat) 0).toNat) []).length : Int)))) = true then
  gd ((0 : Int) ≤ v24_6) <| gd (v24_6 < ((p0.getD ((p1.getD (v15_3.toNat) 0).toNat) []).length : Int)) <| gd ((0 : Int) ≤ ((p0.getD ((p1.getD (v15_3.toNat) 0).toNat) []).getD (v24_6.toNat) 0)) <| gd (((p0.getD ((p1.getD (v15_3.toNat) 0).toNat) []).getD (v24_6.toNat) 0) < (v5_6.length : Int)) <| l6 k n3 p0 p1 v15_3 n (v5_6.set (((p0.getD ((p1.getD (v15_3.toNat) 0).toNat) []).getD (v24_6.toNat) 0).toNat) true) (w64 (v24_6 + 1))
 else
  l3 k p0 p1 n3 v5_6 (w64 (v15_3 + 1))) := by kernel_rfl
theorem s3 (k : Nat) (p0 : (List (List Int))) (p1 : (List Int)) (n : Nat) (v5_3 : (List Bool)) (v15_3 : Int) : l3 k p0 p1 (n + 1) v5_3 v15_3 =
 (if (decide (v15_3 < ((p1.length : Int)))) = true then
  gd ((0 : Int) ≤ v15_3) <| gd (v15_3 < (p1.length : Int)) <| gd ((0 : Int) ≤ (p1.getD (v15_3.toNat) 0)) <| gd ((p1.getD (v15_3.toNat) 0) < (p0.length : Int)) <| l6 k n p0 p1 v15_3 k v5_3 0
 else
  (impl_listOf.f k v5_3).bind fun r1 =>
  some (r1.1, ())) := by kernel_rfl
theorem s (k : Nat) (p0 : (List (List Int))) (p1 : (List Int)) : f k p0 p1 =
 (gd ((0 : Int) ≤ ((p0.length : Int))) <| gd ((((p0.length : Int)) : Int) ≤ 1099511627776) <| l3 k p0 p1 k ((List.replicate ((p0.length : Int)).toNat false : (List Bool))) 0) := by kernel_rfl
theorem ok (k : Nat) : Ok Tryz.prog 52 (sem k) := Fd.ok (cx_ok ⟨impl_listOf.ok k, trivial⟩) ⟨Tryz.func52, rfl, by kernel_rfl⟩ rfl
attribute [irreducible] f l3 l6
end impl_over
/-! slices.Clone[[]int,int] -/
namespace slices_Clone_int_int
noncomputable def sem (k : Nat) : Sem := mkSem [.sh] 1 SI (.ow .sh) .unit (.pair SI .unit) cloneF
noncomputable def f (k : Nat) (p0 : List Int) : Option (List Int × Unit) := cloneF (p0, ())
theorem s (k : Nat) (p0 : List Int) : f k p0 = (gd ((p0.length : Int) ≤ LIM) <| some (p0, ())) := rfl
theorem ok (k : Nat) : Ok Tryz.prog 87 (sem k) := Giv.clone
attribute [irreducible] f
end slices_Clone_int_int
/-! loop.example/wholecheck/impl.followBlocks$1 -/
namespace impl_followBlocks_1
noncomputable def D : Fd := ⟨Tryz.f88, 1, .bool, .sh, [.sh, .sh, .sh], .unit, h107⟩
noncomputable def C (k : Nat) : Ctx := cx [] [] [] [] [(1, [0, 1, 2, 3, 4, 5, 6, 7])] [] []
noncomputable def sem (k : Nat) : Sem := D.sem (D.ev (C k) k)
noncomputable def f (k : Nat) (p0 : Int) (p1 : (List Int)) (p2 : Int) : Option (Bool × Unit) := D.ev (C k) k (p0, p1, p2, ())
theorem s (k : Nat) (p0 : Int) (p1 : (List Int)) (p2 : Int) : f k p0 p1 p2 =
 (gd ((0 : Int) ≤ p0) <| gd (p0 < (p1.length : Int)) <| some ((p1.getD (p0.toNat) 0) != p2, ())) := by kernel_rfl
theorem ok (k : Nat) : Ok Tryz.prog 88 (sem k) := Fd.ok (cx_ok trivial) ⟨Tryz.func88, rfl, by kernel_rfl⟩ rfl
attribute [irreducible] f
end impl_followBlocks_1
/-! slices.DeleteFunc[[]int,int] -/
namespace slices_DeleteFunc_int_int
noncomputable def D : Fd := ⟨Tryz.f86, 1, h7, (.ow .sh), [.move (.ow .sh), .sh], .unit, h98⟩
noncomputable def C (k : Nat) : Ctx := cx [(117, slices_IndexFunc_int_int.sem k)] [((11, 2), 6), ((12, 2), 1)] [(5, [(0, none), (1, none), (5, none), (6, none)])] [] [] [] []
noncomputable def sem (k : Nat) : Sem := D.sem (D.ev (C k) k)
noncomputable def f (k : Nat) (p0 : (List Int)) (p1 : (Int → Option Bool)) : Option ((List Int) × Unit) := D.ev (C k) k (p0, p1, ())
noncomputable def l5 (k : Nat) (p1 : (Int → Option Bool)) (n : Nat) (v0_5 : (List Int)) (v5_5 v6_5 : Int) : Option ((List Int) × Unit) :=
 D.lp (C k) k 5 [1, 1, 1, 0, 1, 0] [] n [(6, vI v6_5), (5, vI v5_5), (1, vS h96 p1), (0, vO h7 v0_5)]
theorem s5 (k : Nat) (p1 : (Int → Option Bool)) (n : Nat) (v0_5 : (List Int)) (v5_5 v6_5 : Int) : l5 k p1 (n + 1) v0_5 v5_5 v6_5 =
 (if (decide (v6_5 < ((v0_5.length : Int)))) = true then
  gd ((0 : Int) ≤ v6_5) <| gd (v6_5 < (v0_5.length : Int)) <| (p1 (v0_5.getD (v6_5.toNat) 0)).bind fun r2 =>
  if (!r2) = true then
   gd ((0 : Int) ≤ v5_5) <| gd (v5_5 < (v0_5.length : Int)) <| l5 k p1 n (v0_5.set (v5_5.toNat) (v0_5.getD (v6_5.toNat) 0)) (w64 (v5_5 + 1)) (w64 (v6_5 + 1))
  else
   l5 k p1 n v0_5 v5_5 (w64 (v6_5 + 1))
 else
  gd ((0 : Int) ≤ v5_5) <| gd ((v5_5 : Int) ≤ (v0_5.length : Int)) <| gd ((0 : Int) ≤ 0) <| gd ((0 : Int) ≤ v5_5) <| gd (v5_5 ≤ ((v0_5.take (v5_5.toNat) ++ List.replicate (v0_5.length - (v5_5.toNat)) (0 : Int)).length : Int)) <| some (((v0_5.take (v5_5.toNat) ++ List.replicate (v0_5.length - (v5_5.toNat)) (0 : Int)).take (v5_5.toNat)).drop (Int.toNat 0), ())) := by kernel_rfl
theorem s (k : Nat) (p0 : (List Int)) (p1 : (Int → Option Bool)) : f k p0 p1 =
 ((slices_IndexFunc_int_int.f k p0 p1).bind fun r1 =>
 if (r1.1 == (-1)) = true then
  some (p0, ())
 else
  l5 k p1 k p0 r1.1 (w64 (r1.1 + 1))) := by kernel_rfl
theorem ok (k : Nat) : Ok Tryz.prog 86 (sem k) := Fd.ok (cx_ok ⟨slices_IndexFunc_int_int.ok k, trivial⟩) ⟨Tryz.func86, rfl, by kernel_rfl⟩ rfl
attribute [irreducible] f l5
end slices_DeleteFunc_int_int
/-! loop.example/wholecheck/impl.clone[[]int] -/
namespace impl_clone_Lint_mv
noncomputable def D : Fd := ⟨Tryz.f55, 1, h51, (.ow (.ow .sh)), [.move (.ow (.ow .sh))], .unit, h52⟩
noncomputable def C (k : Nat) : Ctx := cx [] [((4, 2), 5)] [] [] [] [] []
noncomputable def sem (k : Nat) : Sem := D.sem (D.ev (C k) k)
noncomputable def f (k : Nat) (p0 : (List (List Int))) : Option ((List (List Int)) × Unit) := D.ev (C k) k (p0, ())
theorem s (k : Nat) (p0 : (List (List Int))) : f k p0 =
 (if (((p0.length : Int)) == 0) = true then
  some ([], ())
 else
  gd ((0 : Int) ≤ ((p0.length : Int))) <| gd ((((p0.length : Int)) : Int) ≤ 1099511627776) <| gd (((List.replicate ((p0.length : Int)).toNat [] : (List (List Int)))).length = p0.length) <| some (p0, ())) := by kernel_rfl
theorem ok (k : Nat) : Ok Tryz.prog 55 (sem k) := Fd.ok (cx_ok trivial) ⟨Tryz.func55, rfl, by kernel_rfl⟩ rfl
attribute [irreducible] f
end impl_clone_Lint_mv
/-! loop.example/wholecheck/impl.followBlocks -/
namespace impl_followBlocks
noncomputable def D : Fd := ⟨Tryz.f46, 1, h51, (.ow (.ow .sh)), [.sh, .sh, .sh], .unit, h108⟩
noncomputable def C (k : Nat) : Ctx := cx [(53, impl_nexts.sem k), (81, impl_first.sem k), (80, impl_number.sem k), (52, impl_over.sem k), (87, slices_Clone_int_int.sem k), (88, impl_followBlocks_1.sem k), (86, slices_DeleteFunc_int_int.sem k), (55, impl_clone_Lint_mv.sem k), (78, impl_clone_int.sem k)] [] [(5, [(4, some (h53, .sh)), (7, none), (8, none), (9, none), (19, none), (20, none), (21, none)])] [] [(3, [0, 1, 2, 3, 4, 5])] [((3, 2), [3])] [(9, [(4, none), (7, none), (8, none), (9, none), (11, none), (19, none), (20, none), (21, none)])]
noncomputable def sem (k : Nat) : Sem := D.sem (D.ev (C k) k)
noncomputable def f (k : Nat) (p0 : y9) (p1 p2 : (List Int)) : Option ((List (List Int)) × Unit) := D.ev (C k) k (p0, p1, p2, ())
noncomputable def l5 (k : Nat) (p1 p2 : (List Int)) (n : Nat) (v7_5 v8_5 : (List (List Int))) (v9_5 : (List Int)) (v21_5 : Int) : Option ((List (List Int)) × Unit) :=
 D.lp (C k) k 5 [1, 1, 1, 1, 0, 1, 0] [] n [(21, vI v21_5), (20, vI ((p2.length : Int))), (19, vS h7 p2), (9, vO h7 v9_5), (8, vO h109 v8_5), (7, vO h51 v7_5), (4, vS h53 p1)]
noncomputable def lj9 (k n5 : Nat) (p1 p2 : (List Int)) (v21_5 : Int) (v7_5 v8_5 : (List (List Int))) (n : Nat) (v9_j9 : (List Int)) : Option ((List (List Int)) × Unit) :=
 D.jn (C k) k 9 [1, 1, 1, 1, 0, 1, 0, 0, 1, 1, 0, 0, 1] [n5] n [(21, vI v21_5), (20, vI ((p2.length : Int))), (19, vS h7 p2), (11, vO (.ptr I) (p2.getD (v21_5.toNat) 0)), (9, vO h7 v9_j9), (8, vO h109 v8_5), (7, vO h51 v7_5), (4, vS h53 p1)]
theorem sj9 (k n5 : Nat) (p1 p2 : (List Int)) (v21_5 : Int) (v7_5 v8_5 : (List (List Int))) (n : Nat) (v9_j9 : (List Int)) : lj9 k n5 p1 p2 v21_5 v7_5 v8_5 (n + 1) v9_j9 =
 ((slices_Clone_int_int.f k v9_j9).bind fun r5 =>
 (slices_DeleteFunc_int_int.f k r5.1 (fun p => (impl_followBlocks_1.f k p p1 (p2.getD (v21_5.toNat) 0)).bind fun r => some r.1)).bind fun r6 =>
 if (((r6.1.length : Int)) == 0) = true then
  (impl_clone_Lint_mv.f k v8_5).bind fun r7 =>
  some (r7.1, ())
 else
  (impl_clone_int.f k r6.1).bind fun r8 =>
  gd ((v8_5.length : Int) + ([r8.1].length : Int) ≤ 1099511627776) <| l5 k p1 p2 n5 v7_5 (v8_5 ++ [r8.1]) r6.1 (w64 (v21_5 + 1))) := by kernel_rfl
theorem s5 (k : Nat) (p1 p2 : (List Int)) (n : Nat) (v7_5 v8_5 : (List (List Int))) (v9_5 : (List Int)) (v21_5 : Int) : l5 k p1 p2 (n + 1) v7_5 v8_5 v9_5 v21_5 =
 (if (decide (v21_5 < ((p2.length : Int)))) = true then
  gd ((0 : Int) ≤ v21_5) <| gd (v21_5 < (p2.length : Int)) <| if (decide (v21_5 > 0)) = true then
   (impl_over.f k v7_5 v9_5).bind fun r4 =>
   lj9 k n p1 p2 v21_5 v7_5 v8_5 k r4.1
  else
   lj9 k n p1 p2 v21_5 v7_5 v8_5 k v9_5
 else
  (impl_clone_Lint_mv.f k v8_5).bind fun r9 =>
  some (r9.1, ())) := by kernel_rfl
theorem s (k : Nat) (p0 : y9) (p1 p2 : (List Int)) : f k p0 p1 p2 =
 ((impl_nexts.f k p0).bind fun r1 =>
 (impl_first.f k p0).bind fun r2 =>
 (impl_number.f k p0 r2.1).bind fun r3 =>
 l5 k p1 p2 k r1.1 [] [r3.1] 0) := by kernel_rfl
theorem ok (k : Nat) : Ok Tryz.prog 46 (sem k) := Fd.ok (cx_ok ⟨impl_nexts.ok k, impl_first.ok k, impl_number.ok k, impl_over.ok k, slices_Clone_int_int.ok k, impl_followBlocks_1.ok k, slices_DeleteFunc_int_int.ok k, impl_clone_Lint_mv.ok k, impl_clone_int.ok k, trivial⟩) ⟨Tryz.func46, rfl, by kernel_rfl⟩ rfl
attribute [irreducible] f l5 lj9
end impl_followBlocks
/-! loop.example/wholecheck/impl.FollowBlocks -/
namespace impl_FollowBlocks
noncomputable def D : Fd := ⟨Tryz.f17, 1, h51, (.ow (.ow .sh)), [.sh, .sh, .sh], .unit, h108⟩
noncomputable def C (k : Nat) : Ctx := cx [(11, impl_BlocksValid.sem k), (45, impl_wayOk.sem k), (46, impl_followBlocks.sem k)] [] [] [] [] [] []
noncomputable def sem (k : Nat) : Sem := D.sem (D.ev (C k) k)
noncomputable def f (k : Nat) (p0 : y9) (p1 p2 : (List Int)) : Option ((List (List Int)) × Unit) := D.ev (C k) k (p0, p1, p2, ())
theorem s (k : Nat) (p0 : y9) (p1 p2 : (List Int)) : f k p0 p1 p2 =
 ((impl_BlocksValid.f k p0 p1).bind fun r1 =>
 if (!r1.1) = true then
  some ([], ())
 else
  (impl_wayOk.f k p1 p2).bind fun r2 =>
  if (!r2.1) = true then
   some ([], ())
  else
   (impl_followBlocks.f k p0 p1 p2).bind fun r3 =>
   some (r3.1, ())) := by kernel_rfl
theorem ok (k : Nat) : Ok Tryz.prog 17 (sem k) := Fd.ok (cx_ok ⟨impl_BlocksValid.ok k, impl_wayOk.ok k, impl_followBlocks.ok k, trivial⟩) ⟨Tryz.func17, rfl, by kernel_rfl⟩ rfl
attribute [irreducible] f
end impl_FollowBlocks
/-! loop.example/wholecheck/spec.l29Way -/
namespace spec_l29Way
noncomputable def D : Fd := ⟨Tryz.f47, 1, .bool, .sh, [.sh, .sh, .sh], .unit, h108⟩
noncomputable def C (k : Nat) : Ctx := cx [(12, spec_BlocksValid.sem k), (39, spec_l1In.sem k)] [] [(4, [(2, none), (4, none), (7, none)])] [] [(6, [0, 1, 2, 3, 4, 5, 6, 7, 8, 9, 10, 11, 12, 13, 14, 15, 16, 17, 18, 19, 20, 21, 22, 23, 24])] [] []
noncomputable def sem (k : Nat) : Sem := D.sem (D.ev (C k) k)
noncomputable def f (k : Nat) (p0 : y9) (p1 p2 : (List Int)) : Option (Bool × Unit) := D.ev (C k) k (p0, p1, p2, ())
noncomputable def l4 (k : Nat) (p1 p2 : (List Int)) (n : Nat) (v7_4 : Int) : Option (Bool × Unit) :=
 D.lp (C k) k 4 [1, 1, 0, 1, 0] [] n [(7, vI v7_4), (4, .val h53 (.ow .sh) p1), (2, vS h7 p2)]
theorem s4 (k : Nat) (p1 p2 : (List Int)) (n : Nat) (v7_4 : Int) : l4 k p1 p2 (n + 1) v7_4 =
 (if (decide (v7_4 < ((p2.length : Int)))) = true then
  gd ((0 : Int) ≤ v7_4) <| gd (v7_4 < (p2.length : Int)) <| (spec_l1In.f k (p2.getD (v7_4.toNat) 0) 0 (w64 (((p1.length : Int)) - 1))).bind fun r3 =>
  if (!r3.1) = true then
   some (false, ())
  else
   gd ((0 : Int) ≤ v7_4) <| gd (v7_4 < (p2.length : Int)) <| gd ((0 : Int) ≤ (p2.getD (v7_4.toNat) 0)) <| gd ((p2.getD (v7_4.toNat) 0) < (p1.length : Int)) <| gd ((0 : Int) ≤ v7_4) <| gd (v7_4 < (p2.length : Int)) <| if ((p1.getD ((p2.getD (v7_4.toNat) 0).toNat) 0) != (p2.getD (v7_4.toNat) 0)) = true then
    some (false, ())
   else
    l4 k p1 p2 n (w64 (v7_4 + 1))
 else
  some (true, ())) := by kernel_rfl
theorem s (k : Nat) (p0 : y9) (p1 p2 : (List Int)) : f k p0 p1 p2 =
 ((spec_BlocksValid.f k p0 p1).bind fun r1 =>
 if (!r1.1) = true then
  some (false, ())
 else
  (spec_l1In.f k ((p2.length : Int)) 1 500).bind fun r2 =>
  if (!r2.1) = true then
   some (false, ())
  else
   l4 k p1 p2 k 0) := by kernel_rfl
theorem ok (k : Nat) : Ok Tryz.prog 47 (sem k) := Fd.ok (cx_ok ⟨spec_BlocksValid.ok k, spec_l1In.ok k, trivial⟩) ⟨Tryz.func47, rfl, by kernel_rfl⟩ rfl
attribute [irreducible] f l4
end spec_l29Way
/-! loop.example/wholecheck/spec.l29Block -/
namespace spec_l29Block
noncomputable def D : Fd := ⟨Tryz.f93, 1, h7, (.ow .sh), [.sh, .sh], .unit, h110⟩
noncomputable def C (k : Nat) : Ctx := cx [] [] [(3, [(1, none), (2, none), (5, none), (6, none)])] [] [] [] []
noncomputable def sem (k : Nat) : Sem := D.sem (D.ev (C k) k)
noncomputable def f (k : Nat) (p0 : (List Int)) (p1 : Int) : Option ((List Int) × Unit) := D.ev (C k) k (p0, p1, ())
noncomputable def l3 (k : Nat) (p0 : (List Int)) (p1 : Int) (n : Nat) (v5_3 : (List Int)) (v6_3 : Int) : Option ((List Int) × Unit) :=
 D.lp (C k) k 3 [1, 1, 0, 1, 0] [] n [(6, vI v6_3), (5, vO h7 v5_3), (2, .val h53 (.ow .sh) p0), (1, vI p1)]
theorem s3 (k : Nat) (p0 : (List Int)) (p1 : Int) (n : Nat) (v5_3 : (List Int)) (v6_3 : Int) : l3 k p0 p1 (n + 1) v5_3 v6_3 =
 (if (decide (v6_3 < ((p0.length : Int)))) = true then
  gd ((0 : Int) ≤ v6_3) <| gd (v6_3 < (p0.length : Int)) <| if ((p0.getD (v6_3.toNat) 0) == p1) = true then
   gd ((v5_3.length : Int) + ([v6_3].length : Int) ≤ 1099511627776) <| l3 k p0 p1 n (v5_3 ++ [v6_3]) (w64 (v6_3 + 1))
  else
   l3 k p0 p1 n v5_3 (w64 (v6_3 + 1))
 else
  some (v5_3, ())) := by kernel_rfl
theorem s (k : Nat) (p0 : (List Int)) (p1 : Int) : f k p0 p1 =
 (l3 k p0 p1 k [] 0) := by kernel_rfl
theorem ok (k : Nat) : Ok Tryz.prog 93 (sem k) := Fd.ok (cx_ok trivial) ⟨Tryz.func93, rfl, by kernel_rfl⟩ rfl
attribute [irreducible] f l3
end spec_l29Block
/-! loop.example/wholecheck/spec.l4Set -/
namespace spec_l4Set
noncomputable def D : Fd := ⟨Tryz.f138, 1, .bool, .sh, [.sh], .unit, h8⟩
noncomputable def C (k : Nat) : Ctx := cx [(39, spec_l1In.sem k)] [] [(2, [(0, none), (3, none)])] [] [(4, [0, 1, 2, 3, 4, 5, 6, 7, 8, 9, 10, 11, 12, 13, 14, 15, 16, 17, 18, 19, 20, 21])] [] []
noncomputable def sem (k : Nat) : Sem := D.sem (D.ev (C k) k)
noncomputable def f (k : Nat) (p0 : (List Int)) : Option (Bool × Unit) := D.ev (C k) k (p0, ())
noncomputable def l2 (k : Nat) (p0 : (List Int)) (n : Nat) (v3_2 : Int) : Option (Bool × Unit) :=
 D.lp (C k) k 2 [1, 0, 1, 0] [] n [(3, vI v3_2), (0, vS h7 p0)]
theorem s2 (k : Nat) (p0 : (List Int)) (n : Nat) (v3_2 : Int) : l2 k p0 (n + 1) v3_2 =
 (if (decide (v3_2 < ((p0.length : Int)))) = true then
  gd ((0 : Int) ≤ v3_2) <| gd (v3_2 < (p0.length : Int)) <| (spec_l1In.f k (p0.getD (v3_2.toNat) 0) 0 399).bind fun r1 =>
  if (!r1.1) = true then
   some (false, ())
  else
   if (decide (v3_2 > 0)) = true then
    gd ((0 : Int) ≤ v3_2) <| gd (v3_2 < (p0.length : Int)) <| gd ((0 : Int) ≤ (w64 (v3_2 - 1))) <| gd ((w64 (v3_2 - 1)) < (p0.length : Int)) <| if (decide ((p0.getD (v3_2.toNat) 0) ≤ (p0.getD ((w64 (v3_2 - 1)).toNat) 0))) = true then
     some (false, ())
    else
     l2 k p0 n (w64 (v3_2 + 1))
   else
    l2 k p0 n (w64 (v3_2 + 1))
 else
  some (true, ())) := by kernel_rfl
theorem s (k : Nat) (p0 : (List Int)) : f k p0 =
 (l2 k p0 k 0) := by kernel_rfl
theorem ok (k : Nat) : Ok Tryz.prog 138 (sem k) := Fd.ok (cx_ok ⟨spec_l1In.ok k, trivial⟩) ⟨Tryz.func138, rfl, by kernel_rfl⟩ rfl
attribute [irreducible] f l2
end spec_l4Set
/-! loop.example/wholecheck/spec.l4Mix -/
namespace spec_l4Mix
noncomputable def D : Fd := ⟨Tryz.f120, 1, h7, (.ow .sh), [.sh, .sh, .sh], .unit, h111⟩
noncomputable def C (k : Nat) : Ctx := cx [(138, spec_l4Set.sem k), (96, spec_l4Marks.sem k)] [] [(7, [(2, none), (7, none), (8, none), (9, none), (10, none)])] [] [] [] []
noncomputable def sem (k : Nat) : Sem := D.sem (D.ev (C k) k)
noncomputable def f (k : Nat) (p0 p1 : (List Int)) (p2 : Int) : Option ((List Int) × Unit) := D.ev (C k) k (p0, p1, p2, ())
noncomputable def l7 (k : Nat) (p2 : Int) (n : Nat) (v7_7 : (List Int)) (v8_7 v9_7 : (List Bool)) (v10_7 : Int) : Option ((List Int) × Unit) :=
 D.lp (C k) k 7 [1, 1, 1, 1, 1, 0, 1, 0] [] n [(10, vI v10_7), (9, vO h69 v9_7), (8, vO h69 v8_7), (7, vO h7 v7_7), (2, vI p2)]
theorem s7 (k : Nat) (p2 : Int) (n : Nat) (v7_7 : (List Int)) (v8_7 v9_7 : (List Bool)) (v10_7 : Int) : l7 k p2 (n + 1) v7_7 v8_7 v9_7 v10_7 =
 (if (decide (v10_7 < 400)) = true then
  if (p2 == 0) = true then
   gd ((0 : Int) ≤ v10_7) <| gd (v10_7 < (v8_7.length : Int)) <| if (v8_7.getD (v10_7.toNat) false) = true then
    gd ((0 : Int) ≤ v10_7) <| gd (v10_7 < (v9_7.length : Int)) <| if (v9_7.getD (v10_7.toNat) false) = true then
     gd ((v7_7.length : Int) + ([v10_7].length : Int) ≤ 1099511627776) <| l7 k p2 n (v7_7 ++ [v10_7]) v8_7 v9_7 (w64 (v10_7 + 1))
    else
     if (p2 == 1) = true then
      gd ((0 : Int) ≤ v10_7) <| gd (v10_7 < (v8_7.length : Int)) <| if (v8_7.getD (v10_7.toNat) false) = true then
       gd ((v7_7.length : Int) + ([v10_7].length : Int) ≤ 1099511627776) <| l7 k p2 n (v7_7 ++ [v10_7]) v8_7 v9_7 (w64 (v10_7 + 1))
      else
       gd ((0 : Int) ≤ v10_7) <| gd (v10_7 < (v9_7.length : Int)) <| if (v9_7.getD (v10_7.toNat) false) = true then
        gd ((v7_7.length : Int) + ([v10_7].length : Int) ≤ 1099511627776) <| l7 k p2 n (v7_7 ++ [v10_7]) v8_7 v9_7 (w64 (v10_7 + 1))
       else
        if (p2 == 2) = true then
         gd ((0 : Int) ≤ v10_7) <| gd (v10_7 < (v8_7.length : Int)) <| if (v8_7.getD (v10_7.toNat) false) = true then
          gd ((0 : Int) ≤ v10_7) <| gd (v10_7 < (v9_7.length : Int)) <| if (!(v9_7.getD (v10_7.toNat) false)) = true then
           gd ((v7_7.length : Int) + ([v10_7].length : Int) ≤ 1099511627776) <| l7 k p2 n (v7_7 ++ [v10_7]) v8_7 v9_7 (w64 (v10_7 + 1))
          else
           l7 k p2 n v7_7 v8_7 v9_7 (w64 (v10_7 + 1))
         else
          l7 k p2 n v7_7 v8_7 v9_7 (w64 (v10_7 + 1))
        else
         l7 k p2 n v7_7 v8_7 v9_7 (w64 (v10_7 + 1))
     else
      if (p2 == 2) = true then
       gd ((0 : Int) ≤ v10_7) <| gd (v10_7 < (v8_7.length : Int)) <| if (v8_7.getD (v10_7.toNat) false) = true then
        gd ((0 : Int) ≤ v10_7) <| gd (v10_7 < (v9_7.length : Int)) <| if (!(v9_7.getD (v10_7.toNat) false)) = true then
         gd ((v7_7.length : Int) + ([v10_7].length : Int) ≤ 1099511627776) <| l7 k p2 n (v7_7 ++ [v10_7]) v8_7 v9_7 (w64 (v10_7 + 1))
        else
         l7 k p2 n v7_7 v8_7 v9_7 (w64 (v10_7 + 1))
       else
        l7 k p2 n v7_7 v8_7 v9_7 (w64 (v10_7 + 1))
      else
       l7 k p2 n v7_7 v8_7 v9_7 (w64 (v10_7 + 1))
   else
    if (p2 == 1) = true then
     gd ((0 : Int) ≤ v10_7) <| gd (v10_7 < (v8_7.length : Int)) <| if (v8_7.getD (v10_7.toNat) false) = true then
      gd ((v7_7.length : Int) + ([v10_7].length : Int) ≤ 1099511627776) <| l7 k p2 n (v7_7 ++ [v10_7]) v8_7 v9_7 (w64 (v10_7 + 1))
     else
      gd ((0 : Int) ≤ v10_7) <| gd (v10_7 < (v9_7.length : Int)) <| if (v9_7.getD (v10_7.toNat) false) = true then
       gd ((v7_7.length : Int) + ([v10_7].length : Int) ≤ 1099511627776) <| l7 k p2 n (v7_7 ++ [v10_7]) v8_7 v9_7 (w64 (v10_7 + 1))
      else
       if (p2 == 2) = true then
        gd ((0 : Int) ≤ v10_7) <| gd (v10_7 < (v8_7.length : Int)) <| if (v8_7.getD (v10_7.toNat) false) = true then
         gd ((0 : Int) ≤ v10_7) <| gd (v10_7 < (v9_7.length : Int)) <| if (!(v9_7.getD (v10_7.toNat) false)) = true then
          gd ((v7_7.length : Int) + ([v10_7].length : Int) ≤ 1099511627776) <| l7 k p2 n (v7_7 ++ [v10_7]) v8_7 v9_7 (w64 (v10_7 + 1))
         else
          l7 k p2 n v7_7 v8_7 v9_7 (w64 (v10_7 + 1))
        else
         l7 k p2 n v7_7 v8_7 v9_7 (w64 (v10_7 + 1))
       else
        l7 k p2 n v7_7 v8_7 v9_7 (w64 (v10_7 + 1))
    else
     if (p2 == 2) = true then
      gd ((0 : Int) ≤ v10_7) <| gd (v10_7 < (v8_7.length : Int)) <| if (v8_7.getD (v10_7.toNat) false) = true then
       gd ((0 : Int) ≤ v10_7) <| gd (v10_7 < (v9_7.length : Int)) <| if (!(v9_7.getD (v10_7.toNat) false)) = true then
        gd ((v7_7.length : Int) + ([v10_7].length : Int) ≤ 1099511627776) <| l7 k p2 n (v7_7 ++ [v10_7]) v8_7 v9_7 (w64 (v10_7 + 1))
       else
        l7 k p2 n v7_7 v8_7 v9_7 (w64 (v10_7 + 1))
      else
       l7 k p2 n v7_7 v8_7 v9_7 (w64 (v10_7 + 1))
     else
      l7 k p2 n v7_7 v8_7 v9_7 (w64 (v10_7 + 1))
  else
   if (p2 == 1) = true then
    gd ((0 : Int) ≤ v10_7) <| gd (v10_7 < (v8_7.length : Int)) <| if (v8_7.getD (v10_7.toNat) false) = true then
     gd ((v7_7.length : Int) + ([v10_7].length : Int) ≤ 1099511627776) <| l7 k p2 n (v7_7 ++ [v10_7]) v8_7 v9_7 (w64 (v10_7 + 1))
    else
     gd ((0 : Int) ≤ v10_7) <| gd (v10_7 < (v9_7.length : Int)) <| if (v9_7.getD (v10_7.toNat) false) = true then
      gd ((v7_7.length : Int) + ([v10_7].length : Int) ≤ 1099511627776) <| l7 k p2 n (v7_7 ++ [v10_7]) v8_7 v9_7 (w64 (v10_7 + 1))
     else
      if (p2 == 2) = true then
       gd ((0 : Int) ≤ v10_7) <| gd (v10_7 < (v8_7.length : Int)) <| if (v8_7.getD (v10_7.toNat) false) = true then
        gd ((0 : Int) ≤ v10_7) <| gd (v10_7 < (v9_7.length : Int)) <| if (!(v9_7.getD (v10_7.toNat) false)) = true then
         gd ((v7_7.length : Int) + ([v10_7].length : Int) ≤ 1099511627776) <| l7 k p2 n (v7_7 ++ [v10_7]) v8_7 v9_7 (w64 (v10_7 + 1))
        else
         l7 k p2 n v7_7 v8_7 v9_7 (w64 (v10_7 + 1))
       else
        l7 k p2 n v7_7 v8_7 v9_7 (w64 (v10_7 + 1))
      else
       l7 k p2 n v7_7 v8_7 v9_7 (w64 (v10_7 + 1))
   else
    if (p2 == 2) = true then
     gd ((0 : Int) ≤ v10_7) <| gd (v10_7 < (v8_7.length : Int)) <| if (v8_7.getD (v10_7.toNat) false) = true then
      gd ((0 : Int) ≤ v10_7) <| gd (v10_7 < (v9_7.length : Int)) <| if (!(v9_7.getD (v10_7.toNat) false)) = true then
       gd ((v7_7.length : Int) + ([v10_7].length : Int) ≤ 1099511627776) <| l7 k p2 n (v7_7 ++ [v10_7]) v8_7 v9_7 (w64 (v10_7 + 1))
      else
       l7 k p2 n v7_7 v8_7 v9_7 (w64 (v10_7 + 1))
     else
      l7 k p2 n v7_7 v8_7 v9_7 (w64 (v10_7 + 1))
    else
     l7 k p2 n v7_7 v8_7 v9_7 (w64 (v10_7 + 1))
 else
  some (v7_7, ())) := by kernel_rfl
theorem s (k : Nat) (p0 p1 : (List Int)) (p2 : Int) : f k p0 p1 p2 =
 ((spec_l4Set.f k p0).bind fun r1 =>
 if (!r1.1) = true then
  some ([], ())
 else
  (spec_l4Set.f k p1).bind fun r2 =>
  if (!r2.1) = true then
   some ([], ())
  else
   (spec_l4Marks.f k p0 400).bind fun r3 =>
   (spec_l4Marks.f k p1 400).bind fun r4 =>
   l7 k p2 k [] r3.1 r4.1 0) := by kernel_rfl
theorem ok (k : Nat) : Ok Tryz.prog 120 (sem k) := Fd.ok (cx_ok ⟨spec_l4Set.ok k, spec_l4Marks.ok k, trivial⟩) ⟨Tryz.func120, rfl, by kernel_rfl⟩ rfl
attribute [irreducible] f l7
end spec_l4Mix
/-! loop.example/wholecheck/spec.SetBoth -/
namespace spec_SetBoth
noncomputable def D : Fd := ⟨Tryz.f92, 1, h7, (.ow .sh), [.sh, .sh], .unit, h49⟩
noncomputable def C (k : Nat) : Ctx := cx [(120, spec_l4Mix.sem k)] [] [] [] [] [] []
noncomputable def sem (k : Nat) : Sem := D.sem (D.ev (C k) k)
noncomputable def f (k : Nat) (p0 p1 : (List Int)) : Option ((List Int) × Unit) := D.ev (C k) k (p0, p1, ())
theorem s (k : Nat) (p0 p1 : (List Int)) : f k p0 p1 =
 ((spec_l4Mix.f k p0 p1 0).bind fun r1 =>
 some (r1.1, ())) := by kernel_rfl
theorem ok (k : Nat) : Ok Tryz.prog 92 (sem k) := Fd.ok (cx_ok ⟨spec_l4Mix.ok k, trivial⟩) ⟨Tryz.func92, rfl, by kernel_rfl⟩ rfl
attribute [irreducible] f
end spec_SetBoth
/-! loop.example/wholecheck/spec.l4Behind -/
namespace spec_l4Behind
noncomputable def D : Fd := ⟨Tryz.f95, 1, h69, (.ow .sh), [.sh, .sh], .unit, h74⟩
noncomputable def C (k : Nat) : Ctx := cx [] [] [(3, [(0, none), (1, none), (5, none), (6, none)]), (6, [(0, none), (1, none), (5, none), (6, none), (7, none)])] [] [] [] []
noncomputable def sem (k : Nat) : Sem := D.sem (D.ev (C k) k)
noncomputable def f (k : Nat) (p0 : (List (List Int))) (p1 : (List Bool)) : Option ((List Bool) × Unit) := D.ev (C k) k (p0, p1, ())
noncomputable def l3 (k : Nat) (p0 : (List (List Int))) (p1 : (List Bool)) (n : Nat) (v5_3 : (List Bool)) (v6_3 : Int) : Option ((List Bool) × Unit) :=
 D.lp (C k) k 3 [1, 1, 0, 1, 0] [] n [(6, vI v6_3), (5, vO h69 v5_3), (1, vS h69 p1), (0, vS h51 p0)]
noncomputable def l6 (k n3 : Nat) (p0 : (List (List Int))) (p1 : (List Bool)) (v6_3 : Int) (n : Nat) (v5_6 : (List Bool)) (v7_6 : Int) : Option ((List Bool) × Unit) :=
 D.lp (C k) k 6 [1, 1, 0, 1, 0, 0, 1, 0, 0, 1, 0] [n3] n [(7, vI v7_6), (6, vI v6_3), (5, vO h69 v5_6), (1, vS h69 p1), (0, vS h51 p0)]
theorem s6 (k n3 : Nat) (p0 : (List (List Int))) (p1 : (List Bool)) (v6_3 : Int) (n : Nat) (v5_6 : (List Bool)) (v7_6 : Int) : l6 k n3 p0 p1 v6_3 (n + 1) v5_6 v7_6 =
 (gd ((0 : Int) ≤ v6_3) <| gd (v6_3 < (p0.length : Int)) <| if (decide (v7_6 < (((p0.getD (v6_3.toNat) []).length : Int)))) = true then
  gd ((0 : Int) ≤ v6_3) <| gd (v6_3 < (p1.length : Int)) <| if (p1.getD (v6_3.toNat) false) = true then
   gd ((0 : Int) ≤ v6_3) <| gd (v6_3 < (p0.length : Int)) <| gd ((0 : Int) ≤ v7_6) <| gd (v7_6 < ((p0.getD (v6_3.toNat) []).length : Int)) <| gd ((0 : Int) ≤ ((p0.getD (v6_3.toNat) []).getD (v7_6.toNat) 0)) <| gd (((p0.getD (v6_3.toNat) []).getD (v7_6.toNat) 0) < (v5_6.length : Int)) <| l6 k n3 p0 p1 v6_3 n (v5_6.set (((p0.getD (v6_3.toNat) []).getD (v7_6.toNat) 0).toNat) true) (w64 (v7_6 + 1))
  else
   l6 k n3 p0 p1 v6_3 n v5_6 (w64 (v7_6 + 1))
 else
  l3 k p0 p1 n3 v5_6 (w64 (v6_3 + 1))) := by kernel_rfl
theorem s3 (k : Nat) (p0 : (List (List Int))) (p1 : (List Bool)) (n : Nat) (v5_3 : (List Bool)) (v6_3 : Int) : l3 k p0 p1 (n + 1) v5_3 v6_3 =
 (if (decide (v6_3 < ((p0.length : Int)))) = true then
  l6 k n p0 p1 v6_3 k v5_3 0
 else
  some (v5_3, ())) := by kernel_rfl
theorem s (k : Nat) (p0 : (List (List Int))) (p1 : (List Bool)) : f k p0 p1 =
 (gd ((0 : Int) ≤ ((p0.length : Int))) <| gd ((((p0.length : Int)) : Int) ≤ 1099511627776) <| l3 k p0 p1 k ((List.replicate ((p0.length : Int)).toNat false : (List Bool))) 0) := by kernel_rfl
theorem ok (k : Nat) : Ok Tryz.prog 95 (sem k) := Fd.ok (cx_ok trivial) ⟨Tryz.func95, rfl, by kernel_rfl⟩ rfl
attribute [irreducible] f l3 l6
end spec_l4Behind
/-! loop.example/wholecheck/spec.l29Follow -/
namespace spec_l29Follow
noncomputable def D : Fd := ⟨Tryz.f48, 1, h51, (.ow .sh), [.sh, .sh, .sh], .unit, h108⟩
noncomputable def C (k : Nat) : Ctx := cx [(89, spec_l4Steps.sem k), (91, spec_FirstState.sem k), (90, spec_l4Number.sem k), (93, spec_l29Block.sem k), (92, spec_SetBoth.sem k), (96, spec_l4Marks.sem k), (95, spec_l4Behind.sem k), (94, spec_l4List.sem k)] [((7, 8), 3), ((10, 2), 1)] [(5, [(2, none), (4, none), (7, none), (8, none), (9, some (h51, (.ow .sh))), (10, none)])] [] [(2, [0, 1, 2, 3, 4, 5]), (7, [0, 1, 2, 3, 4, 5, 6, 7, 8])] [((2, 2), [3])] []
noncomputable def sem (k : Nat) : Sem := D.sem (D.ev (C k) k)
noncomputable def f (k : Nat) (p0 : y9) (p1 p2 : (List Int)) : Option ((List (List Int)) × Unit) := D.ev (C k) k (p0, p1, p2, ())
noncomputable def l5 (k : Nat) (p1 p2 : (List Int)) (n : Nat) (v7_5 : (List (List Int))) (v8_5 : (List Int)) (v9_5 : (List (List Int))) (v10_5 : Int) : Option ((List (List Int)) × Unit) :=
 D.lp (C k) k 5 [1, 1, 1, 1, 0, 1, 0] [] n [(10, vI v10_5), (9, .val h51 (.ow .sh) v9_5), (8, vO h7 v8_5), (7, vO h51 v7_5), (4, .val h53 (.ow .sh) p1), (2, vS h7 p2)]
theorem s5 (k : Nat) (p1 p2 : (List Int)) (n : Nat) (v7_5 : (List (List Int))) (v8_5 : (List Int)) (v9_5 : (List (List Int))) (v10_5 : Int) : l5 k p1 p2 (n + 1) v7_5 v8_5 v9_5 v10_5 =
 (if (decide (v10_5 < ((p2.length : Int)))) = true then
  gd ((0 : Int) ≤ v10_5) <| gd (v10_5 < (p2.length : Int)) <| (spec_l29Block.f k p1 (p2.getD (v10_5.toNat) 0)).bind fun r4 =>
  (spec_SetBoth.f k v8_5 r4.1).bind fun r5 =>
  if (((r5.1.length : Int)) == 0) = true then
   some (v9_5, ())
  else
   gd ((v9_5.length : Int) + ([r5.1].length : Int) ≤ 1099511627776) <| (spec_l4Marks.f k r5.1 ((v7_5.length : Int))).bind fun r6 =>
   (spec_l4Behind.f k v7_5 r6.1).bind fun r7 =>
   (spec_l4List.f k r7.1).bind fun r8 =>
   l5 k p1 p2 n v7_5 r8.1 (v9_5 ++ [r5.1]) (w64 (v10_5 + 1))
 else
  some (v9_5, ())) := by kernel_rfl
theorem s (k : Nat) (p0 : y9) (p1 p2 : (List Int)) : f k p0 p1 p2 =
 ((spec_l4Steps.f k p0).bind fun r1 =>
 (spec_FirstState.f k p0).bind fun r2 =>
 (spec_l4Number.f k p0 r2.1).bind fun r3 =>
 l5 k p1 p2 k r1.1 [r3.1] [] 0) := by kernel_rfl
theorem ok (k : Nat) : Ok Tryz.prog 48 (sem k) := Fd.ok (cx_ok ⟨spec_l4Steps.ok k, spec_FirstState.ok k, spec_l4Number.ok k, spec_l29Block.ok k, spec_SetBoth.ok k, spec_l4Marks.ok k, spec_l4Behind.ok k, spec_l4List.ok k, trivial⟩) ⟨Tryz.func48, rfl, by kernel_rfl⟩ rfl
attribute [irreducible] f l5
end spec_l29Follow
/-! loop.example/wholecheck/spec.FollowBlocks -/
namespace spec_FollowBlocks
noncomputable def D : Fd := ⟨Tryz.f18, 1, h51, (.ow (.ow .sh)), [.sh, .sh, .sh], .unit, h108⟩
noncomputable def C (k : Nat) : Ctx := cx [(47, spec_l29Way.sem k), (48, spec_l29Follow.sem k), (49, spec_l3Copy.sem k)] [] [(6, [(7, none), (8, none), (9, none)])] [] [] [] []
noncomputable def sem (k : Nat) : Sem := D.sem (D.ev (C k) k)
noncomputable def f (k : Nat) (p0 : y9) (p1 p2 : (List Int)) : Option ((List (List Int)) × Unit) := D.ev (C k) k (p0, p1, p2, ())
noncomputable def l6 (k : Nat) (n : Nat) (v7_6 v8_6 : (List (List Int))) (v9_6 : Int) : Option ((List (List Int)) × Unit) :=
 D.lp (C k) k 6 [1, 1, 1, 1, 0, 1, 0] [] n [(9, vI v9_6), (8, .val h51 (.ow .sh) v8_6), (7, vO h51 v7_6)]
theorem s6 (k : Nat) (n : Nat) (v7_6 v8_6 : (List (List Int))) (v9_6 : Int) : l6 k (n + 1) v7_6 v8_6 v9_6 =
 (if (decide (v9_6 < ((v8_6.length : Int)))) = true then
  gd ((0 : Int) ≤ v9_6) <| gd (v9_6 < (v8_6.length : Int)) <| (spec_l3Copy.f k (v8_6.getD (v9_6.toNat) [])).bind fun r3 =>
  gd ((v7_6.length : Int) + ([r3.1].length : Int) ≤ 1099511627776) <| l6 k n (v7_6 ++ [r3.1]) v8_6 (w64 (v9_6 + 1))
 else
  some (v7_6, ())) := by kernel_rfl
theorem s (k : Nat) (p0 : y9) (p1 p2 : (List Int)) : f k p0 p1 p2 =
 ((spec_l29Way.f k p0 p1 p2).bind fun r1 =>
 if (!r1.1) = true then
  some ([], ())
 else
  (spec_l29Follow.f k p0 p1 p2).bind fun r2 =>
  l6 k k [] r2.1 0) := by kernel_rfl
theorem ok (k : Nat) : Ok Tryz.prog 18 (sem k) := Fd.ok (cx_ok ⟨spec_l29Way.ok k, spec_l29Follow.ok k, spec_l3Copy.ok k, trivial⟩) ⟨Tryz.func18, rfl, by kernel_rfl⟩ rfl
attribute [irreducible] f l6
end spec_FollowBlocks
/-! loop.example/wholecheck/laws.wcInts -/
namespace laws_wcInts
noncomputable def D : Fd := ⟨Tryz.f10, 1, .bool, .sh, [.sh, .sh], .unit, h49⟩
noncomputable def C (k : Nat) : Ctx := cx [] [] [(4, [(1, none), (12, none), (13, none), (14, none)])] [] [] [] []
noncomputable def sem (k : Nat) : Sem := D.sem (D.ev (C k) k)
noncomputable def f (k : Nat) (p0 p1 : (List Int)) : Option (Bool × Unit) := D.ev (C k) k (p0, p1, ())
noncomputable def l4 (k : Nat) (p0 p1 : (List Int)) (n : Nat) (v14_4 : Int) : Option (Bool × Unit) :=
 D.lp (C k) k 4 [1, 1, 0, 1, 0] [] n [(14, vI v14_4), (13, vI ((p0.length : Int))), (12, vS h7 p0), (1, vS h7 p1)]
theorem s4 (k : Nat) (p0 p1 : (List Int)) (n : Nat) (v14_4 : Int) : l4 k p0 p1 (n + 1) v14_4 =
 (if (decide (v14_4 < ((p0.length : Int)))) = true then
  gd ((0 : Int) ≤ v14_4) <| gd (v14_4 < (p0.length : Int)) <| gd ((0 : Int) ≤ v14_4) <| gd (v14_4 < (p1.length : Int)) <| if ((p1.getD (v14_4.toNat) 0) != (p0.getD (v14_4.toNat) 0)) = true then
   some (false, ())
  else
   l4 k p0 p1 n (w64 (v14_4 + 1))
 else
  some (true, ())) := by kernel_rfl
theorem s (k : Nat) (p0 p1 : (List Int)) : f k p0 p1 =
 (if (((p0.length : Int)) != ((p1.length : Int))) = true then
  some (false, ())
 else
  l4 k p0 p1 k 0) := by kernel_rfl
theorem ok (k : Nat) : Ok Tryz.prog 10 (sem k) := Fd.ok (cx_ok trivial) ⟨Tryz.func10, rfl, by kernel_rfl⟩ rfl
attribute [irreducible] f l4
end laws_wcInts
/-! loop.example/wholecheck/impl.reach -/
namespace impl_reach
noncomputable def D : Fd := ⟨Tryz.f79, 1, h69, (.ow .sh), [.sh, .sh], .unit, h72⟩
noncomputable def C (k : Nat) : Ctx := cx [(87, slices_Clone_int_int.sem k)] [((10, 1), 1)] [(4, [(0, none), (5, none), (6, none), (17, none), (18, none), (19, none)]), (8, [(0, none), (5, none), (6, none)]), (12, [(0, none), (5, none), (6, none), (38, none), (39, none), (40, none)])] [] [] [] []
noncomputable def sem (k : Nat) : Sem := D.sem (D.ev (C k) k)
noncomputable def f (k : Nat) (p0 : (List (List Int))) (p1 : (List Int)) : Option ((List Bool) × Unit) := D.ev (C k) k (p0, p1, ())
noncomputable def l4 (k : Nat) (p0 : (List (List Int))) (p1 : (List Int)) (n : Nat) (v5_4 : (List Bool)) (v6_4 : (List Int)) (v19_4 : Int) : Option ((List Bool) × Unit) :=
 D.lp (C k) k 4 [1, 1, 1, 0, 1, 0] [] n [(19, vI v19_4), (18, vI ((p1.length : Int))), (17, vS h7 p1), (6, vO h7 v6_4), (5, vO h69 v5_4), (0, vS h51 p0)]
noncomputable def l8 (k : Nat) (p0 : (List (List Int))) (n : Nat) (v5_8 : (List Bool)) (v6_8 : (List Int)) : Option ((List Bool) × Unit) :=
 D.lp (C k) k 8 [1, 1, 1, 1, 0, 0] [] n [(6, vO h7 v6_8), (5, vO h69 v5_8), (0, vS h51 p0)]
noncomputable def l12 (k n8 : Nat) (p0 : (List (List Int))) (v6_8 : (List Int)) (n : Nat) (v5_12 : (List Bool)) (v6_12 : (List Int)) (v40_12 : Int) : Option ((List Bool) × Unit) :=
 D.lp (C k) k 12 [1, 1, 1, 1, 0, 0, 0, 1, 0, 1, 1, 1, 0] [n8] n [(40, vI v40_12), (39, vI (((p0.getD ((v6_8.getD (Int.toNat 0) 0).toNat) []).length : Int))), (38, vS h7 (p0.getD ((v6_8.getD (Int.toNat 0) 0).toNat) [])), (6, vO h7 v6_12), (5, vO h69 v5_12), (0, vS h51 p0)]
theorem s12 (k n8 : Nat) (p0 : (List (List Int))) (v6_8 : (List Int)) (n : Nat) (v5_12 : (List Bool)) (v6_12 : (List Int)) (v40_12 : Int) : l12 k n8 p0 v6_8 (n + 1) v5_12 v6_12 v40_12 =
 (if (decide (v40_12 < (((p0.getD ((v6_8.getD (Int.toNat 0) 0).toNat) []).length : Int)))) = true then
  gd ((0 : Int) ≤ v40_12) <| gd (v40_12 < ((p0.getD ((v6_8.getD (Int.toNat 0) 0).toNat) []).length : Int)) <| gd ((0 : Int) ≤ ((p0.getD ((v6_8.getD (Int.toNat 0) 0).toNat) []).getD (v40_12.toNat) 0)) <| gd (((p0.getD ((v6_8.getD (Int.toNat 0) 0).toNat) []).getD (v40_12.toNat) 0) < (v5_12.length : Int)) <| if (!(v5_12.getD (((p0.getD ((v6_8.getD (Int.toNat 0) 0).toNat) []).getD (v40_12.toNat) 0).toNat) false)) = true then
   gd ((0 : Int) ≤ ((p0.getD ((v6_8.getD (Int.toNat 0) 0).toNat) []).getD (v40_12.toNat) 0)) <| gd (((p0.getD ((v6_8.getD (Int.toNat 0) 0).toNat) []).getD (v40_12.toNat) 0) < (v5_12.length : Int)) <| gd ((v6_12.length : Int) + ([((p0.getD ((v6_8.getD (Int.toNat 0) 0).toNat) []).getD (v40_12.toNat) 0)].length : Int) ≤ 1099511627776) <| l12 k n8 p0 v6_8 n (v5_12.set (((p0.getD ((v6_8.getD (Int.toNat 0) 0).toNat) []).getD (v40_12.toNat) 0).toNat) true) (v6_12 ++ [((p0.getD ((v6_8.getD (Int.toNat 0) 0).toNat) []).getD (v40_12.toNat) 0)]) (w64 (v40_12 + 1))
  else
   l12 k n8 p0 v6_8 n v5_12 v6_12 (w64 (v40_12 + 1))
 else
  l8 k p0 n8 v5_12 v6_12) := by kernel_rfl
theorem s8 (k : Nat) (p0 : (List (List Int))) (n : Nat) (v5_8 : (List Bool)) (v6_8 : (List Int)) : l8 k p0 (n + 1) v5_8 v6_8 =
 (if (decide (((v6_8.length : Int)) > 0)) = true then
  gd ((0 : Int) ≤ 0) <| gd (0 < (v6_8.length : Int)) <| gd ((0 : Int) ≤ 1) <| gd ((1 : Int) ≤ ((v6_8.length : Int))) <| gd (((v6_8.length : Int)) ≤ (v6_8.length : Int)) <| gd ((0 : Int) ≤ (v6_8.getD (Int.toNat 0) 0)) <| gd ((v6_8.getD (Int.toNat 0) 0) < (p0.length : Int)) <| l12 k n p0 v6_8 k v5_8 ((v6_8.take (((v6_8.length : Int)).toNat)).drop (Int.toNat 1)) 0
 else
  some (v5_8, ())) := by kernel_rfl
theorem s4 (k : Nat) (p0 : (List (List Int))) (p1 : (List Int)) (n : Nat) (v5_4 : (List Bool)) (v6_4 : (List Int)) (v19_4 : Int) : l4 k p0 p1 (n + 1) v5_4 v6_4 v19_4 =
 (if (decide (v19_4 < ((p1.length : Int)))) = true then
  gd ((0 : Int) ≤ v19_4) <| gd (v19_4 < (p1.length : Int)) <| gd ((0 : Int) ≤ (p1.getD (v19_4.toNat) 0)) <| gd ((p1.getD (v19_4.toNat) 0) < (v5_4.length : Int)) <| l4 k p0 p1 n (v5_4.set ((p1.getD (v19_4.toNat) 0).toNat) true) v6_4 (w64 (v19_4 + 1))
 else
  l8 k p0 k v5_4 v6_4) := by kernel_rfl
theorem s (k : Nat) (p0 : (List (List Int))) (p1 : (List Int)) : f k p0 p1 =
 (gd ((0 : Int) ≤ ((p0.length : Int))) <| gd ((((p0.length : Int)) : Int) ≤ 1099511627776) <| (slices_Clone_int_int.f k p1).bind fun r1 =>
 l4 k p0 p1 k ((List.replicate ((p0.length : Int)).toNat false : (List Bool))) r1.1 0) := by kernel_rfl
theorem ok (k : Nat) : Ok Tryz.prog 79 (sem k) := Fd.ok (cx_ok ⟨slices_Clone_int_int.ok k, trivial⟩) ⟨Tryz.func79, rfl, by kernel_rfl⟩ rfl
attribute [irreducible] f l4 l8 l12
end impl_reach
/-! loop.example/wholecheck/impl.reachOf -/
namespace impl_reachOf
noncomputable def D : Fd := ⟨Tryz.f50, 1, h69, (.ow .sh), [.sh], .unit, h48⟩
noncomputable def C (k : Nat) : Ctx := cx [(53, impl_nexts.sem k), (81, impl_first.sem k), (80, impl_number.sem k), (79, impl_reach.sem k)] [] [] [] [(1, [0, 2, 3, 1, 4, 5, 6, 7, 8])] [((1, 1), [1]), ((1, 4), [1])] []
noncomputable def sem (k : Nat) : Sem := D.sem (D.ev (C k) k)
noncomputable def f (k : Nat) (p0 : y9) : Option ((List Bool) × Unit) := D.ev (C k) k (p0, ())
theorem s (k : Nat) (p0 : y9) : f k p0 =
 ((impl_nexts.f k p0).bind fun r1 =>
 (impl_first.f k p0).bind fun r2 =>
 (impl_number.f k p0 r2.1).bind fun r3 =>
 (impl_reach.f k r1.1 [r3.1]).bind fun r4 =>
 some (r4.1, ())) := by kernel_rfl
theorem ok (k : Nat) : Ok Tryz.prog 50 (sem k) := Fd.ok (cx_ok ⟨impl_nexts.ok k, impl_first.ok k, impl_number.ok k, impl_reach.ok k, trivial⟩) ⟨Tryz.func50, rfl, by kernel_rfl⟩ rfl
attribute [irreducible] f
end impl_reachOf
/-! loop.example/wholecheck/impl.ReachOf -/
namespace impl_ReachOf
noncomputable def D : Fd := ⟨Tryz.f19, 1, h7, (.ow .sh), [.sh], .unit, h48⟩
noncomputable def C (k : Nat) : Ctx := cx [(37, impl_SystemValid.sem k), (50, impl_reachOf.sem k), (42, impl_listOf.sem k)] [] [] [] [] [] []
noncomputable def sem (k : Nat) : Sem := D.sem (D.ev (C k) k)
noncomputable def f (k : Nat) (p0 : y9) : Option ((List Int) × Unit) := D.ev (C k) k (p0, ())
theorem s (k : Nat) (p0 : y9) : f k p0 =
 ((impl_SystemValid.f k p0).bind fun r1 =>
 if (!r1.1) = true then
  some ([], ())
 else
  (impl_reachOf.f k p0).bind fun r2 =>
  (impl_listOf.f k r2.1).bind fun r3 =>
  some (r3.1, ())) := by kernel_rfl
theorem ok (k : Nat) : Ok Tryz.prog 19 (sem k) := Fd.ok (cx_ok ⟨impl_SystemValid.ok k, impl_reachOf.ok k, impl_listOf.ok k, trivial⟩) ⟨Tryz.func19, rfl, by kernel_rfl⟩ rfl
attribute [irreducible] f
end impl_ReachOf
/-! loop.example/wholecheck/impl.SetWithout$1 -/
namespace impl_SetWithout_1
noncomputable def D : Fd := ⟨Tryz.f41, 1, .bool, .sh, [.sh, .sh], .unit, h112⟩
noncomputable def C (k : Nat) : Ctx := cx [] [] [] [] [] [] []
noncomputable def sem (k : Nat) : Sem := D.sem (D.ev (C k) k)
noncomputable def f (k : Nat) (p0 p1 : Bool) : Option (Bool × Unit) := D.ev (C k) k (p0, p1, ())
theorem s (k : Nat) (p0 p1 : Bool) : f k p0 p1 =
 (if p0 = true then
  some (!p1, ())
 else
  some (false, ())) := by kernel_rfl
theorem ok (k : Nat) : Ok Tryz.prog 41 (sem k) := Fd.ok (cx_ok trivial) ⟨Tryz.func41, rfl, by kernel_rfl⟩ rfl
attribute [irreducible] f
end impl_SetWithout_1
/-! loop.example/wholecheck/impl.setOk -/
namespace impl_setOk
noncomputable def D : Fd := ⟨Tryz.f30, 1, .bool, .sh, [.sh, .sh], .unit, h19⟩
noncomputable def C (k : Nat) : Ctx := cx [(67, impl_in.sem k)] [] [(2, [(0, none), (1, none), (7, none), (8, none), (9, none)])] [] [] [] []
noncomputable def sem (k : Nat) : Sem := D.sem (D.ev (C k) k)
noncomputable def f (k : Nat) (p0 : (List Int)) (p1 : Int) : Option (Bool × Unit) := D.ev (C k) k (p0, p1, ())
noncomputable def l2 (k : Nat) (p0 : (List Int)) (p1 : Int) (n : Nat) (v9_2 : Int) : Option (Bool × Unit) :=
 D.lp (C k) k 2 [1, 0, 1, 0] [] n [(9, vI v9_2), (8, vI ((p0.length : Int))), (7, vS h7 p0), (1, vI p1), (0, vS h7 p0)]
theorem s2 (k : Nat) (p0 : (List Int)) (p1 : Int) (n : Nat) (v9_2 : Int) : l2 k p0 p1 (n + 1) v9_2 =
 (if (decide (v9_2 < ((p0.length : Int)))) = true then
  gd ((0 : Int) ≤ v9_2) <| gd (v9_2 < (p0.length : Int)) <| (impl_in.f k (p0.getD (v9_2.toNat) 0) 0 (w64 (p1 - 1))).bind fun r1 =>
  if (!r1.1) = true then
   some (false, ())
  else
   if (decide (v9_2 > 0)) = true then
    gd ((0 : Int) ≤ (w64 (v9_2 - 1))) <| gd ((w64 (v9_2 - 1)) < (p0.length : Int)) <| if (decide ((p0.getD ((w64 (v9_2 - 1)).toNat) 0) ≥ (p0.getD (v9_2.toNat) 0))) = true then
     some (false, ())
    else
     l2 k p0 p1 n (w64 (v9_2 + 1))
   else
    l2 k p0 p1 n (w64 (v9_2 + 1))
 else
  some (true, ())) := by kernel_rfl
theorem s (k : Nat) (p0 : (List Int)) (p1 : Int) : f k p0 p1 =
 (l2 k p0 p1 k 0) := by kernel_rfl
theorem ok (k : Nat) : Ok Tryz.prog 30 (sem k) := Fd.ok (cx_ok ⟨impl_in.ok k, trivial⟩) ⟨Tryz.func30, rfl, by kernel_rfl⟩ rfl
attribute [irreducible] f l2
end impl_setOk
/-! loop.example/wholecheck/impl.marks -/
namespace impl_marks
noncomputable def D : Fd := ⟨Tryz.f32, 1, h69, (.ow .sh), [.sh, .sh], .unit, h19⟩
noncomputable def C (k : Nat) : Ctx := cx [] [] [(3, [(5, none), (10, none), (11, none), (12, none)])] [] [] [] []
noncomputable def sem (k : Nat) : Sem := D.sem (D.ev (C k) k)
noncomputable def f (k : Nat) (p0 : (List Int)) (p1 : Int) : Option ((List Bool) × Unit) := D.ev (C k) k (p0, p1, ())
noncomputable def l3 (k : Nat) (p0 : (List Int)) (n : Nat) (v5_3 : (List Bool)) (v12_3 : Int) : Option ((List Bool) × Unit) :=
 D.lp (C k) k 3 [1, 1, 0, 1, 0] [] n [(12, vI v12_3), (11, vI ((p0.length : Int))), (10, vS h7 p0), (5, vO h69 v5_3)]
theorem s3 (k : Nat) (p0 : (List Int)) (n : Nat) (v5_3 : (List Bool)) (v12_3 : Int) : l3 k p0 (n + 1) v5_3 v12_3 =
 (if (decide (v12_3 < ((p0.length : Int)))) = true then
  gd ((0 : Int) ≤ v12_3) <| gd (v12_3 < (p0.length : Int)) <| gd ((0 : Int) ≤ (p0.getD (v12_3.toNat) 0)) <| gd ((p0.getD (v12_3.toNat) 0) < (v5_3.length : Int)) <| l3 k p0 n (v5_3.set ((p0.getD (v12_3.toNat) 0).toNat) true) (w64 (v12_3 + 1))
 else
  some (v5_3, ())) := by kernel_rfl
theorem s (k : Nat) (p0 : (List Int)) (p1 : Int) : f k p0 p1 =
 (gd ((0 : Int) ≤ p1) <| gd ((p1 : Int) ≤ 1099511627776) <| l3 k p0 k ((List.replicate p1.toNat false : (List Bool))) 0) := by kernel_rfl
theorem ok (k : Nat) : Ok Tryz.prog 32 (sem k) := Fd.ok (cx_ok trivial) ⟨Tryz.func32, rfl, by kernel_rfl⟩ rfl
attribute [irreducible] f l3
end impl_marks
/-! loop.example/wholecheck/impl.setOf -/
namespace impl_setOf
noncomputable def D : Fd := ⟨Tryz.f40, 1, h7, (.ow .sh), [.sh, .sh, .sh], .unit, h116⟩
noncomputable def C (k : Nat) : Ctx := cx [(30, impl_setOk.sem k), (32, impl_marks.sem k), (42, impl_listOf.sem k)] [] [(6, [(2, none), (7, none), (8, none), (9, none), (25, none), (26, none)])] [] [(8, [0, 1, 2, 3, 4, 5, 6, 7, 8, 9, 10, 11, 12, 13])] [] []
noncomputable def sem (k : Nat) : Sem := D.sem (D.ev (C k) k)
noncomputable def f (k : Nat) (p0 p1 : (List Int)) (p2 : y22) : Option ((List Int) × Unit) := D.ev (C k) k (p0, p1, p2, ())
noncomputable def l6 (k : Nat) (p2 : y22) (n : Nat) (v7_6 v8_6 v9_6 : (List Bool)) (v26_6 : Int) : Option ((List Int) × Unit) :=
 D.lp (C k) k 6 [1, 1, 1, 1, 0, 1, 0] [] n [(26, vI v26_6), (25, vI ((((List.replicate ((400 : Int)).toNat false : (List Bool))).length : Int))), (9, vO h69 v9_6), (8, vO h69 v8_6), (7, vO h69 v7_6), (2, vS h113 p2)]
theorem s6 (k : Nat) (p2 : y22) (n : Nat) (v7_6 v8_6 v9_6 : (List Bool)) (v26_6 : Int) : l6 k p2 (n + 1) v7_6 v8_6 v9_6 v26_6 =
 (if (decide (v26_6 < ((((List.replicate ((400 : Int)).toNat false : (List Bool))).length : Int)))) = true then
  gd ((0 : Int) ≤ v26_6) <| gd (v26_6 < (v7_6.length : Int)) <| gd ((0 : Int) ≤ v26_6) <| gd (v26_6 < (v8_6.length : Int)) <| (p2 (v7_6.getD (v26_6.toNat) false, (v8_6.getD (v26_6.toNat) false, ()))).bind fun r5 =>
  gd ((0 : Int) ≤ v26_6) <| gd (v26_6 < (v9_6.length : Int)) <| l6 k p2 n v7_6 v8_6 (v9_6.set (v26_6.toNat) r5) (w64 (v26_6 + 1))
 else
  (impl_listOf.f k v9_6).bind fun r6 =>
  some (r6.1, ())) := by kernel_rfl
theorem s (k : Nat) (p0 p1 : (List Int)) (p2 : y22) : f k p0 p1 p2 =
 ((impl_setOk.f k p0 400).bind fun r1 =>
 if (!r1.1) = true then
  some ([], ())
 else
  (impl_setOk.f k p1 400).bind fun r2 =>
  if (!r2.1) = true then
   some ([], ())
  else
   (impl_marks.f k p0 400).bind fun r3 =>
   (impl_marks.f k p1 400).bind fun r4 =>
   gd ((0 : Int) ≤ 400) <| gd ((400 : Int) ≤ 400) <| gd ((400 : Int) ≤ 1099511627776) <| l6 k p2 k r3.1 r4.1 ((List.replicate ((400 : Int)).toNat false : (List Bool))) 0) := by kernel_rfl
theorem ok (k : Nat) : Ok Tryz.prog 40 (sem k) := Fd.ok (cx_ok ⟨impl_setOk.ok k, impl_marks.ok k, impl_listOf.ok k, trivial⟩) ⟨Tryz.func40, rfl, by kernel_rfl⟩ rfl
attribute [irreducible] f l6
end impl_setOf
/-! loop.example/wholecheck/impl.SetWithout -/
namespace impl_SetWithout
noncomputable def D : Fd := ⟨Tryz.f14, 1, h7, (.ow .sh), [.sh, .sh], .unit, h49⟩
noncomputable def C (k : Nat) : Ctx := cx [(41, impl_SetWithout_1.sem k), (40, impl_setOf.sem k)] [] [] [] [] [] []
noncomputable def sem (k : Nat) : Sem := D.sem (D.ev (C k) k)
noncomputable def f (k : Nat) (p0 p1 : (List Int)) : Option ((List Int) × Unit) := D.ev (C k) k (p0, p1, ())
theorem s (k : Nat) (p0 p1 : (List Int)) : f k p0 p1 =
 ((impl_setOf.f k p0 p1 (fun p => (impl_SetWithout_1.f k p.1 p.2.1).bind fun r => some r.1)).bind fun r1 =>
 some (r1.1, ())) := by kernel_rfl
theorem ok (k : Nat) : Ok Tryz.prog 14 (sem k) := Fd.ok (cx_ok ⟨impl_SetWithout_1.ok k, impl_setOf.ok k, trivial⟩) ⟨Tryz.func14, rfl, by kernel_rfl⟩ rfl
attribute [irreducible] f
end impl_SetWithout
/-! loop.example/wholecheck/impl.SetValid -/
namespace impl_SetValid
noncomputable def D : Fd := ⟨Tryz.f51, 1, .bool, .sh, [.sh, .sh], .unit, h70⟩
noncomputable def C (k : Nat) : Ctx := cx [(37, impl_SystemValid.sem k), (58, impl_size.sem k), (30, impl_setOk.sem k)] [] [] [] [] [] []
noncomputable def sem (k : Nat) : Sem := D.sem (D.ev (C k) k)
noncomputable def f (k : Nat) (p0 : y9) (p1 : (List Int)) : Option (Bool × Unit) := D.ev (C k) k (p0, p1, ())
theorem s (k : Nat) (p0 : y9) (p1 : (List Int)) : f k p0 p1 =
 ((impl_SystemValid.f k p0).bind fun r1 =>
 if r1.1 = true then
  (impl_size.f k p0.1).bind fun r2 =>
  (impl_setOk.f k p1 r2.1).bind fun r3 =>
  some (r3.1, ())
 else
  some (false, ())) := by kernel_rfl
theorem ok (k : Nat) : Ok Tryz.prog 51 (sem k) := Fd.ok (cx_ok ⟨impl_SystemValid.ok k, impl_size.ok k, impl_setOk.ok k, trivial⟩) ⟨Tryz.func51, rfl, by kernel_rfl⟩ rfl
attribute [irreducible] f
end impl_SetValid
/-! loop.example/wholecheck/impl.NextNumbers -/
namespace impl_NextNumbers
noncomputable def D : Fd := ⟨Tryz.f20, 1, h7, (.ow .sh), [.sh, .sh], .unit, h70⟩
noncomputable def C (k : Nat) : Ctx := cx [(51, impl_SetValid.sem k), (53, impl_nexts.sem k), (52, impl_over.sem k)] [] [] [] [] [] []
noncomputable def sem (k : Nat) : Sem := D.sem (D.ev (C k) k)
noncomputable def f (k : Nat) (p0 : y9) (p1 : (List Int)) : Option ((List Int) × Unit) := D.ev (C k) k (p0, p1, ())
theorem s (k : Nat) (p0 : y9) (p1 : (List Int)) : f k p0 p1 =
 ((impl_SetValid.f k p0 p1).bind fun r1 =>
 if (!r1.1) = true then
  some ([], ())
 else
  (impl_nexts.f k p0).bind fun r2 =>
  (impl_over.f k r2.1 p1).bind fun r3 =>
  some (r3.1, ())) := by kernel_rfl
theorem ok (k : Nat) : Ok Tryz.prog 20 (sem k) := Fd.ok (cx_ok ⟨impl_SetValid.ok k, impl_nexts.ok k, impl_over.ok k, trivial⟩) ⟨Tryz.func20, rfl, by kernel_rfl⟩ rfl
attribute [irreducible] f
end impl_NextNumbers
end Go.Ev
