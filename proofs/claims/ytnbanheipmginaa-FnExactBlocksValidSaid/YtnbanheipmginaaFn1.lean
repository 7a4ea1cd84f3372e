/- What the functions of the program compute, as plain functions. -/
import Derived.Test.YtnbanheipmginaaEv1
set_option linter.unusedVariables false
noncomputable section
namespace Go.Ev
/-! loop.example/wholecheck/laws.toIntS -/
noncomputable def laws_toIntS.b3 (k : Nat) (e3 : (List Int) → Int → Option ((List Int) × Unit)) (p0 : (List Int)) (v3_3 : (List Int)) (v4_3 : Int) : Option ((List Int) × Unit) :=
  if (decide (v4_3 < ((p0.length : Int)))) = true then
    gd ((0 : Int) ≤ v4_3) <| gd (v4_3 < (p0.length : Int)) <| gd ((0 : Int) ≤ v4_3) <| gd (v4_3 < (v3_3.length : Int)) <| e3 (v3_3.set (v4_3.toNat) (p0.getD (v4_3.toNat) 0)) (w64 (v4_3 + 1))
  else
    some (v3_3, ())
noncomputable def laws_toIntS.l3 (k : Nat) (p0 : (List Int)) : Nat → (List Int) → Int → Option ((List Int) × Unit)
  | 0, _, _ => none
  | n + 1, v3_3, v4_3 => laws_toIntS.b3 k (laws_toIntS.l3 k p0 n) p0 v3_3 v4_3
noncomputable def laws_toIntS.bt (k : Nat) (e3 : (List Int) → Int → Option ((List Int) × Unit)) (p0 : (List Int)) : Option ((List Int) × Unit) :=
  gd ((0 : Int) ≤ ((p0.length : Int))) <| gd (((p0.length : Int)) ≤ 1099511627776) <| e3 ((List.replicate ((p0.length : Int)).toNat 0 : (List Int))) 0
noncomputable def laws_toIntS.f (k : Nat) (p0 : (List Int)) : Option ((List Int) × Unit) := laws_toIntS.bt k (laws_toIntS.l3 k p0 k) p0
/-! loop.example/wholecheck/spec.l1In -/
noncomputable def spec_l1In.bt (k : Nat) (p0 : Int) (p1 : Int) (p2 : Int) : Option (Bool × Unit) :=
  if (decide (p0 ≥ p1)) = true then
    some (decide (p0 ≤ p2), ())
  else
    some (false, ())
noncomputable def spec_l1In.f (k : Nat) (p0 : Int) (p1 : Int) (p2 : Int) : Option (Bool × Unit) := spec_l1In.bt k p0 p1 p2
/-! loop.example/wholecheck/spec.l2Has -/
noncomputable def spec_l2Has.b2 (k : Nat) (e2 : Int → Option (Bool × Unit)) (p0 : (List Int)) (p1 : Int) (v5_2 : Int) : Option (Bool × Unit) :=
  if (decide (v5_2 < ((p0.length : Int)))) = true then
    gd ((0 : Int) ≤ v5_2) <| gd (v5_2 < (p0.length : Int)) <| if ((p0.getD (v5_2.toNat) 0) == p1) = true then
      some (true, ())
    else
      e2 (w64 (v5_2 + 1))
  else
    some (false, ())
noncomputable def spec_l2Has.l2 (k : Nat) (p0 : (List Int)) (p1 : Int) : Nat → Int → Option (Bool × Unit)
  | 0, _ => none
  | n + 1, v5_2 => spec_l2Has.b2 k (spec_l2Has.l2 k p0 p1 n) p0 p1 v5_2
noncomputable def spec_l2Has.bt (k : Nat) (e2 : Int → Option (Bool × Unit)) (p0 : (List Int)) (p1 : Int) : Option (Bool × Unit) :=
  e2 0
noncomputable def spec_l2Has.f (k : Nat) (p0 : (List Int)) (p1 : Int) : Option (Bool × Unit) := spec_l2Has.bt k (spec_l2Has.l2 k p0 p1 k) p0 p1
/-! loop.example/wholecheck/spec.OrderValid -/
noncomputable def spec_OrderValid.b4 (k : Nat) (e4 : Int → Option (Bool × Unit)) (p0 : (List Int)) (p1 : Int) (v5_4 : Int) : Option (Bool × Unit) :=
  if (decide (v5_4 < p1)) = true then
    (spec_l2Has.f k p0 v5_4).bind fun r2 =>
    if (!r2.1) = true then
      some (false, ())
    else
      e4 (w64 (v5_4 + 1))
  else
    some (true, ())
noncomputable def spec_OrderValid.l4 (k : Nat) (p0 : (List Int)) (p1 : Int) : Nat → Int → Option (Bool × Unit)
  | 0, _ => none
  | n + 1, v5_4 => spec_OrderValid.b4 k (spec_OrderValid.l4 k p0 p1 n) p0 p1 v5_4
noncomputable def spec_OrderValid.bt (k : Nat) (e4 : Int → Option (Bool × Unit)) (p0 : (List Int)) (p1 : Int) : Option (Bool × Unit) :=
  (spec_l1In.f k p1 0 12).bind fun r1 =>
  if (!r1.1) = true then
    some (false, ())
  else
    if (((p0.length : Int)) != p1) = true then
      some (false, ())
    else
      e4 0
noncomputable def spec_OrderValid.f (k : Nat) (p0 : (List Int)) (p1 : Int) : Option (Bool × Unit) := spec_OrderValid.bt k (spec_OrderValid.l4 k p0 p1 k) p0 p1
/-! loop.example/wholecheck/spec.Exchanged -/
noncomputable def spec_Exchanged.b3 (k : Nat) (e3 : (List Int) → Int → Option ((List Int) × Unit)) (p0 : (List Int)) (p1 : (List Int)) (v5_3 : (List Int)) (v6_3 : Int) : Option ((List Int) × Unit) :=
  if (decide (v6_3 < ((p1.length : Int)))) = true then
    (spec_OrderValid.f k p1 ((p0.length : Int))).bind fun r1 =>
    if r1.1 = true then
      gd ((0 : Int) ≤ v6_3) <| gd (v6_3 < (p1.length : Int)) <| gd ((0 : Int) ≤ (p1.getD (v6_3.toNat) 0)) <| gd ((p1.getD (v6_3.toNat) 0) < (p0.length : Int)) <| gd ((v5_3.length : Int) + ([(p0.getD ((p1.getD (v6_3.toNat) 0).toNat) 0)].length : Int) ≤ 1099511627776) <| e3 (v5_3 ++ [(p0.getD ((p1.getD (v6_3.toNat) 0).toNat) 0)]) (w64 (v6_3 + 1))
    else
      some (v5_3, ())
  else
    some (v5_3, ())
noncomputable def spec_Exchanged.l3 (k : Nat) (p0 : (List Int)) (p1 : (List Int)) : Nat → (List Int) → Int → Option ((List Int) × Unit)
  | 0, _, _ => none
  | n + 1, v5_3, v6_3 => spec_Exchanged.b3 k (spec_Exchanged.l3 k p0 p1 n) p0 p1 v5_3 v6_3
noncomputable def spec_Exchanged.bt (k : Nat) (e3 : (List Int) → Int → Option ((List Int) × Unit)) (p0 : (List Int)) (p1 : (List Int)) : Option ((List Int) × Unit) :=
  e3 [] 0
noncomputable def spec_Exchanged.f (k : Nat) (p0 : (List Int)) (p1 : (List Int)) : Option ((List Int) × Unit) := spec_Exchanged.bt k (spec_Exchanged.l3 k p0 p1 k) p0 p1
/-! loop.example/wholecheck/impl.in -/
noncomputable def impl_in.bt (k : Nat) (p0 : Int) (p1 : Int) (p2 : Int) : Option (Bool × Unit) :=
  if (decide (p0 ≥ p1)) = true then
    some (decide (p0 ≤ p2), ())
  else
    some (false, ())
noncomputable def impl_in.f (k : Nat) (p0 : Int) (p1 : Int) (p2 : Int) : Option (Bool × Unit) := impl_in.bt k p0 p1 p2
/-! slices.Index[[]int,int] -/
noncomputable def slices_Index_int_int.b2 (k : Nat) (e2 : Int → Option (Int × Unit)) (p0 : (List Int)) (p1 : Int) (v8_2 : Int) : Option (Int × Unit) :=
  if (decide (v8_2 < ((p0.length : Int)))) = true then
    gd ((0 : Int) ≤ v8_2) <| gd (v8_2 < (p0.length : Int)) <| if (p1 == (p0.getD (v8_2.toNat) 0)) = true then
      some (v8_2, ())
    else
      e2 (w64 (v8_2 + 1))
  else
    some ((-1), ())
noncomputable def slices_Index_int_int.l2 (k : Nat) (p0 : (List Int)) (p1 : Int) : Nat → Int → Option (Int × Unit)
  | 0, _ => none
  | n + 1, v8_2 => slices_Index_int_int.b2 k (slices_Index_int_int.l2 k p0 p1 n) p0 p1 v8_2
noncomputable def slices_Index_int_int.bt (k : Nat) (e2 : Int → Option (Int × Unit)) (p0 : (List Int)) (p1 : Int) : Option (Int × Unit) :=
  e2 0
noncomputable def slices_Index_int_int.f (k : Nat) (p0 : (List Int)) (p1 : Int) : Option (Int × Unit) := slices_Index_int_int.bt k (slices_Index_int_int.l2 k p0 p1 k) p0 p1
/-! slices.Contains[[]int,int] -/
noncomputable def slices_Contains_int_int.bt (k : Nat) (p0 : (List Int)) (p1 : Int) : Option (Bool × Unit) :=
  (slices_Index_int_int.f k p0 p1).bind fun r1 =>
  some (decide (r1.1 ≥ 0), ())
noncomputable def slices_Contains_int_int.f (k : Nat) (p0 : (List Int)) (p1 : Int) : Option (Bool × Unit) := slices_Contains_int_int.bt k p0 p1
/-! loop.example/wholecheck/impl.OrderValid -/
noncomputable def impl_OrderValid.b4 (k : Nat) (e4 : Int → Option (Bool × Unit)) (p0 : (List Int)) (p1 : Int) (v18_4 : Int) : Option (Bool × Unit) :=
  if (decide (v18_4 < ((p0.length : Int)))) = true then
    gd ((0 : Int) ≤ v18_4) <| gd (v18_4 < (p0.length : Int)) <| (impl_in.f k (p0.getD (v18_4.toNat) 0) 0 (w64 (p1 - 1))).bind fun r2 =>
    if (!r2.1) = true then
      some (false, ())
    else
      gd ((0 : Int) ≤ 0) <| gd ((0 : Int) ≤ v18_4) <| gd (v18_4 ≤ (p0.length : Int)) <| (slices_Contains_int_int.f k ((p0.take (v18_4.toNat)).drop (Int.toNat 0)) (p0.getD (v18_4.toNat) 0)).bind fun r3 =>
      if r3.1 = true then
        some (false, ())
      else
        e4 (w64 (v18_4 + 1))
  else
    some (true, ())
noncomputable def impl_OrderValid.l4 (k : Nat) (p0 : (List Int)) (p1 : Int) : Nat → Int → Option (Bool × Unit)
  | 0, _ => none
  | n + 1, v18_4 => impl_OrderValid.b4 k (impl_OrderValid.l4 k p0 p1 n) p0 p1 v18_4
noncomputable def impl_OrderValid.bt (k : Nat) (e4 : Int → Option (Bool × Unit)) (p0 : (List Int)) (p1 : Int) : Option (Bool × Unit) :=
  (impl_in.f k p1 0 12).bind fun r1 =>
  if (!r1.1) = true then
    some (false, ())
  else
    if (((p0.length : Int)) != p1) = true then
      some (false, ())
    else
      e4 0
noncomputable def impl_OrderValid.f (k : Nat) (p0 : (List Int)) (p1 : Int) : Option (Bool × Unit) := impl_OrderValid.bt k (impl_OrderValid.l4 k p0 p1 k) p0 p1
/-! loop.example/wholecheck/impl.exchanged -/
noncomputable def impl_exchanged.b3 (k : Nat) (e3 : (List Int) → Int → Option ((List Int) × Unit)) (p0 : (List Int)) (p1 : (List Int)) (v5_3 : (List Int)) (v13_3 : Int) : Option ((List Int) × Unit) :=
  if (decide (v13_3 < ((p1.length : Int)))) = true then
    gd ((0 : Int) ≤ v13_3) <| gd (v13_3 < (p1.length : Int)) <| gd ((0 : Int) ≤ (p1.getD (v13_3.toNat) 0)) <| gd ((p1.getD (v13_3.toNat) 0) < (p0.length : Int)) <| gd ((0 : Int) ≤ v13_3) <| gd (v13_3 < (v5_3.length : Int)) <| e3 (v5_3.set (v13_3.toNat) (p0.getD ((p1.getD (v13_3.toNat) 0).toNat) 0)) (w64 (v13_3 + 1))
  else
    some (v5_3, ())
noncomputable def impl_exchanged.l3 (k : Nat) (p0 : (List Int)) (p1 : (List Int)) : Nat → (List Int) → Int → Option ((List Int) × Unit)
  | 0, _, _ => none
  | n + 1, v5_3, v13_3 => impl_exchanged.b3 k (impl_exchanged.l3 k p0 p1 n) p0 p1 v5_3 v13_3
noncomputable def impl_exchanged.bt (k : Nat) (e3 : (List Int) → Int → Option ((List Int) × Unit)) (p0 : (List Int)) (p1 : (List Int)) : Option ((List Int) × Unit) :=
  gd ((0 : Int) ≤ ((p0.length : Int))) <| gd (((p0.length : Int)) ≤ 1099511627776) <| e3 ((List.replicate ((p0.length : Int)).toNat 0 : (List Int))) 0
noncomputable def impl_exchanged.f (k : Nat) (p0 : (List Int)) (p1 : (List Int)) : Option ((List Int) × Unit) := impl_exchanged.bt k (impl_exchanged.l3 k p0 p1 k) p0 p1
/-! loop.example/wholecheck/impl.clone[int] -/
noncomputable def impl_clone_int.bt (k : Nat) (p0 : (List Int)) : Option ((List Int) × Unit) :=
  if (((p0.length : Int)) == 0) = true then
    some ([], ())
  else
    gd ((0 : Int) ≤ ((p0.length : Int))) <| gd (((p0.length : Int)) ≤ 1099511627776) <| some (p0.take ((List.replicate ((p0.length : Int)).toNat 0 : (List Int))).length ++ ((List.replicate ((p0.length : Int)).toNat 0 : (List Int))).drop p0.length, ())
noncomputable def impl_clone_int.f (k : Nat) (p0 : (List Int)) : Option ((List Int) × Unit) := impl_clone_int.bt k p0
/-! loop.example/wholecheck/impl.Exchanged -/
noncomputable def impl_Exchanged.bt (k : Nat) (p0 : (List Int)) (p1 : (List Int)) : Option ((List Int) × Unit) :=
  (impl_OrderValid.f k p1 ((p0.length : Int))).bind fun r1 =>
  if (!r1.1) = true then
    some ([], ())
  else
    (impl_exchanged.f k p0 p1).bind fun r2 =>
    (impl_clone_int.f k r2.1).bind fun r3 =>
    some (r3.1, ())
noncomputable def impl_Exchanged.f (k : Nat) (p0 : (List Int)) (p1 : (List Int)) : Option ((List Int) × Unit) := impl_Exchanged.bt k p0 p1
/-! loop.example/wholecheck/laws.eqIntS -/
noncomputable def laws_eqIntS.b4 (k : Nat) (e4 : Int → Option (Bool × Unit)) (p0 : (List Int)) (p1 : (List Int)) (v5_4 : Int) : Option (Bool × Unit) :=
  if (decide (v5_4 < ((p0.length : Int)))) = true then
    gd ((0 : Int) ≤ v5_4) <| gd (v5_4 < (p0.length : Int)) <| gd ((0 : Int) ≤ v5_4) <| gd (v5_4 < (p1.length : Int)) <| if ((p0.getD (v5_4.toNat) 0) != (p1.getD (v5_4.toNat) 0)) = true then
      some (false, ())
    else
      e4 (w64 (v5_4 + 1))
  else
    some (true, ())
noncomputable def laws_eqIntS.l4 (k : Nat) (p0 : (List Int)) (p1 : (List Int)) : Nat → Int → Option (Bool × Unit)
  | 0, _ => none
  | n + 1, v5_4 => laws_eqIntS.b4 k (laws_eqIntS.l4 k p0 p1 n) p0 p1 v5_4
noncomputable def laws_eqIntS.bt (k : Nat) (e4 : Int → Option (Bool × Unit)) (p0 : (List Int)) (p1 : (List Int)) : Option (Bool × Unit) :=
  if (((p0.length : Int)) != ((p1.length : Int))) = true then
    some (false, ())
  else
    e4 0
noncomputable def laws_eqIntS.f (k : Nat) (p0 : (List Int)) (p1 : (List Int)) : Option (Bool × Unit) := laws_eqIntS.bt k (laws_eqIntS.l4 k p0 p1 k) p0 p1
/-! loop.example/wholecheck/laws.markIntS -/
noncomputable def laws_markIntS.b2 (k : Nat) (e2 : (List Int) → Int → Int → Option (Int × (List Int))) (v0_2 : (List Int)) (v1_2 : Int) (v5_2 : Int) : Option (Int × (List Int)) :=
  if (decide (v5_2 < ((v0_2.length : Int)))) = true then
    gd ((0 : Int) ≤ v5_2) <| gd (v5_2 < (v0_2.length : Int)) <| e2 (v0_2.set (v5_2.toNat) v1_2) (w64 (v1_2 + 1)) (w64 (v5_2 + 1))
  else
    some (v1_2, v0_2)
noncomputable def laws_markIntS.l2 (k : Nat) : Nat → (List Int) → Int → Int → Option (Int × (List Int))
  | 0, _, _, _ => none
  | n + 1, v0_2, v1_2, v5_2 => laws_markIntS.b2 k (laws_markIntS.l2 k n) v0_2 v1_2 v5_2
noncomputable def laws_markIntS.bt (k : Nat) (e2 : (List Int) → Int → Int → Option (Int × (List Int))) (p0 : (List Int)) (p1 : Int) : Option (Int × (List Int)) :=
  e2 p0 p1 0
noncomputable def laws_markIntS.f (k : Nat) (p0 : (List Int)) (p1 : Int) : Option (Int × (List Int)) := laws_markIntS.bt k (laws_markIntS.l2 k k) p0 p1
/-! loop.example/wholecheck/laws.heldIntS -/
noncomputable def laws_heldIntS.b2 (k : Nat) (e2 : Int → Int → Option (Int × Unit)) (p0 : (List Int)) (v1_2 : Int) (v5_2 : Int) : Option (Int × Unit) :=
  if (decide (v5_2 < ((p0.length : Int)))) = true then
    gd ((0 : Int) ≤ v5_2) <| gd (v5_2 < (p0.length : Int)) <| if ((p0.getD (v5_2.toNat) 0) != v1_2) = true then
      some ((-1), ())
    else
      e2 (w64 (v1_2 + 1)) (w64 (v5_2 + 1))
  else
    some (v1_2, ())
noncomputable def laws_heldIntS.l2 (k : Nat) (p0 : (List Int)) : Nat → Int → Int → Option (Int × Unit)
  | 0, _, _ => none
  | n + 1, v1_2, v5_2 => laws_heldIntS.b2 k (laws_heldIntS.l2 k p0 n) p0 v1_2 v5_2
noncomputable def laws_heldIntS.bt (k : Nat) (e2 : Int → Int → Option (Int × Unit)) (p0 : (List Int)) (p1 : Int) : Option (Int × Unit) :=
  e2 p1 0
noncomputable def laws_heldIntS.f (k : Nat) (p0 : (List Int)) (p1 : Int) : Option (Int × Unit) := laws_heldIntS.bt k (laws_heldIntS.l2 k p0 k) p0 p1
/-! loop.example/wholecheck/laws.FnExactExchanged -/
noncomputable def laws_FnExactExchanged.bt (k : Nat) (p0 : (List Int)) (p1 : (List Int)) : Option (Bool × Unit) :=
  if (decide (((p0.length : Int)) > 1048576)) = true then
    some (true, ())
  else
    if (decide (((p1.length : Int)) > 1048576)) = true then
      some (true, ())
    else
      (laws_toIntS.f k p0).bind fun r1 =>
      (laws_toIntS.f k p1).bind fun r2 =>
      (spec_Exchanged.f k r1.1 r2.1).bind fun r3 =>
      (laws_toIntS.f k p0).bind fun r4 =>
      (laws_toIntS.f k p1).bind fun r5 =>
      (impl_Exchanged.f k r4.1 r5.1).bind fun r6 =>
      (laws_eqIntS.f k r6.1 r3.1).bind fun r7 =>
      if (!r7.1) = true then
        some (false, ())
      else
        (laws_toIntS.f k p0).bind fun r8 =>
        (laws_eqIntS.f k r4.1 r8.1).bind fun r9 =>
        if (!r9.1) = true then
          some (false, ())
        else
          (laws_toIntS.f k p1).bind fun r10 =>
          (laws_eqIntS.f k r5.1 r10.1).bind fun r11 =>
          if (!r11.1) = true then
            some (false, ())
          else
            (laws_markIntS.f k r4.1 1).bind fun r12 =>
            (laws_markIntS.f k r5.1 r12.1).bind fun r13 =>
            if (decide (r13.1 < 0)) = true then
              some (false, ())
            else
              (laws_eqIntS.f k r6.1 r3.1).bind fun r14 =>
              if (!r14.1) = true then
                some (false, ())
              else
                (laws_markIntS.f k r6.1 1).bind fun r15 =>
                (laws_heldIntS.f k r15.2 1).bind fun r16 =>
                if (decide (r16.1 < 0)) = true then
                  some (false, ())
                else
                  if (r16.1 != r15.1) = true then
                    some (false, ())
                  else
                    (laws_toIntS.f k p0).bind fun r17 =>
                    (laws_toIntS.f k p1).bind fun r18 =>
                    (impl_Exchanged.f k r17.1 r18.1).bind fun r19 =>
                    (laws_eqIntS.f k r19.1 r3.1).bind fun r20 =>
                    if (!r20.1) = true then
                      some (false, ())
                    else
                      (laws_heldIntS.f k r15.2 1).bind fun r21 =>
                      if (decide (r21.1 < 0)) = true then
                        some (false, ())
                      else
                        if (r21.1 != r15.1) = true then
                          some (false, ())
                        else
                          some (true, ())
noncomputable def laws_FnExactExchanged.f (k : Nat) (p0 : (List Int)) (p1 : (List Int)) : Option (Bool × Unit) := laws_FnExactExchanged.bt k p0 p1
/-! loop.example/wholecheck/spec.OrderWith -/
noncomputable def spec_OrderWith.b5 (k : Nat) (e5 : (List Int) → Int → Option ((List Int) × Unit)) (p0 : (List Int)) (p1 : (List Int)) (v5_5 : (List Int)) (v6_5 : Int) : Option ((List Int) × Unit) :=
  if (decide (v6_5 < ((p1.length : Int)))) = true then
    gd ((0 : Int) ≤ v6_5) <| gd (v6_5 < (p1.length : Int)) <| gd ((0 : Int) ≤ (p1.getD (v6_5.toNat) 0)) <| gd ((p1.getD (v6_5.toNat) 0) < (p0.length : Int)) <| gd ((v5_5.length : Int) + ([(p0.getD ((p1.getD (v6_5.toNat) 0).toNat) 0)].length : Int) ≤ 1099511627776) <| e5 (v5_5 ++ [(p0.getD ((p1.getD (v6_5.toNat) 0).toNat) 0)]) (w64 (v6_5 + 1))
  else
    some (v5_5, ())
noncomputable def spec_OrderWith.l5 (k : Nat) (p0 : (List Int)) (p1 : (List Int)) : Nat → (List Int) → Int → Option ((List Int) × Unit)
  | 0, _, _ => none
  | n + 1, v5_5, v6_5 => spec_OrderWith.b5 k (spec_OrderWith.l5 k p0 p1 n) p0 p1 v5_5 v6_5
noncomputable def spec_OrderWith.bt (k : Nat) (e5 : (List Int) → Int → Option ((List Int) × Unit)) (p0 : (List Int)) (p1 : (List Int)) : Option ((List Int) × Unit) :=
  (spec_OrderValid.f k p0 ((p0.length : Int))).bind fun r1 =>
  if (!r1.1) = true then
    some ([], ())
  else
    (spec_OrderValid.f k p1 ((p0.length : Int))).bind fun r2 =>
    if (!r2.1) = true then
      some ([], ())
    else
      e5 [] 0
noncomputable def spec_OrderWith.f (k : Nat) (p0 : (List Int)) (p1 : (List Int)) : Option ((List Int) × Unit) := spec_OrderWith.bt k (spec_OrderWith.l5 k p0 p1 k) p0 p1
/-! loop.example/wholecheck/impl.OrderWith -/
noncomputable def impl_OrderWith.bt (k : Nat) (p0 : (List Int)) (p1 : (List Int)) : Option ((List Int) × Unit) :=
  (impl_OrderValid.f k p0 ((p0.length : Int))).bind fun r1 =>
  if (!r1.1) = true then
    some ([], ())
  else
    (impl_OrderValid.f k p1 ((p0.length : Int))).bind fun r2 =>
    if (!r2.1) = true then
      some ([], ())
    else
      (impl_exchanged.f k p0 p1).bind fun r3 =>
      (impl_clone_int.f k r3.1).bind fun r4 =>
      some (r4.1, ())
noncomputable def impl_OrderWith.f (k : Nat) (p0 : (List Int)) (p1 : (List Int)) : Option ((List Int) × Unit) := impl_OrderWith.bt k p0 p1
/-! loop.example/wholecheck/laws.FnExactOrderWith -/
noncomputable def laws_FnExactOrderWith.bt (k : Nat) (p0 : (List Int)) (p1 : (List Int)) : Option (Bool × Unit) :=
  if (decide (((p0.length : Int)) > 1048576)) = true then
    some (true, ())
  else
    if (decide (((p1.length : Int)) > 1048576)) = true then
      some (true, ())
    else
      (laws_toIntS.f k p0).bind fun r1 =>
      (laws_toIntS.f k p1).bind fun r2 =>
      (spec_OrderWith.f k r1.1 r2.1).bind fun r3 =>
      (laws_toIntS.f k p0).bind fun r4 =>
      (laws_toIntS.f k p1).bind fun r5 =>
      (impl_OrderWith.f k r4.1 r5.1).bind fun r6 =>
      (laws_eqIntS.f k r6.1 r3.1).bind fun r7 =>
      if (!r7.1) = true then
        some (false, ())
      else
        (laws_toIntS.f k p0).bind fun r8 =>
        (laws_eqIntS.f k r4.1 r8.1).bind fun r9 =>
        if (!r9.1) = true then
          some (false, ())
        else
          (laws_toIntS.f k p1).bind fun r10 =>
          (laws_eqIntS.f k r5.1 r10.1).bind fun r11 =>
          if (!r11.1) = true then
            some (false, ())
          else
            (laws_markIntS.f k r4.1 1).bind fun r12 =>
            (laws_markIntS.f k r5.1 r12.1).bind fun r13 =>
            if (decide (r13.1 < 0)) = true then
              some (false, ())
            else
              (laws_eqIntS.f k r6.1 r3.1).bind fun r14 =>
              if (!r14.1) = true then
                some (false, ())
              else
                (laws_markIntS.f k r6.1 1).bind fun r15 =>
                (laws_heldIntS.f k r15.2 1).bind fun r16 =>
                if (decide (r16.1 < 0)) = true then
                  some (false, ())
                else
                  if (r16.1 != r15.1) = true then
                    some (false, ())
                  else
                    (laws_toIntS.f k p0).bind fun r17 =>
                    (laws_toIntS.f k p1).bind fun r18 =>
                    (impl_OrderWith.f k r17.1 r18.1).bind fun r19 =>
                    (laws_eqIntS.f k r19.1 r3.1).bind fun r20 =>
                    if (!r20.1) = true then
                      some (false, ())
                    else
                      (laws_heldIntS.f k r15.2 1).bind fun r21 =>
                      if (decide (r21.1 < 0)) = true then
                        some (false, ())
                      else
                        if (r21.1 != r15.1) = true then
                          some (false, ())
                        else
                          some (true, ())
noncomputable def laws_FnExactOrderWith.f (k : Nat) (p0 : (List Int)) (p1 : (List Int)) : Option (Bool × Unit) := laws_FnExactOrderWith.bt k p0 p1
/-! loop.example/wholecheck/spec.l40Open -/
noncomputable def spec_l40Open.bt (k : Nat) (p0 : (List Int)) : Option (((List Int) × Int) × Unit) :=
  if (decide (((p0.length : Int)) > 2000)) = true then
    gd ((0 : Int) ≤ 0) <| gd ((0 : Int) ≤ 2000) <| gd (2000 ≤ (p0.length : Int)) <| some (((p0.take (Int.toNat 2000)).drop (Int.toNat 0), 0), ())
  else
    some ((p0, 0), ())
noncomputable def spec_l40Open.f (k : Nat) (p0 : (List Int)) : Option (((List Int) × Int) × Unit) := spec_l40Open.bt k p0
/-! (*loop.example/wholecheck/spec.l40Rd).pick -/
noncomputable def spec_l40Rd_pick.bt (k : Nat) (p0 : ((List Int) × Int)) (p1 : Int) : Option (Int × ((List Int) × Int)) :=
  if (decide (p1 < 1)) = true then
    some (0, (p0.1, w64 (p0.2 + 1)))
  else
    if (((p0.1.length : Int)) == 0) = true then
      some (0, (p0.1, w64 (p0.2 + 1)))
    else
      if (decide ((w64 ((w64 (p0.2 + 1)) - 1)) < ((p0.1.length : Int)))) = true then
        gd ((0 : Int) ≤ (w64 ((w64 (p0.2 + 1)) - 1))) <| gd ((w64 ((w64 (p0.2 + 1)) - 1)) < (p0.1.length : Int)) <| gd ((p1 : Int) ≠ 0) <| some ((w64 (p0.1.getD ((w64 ((w64 (p0.2 + 1)) - 1)).toNat) 0)).tmod p1, (p0.1, w64 (p0.2 + 1)))
      else
        gd ((((p0.1.length : Int)) : Int) ≠ 0) <| gd ((0 : Int) ≤ ((w64 ((w64 (p0.2 + 1)) - 1)).tmod ((p0.1.length : Int)))) <| gd (((w64 ((w64 (p0.2 + 1)) - 1)).tmod ((p0.1.length : Int))) < (p0.1.length : Int)) <| gd ((((p0.1.length : Int)) : Int) ≠ 0) <| gd ((0 : Int) ≤ ((w64 ((w64 ((w64 ((w64 (p0.2 + 1)) - 1)) * 7)) + 3)).tmod ((p0.1.length : Int)))) <| gd (((w64 ((w64 ((w64 ((w64 (p0.2 + 1)) - 1)) * 7)) + 3)).tmod ((p0.1.length : Int))) < (p0.1.length : Int)) <| gd ((((p0.1.length : Int)) : Int) ≠ 0) <| gd ((64 : Int) ≠ 0) <| gd ((p1 : Int) ≠ 0) <| some ((w64 (BitVec.ofInt IntKind.i64.bits (w64 ((w64 ((w64 ((w64 ((w64 (p0.1.getD (((w64 ((w64 (p0.2 + 1)) - 1)).tmod ((p0.1.length : Int))).toNat) 0)) * 131)) + (w64 ((w64 (p0.1.getD (((w64 ((w64 ((w64 ((w64 (p0.2 + 1)) - 1)) * 7)) + 3)).tmod ((p0.1.length : Int))).toNat) 0)) * 1117)))) + (w64 ((w64 ((w64 (p0.2 + 1)) - 1)) * 29)))) + (w64 ((w64 ((w64 ((w64 (p0.2 + 1)) - 1)).tdiv ((p0.1.length : Int)))) * 53)))) ^^^ BitVec.ofInt IntKind.i64.bits (w64 ((w64 ((w64 ((w64 ((w64 ((w64 (p0.1.getD (((w64 ((w64 (p0.2 + 1)) - 1)).tmod ((p0.1.length : Int))).toNat) 0)) * 131)) + (w64 ((w64 (p0.1.getD (((w64 ((w64 ((w64 ((w64 (p0.2 + 1)) - 1)) * 7)) + 3)).tmod ((p0.1.length : Int))).toNat) 0)) * 1117)))) + (w64 ((w64 ((w64 (p0.2 + 1)) - 1)) * 29)))) + (w64 ((w64 ((w64 ((w64 (p0.2 + 1)) - 1)).tdiv ((p0.1.length : Int)))) * 53)))).tdiv 64))).toNat).tmod p1, (p0.1, w64 (p0.2 + 1)))
noncomputable def spec_l40Rd_pick.f (k : Nat) (p0 : ((List Int) × Int)) (p1 : Int) : Option (Int × ((List Int) × Int)) := spec_l40Rd_pick.bt k p0 p1
/-! (*loop.example/wholecheck/spec.l40Rd).num -/
noncomputable def spec_l40Rd_num.bt (k : Nat) (p0 : ((List Int) × Int)) (p1 : (List Int)) : Option (Int × ((List Int) × Int)) :=
  (spec_l40Rd_pick.f k p0 ((p1.length : Int))).bind fun r1 =>
  gd ((0 : Int) ≤ r1.1) <| gd (r1.1 < (p1.length : Int)) <| some (p1.getD (r1.1.toNat) 0, r1.2)
noncomputable def spec_l40Rd_num.f (k : Nat) (p0 : ((List Int) × Int)) (p1 : (List Int)) : Option (Int × ((List Int) × Int)) := spec_l40Rd_num.bt k p0 p1
/-! loop.example/wholecheck/spec.l1Number -/
noncomputable def spec_l1Number.bt (k : Nat) (p0 : ((List Int) × Int)) : Option (Int × ((List Int) × Int)) :=
  (spec_l40Rd_pick.f k p0 4).bind fun r1 =>
  (spec_l40Rd_pick.f k r1.2 4).bind fun r2 =>
  (spec_l40Rd_pick.f k r2.2 7).bind fun r3 =>
  (spec_l40Rd_pick.f k r3.2 200).bind fun r4 =>
  (spec_l40Rd_pick.f k r4.2 4).bind fun r5 =>
  gd ((0 : Int) ≤ r5.1) <| gd (r5.1 < ([9999, (-9999), 5000, 100].length : Int)) <| (spec_l40Rd_num.f k r5.2 [r1.1, r2.1, (w64 (r3.1 - 3)), 1, 0, (w64 (r4.1 - 100)), ([9999, (-9999), 5000, 100].getD (r5.1.toNat) 0)]).bind fun r6 =>
  some (r6.1, r6.2)
noncomputable def spec_l1Number.f (k : Nat) (p0 : ((List Int) × Int)) : Option (Int × ((List Int) × Int)) := spec_l1Number.bt k p0
/-! loop.example/wholecheck/spec.l1Numbers -/
noncomputable def spec_l1Numbers.b3 (k : Nat) (e3 : ((List Int) × Int) → (List Int) → Int → Option ((List Int) × ((List Int) × Int))) (p1 : Int) (v0_3 : ((List Int) × Int)) (v5_3 : (List Int)) (v6_3 : Int) : Option ((List Int) × ((List Int) × Int)) :=
  if (decide (v6_3 < p1)) = true then
    (spec_l1Number.f k v0_3).bind fun r1 =>
    gd ((v5_3.length : Int) + ([r1.1].length : Int) ≤ 1099511627776) <| e3 r1.2 (v5_3 ++ [r1.1]) (w64 (v6_3 + 1))
  else
    if (decide (p1 > 0)) = true then
      (spec_l40Rd_pick.f k v0_3 30).bind fun r2 =>
      if (r2.1 == 0) = true then
        (spec_l40Rd_num.f k r2.2 [10000, (-10000)]).bind fun r3 =>
        gd ((0 : Int) ≤ 0) <| gd (0 < (v5_3.length : Int)) <| some (v5_3.set (Int.toNat 0) r3.1, r3.2)
      else
        some (v5_3, r2.2)
    else
      some (v5_3, v0_3)
noncomputable def spec_l1Numbers.l3 (k : Nat) (p1 : Int) : Nat → ((List Int) × Int) → (List Int) → Int → Option ((List Int) × ((List Int) × Int))
  | 0, _, _, _ => none
  | n + 1, v0_3, v5_3, v6_3 => spec_l1Numbers.b3 k (spec_l1Numbers.l3 k p1 n) p1 v0_3 v5_3 v6_3
noncomputable def spec_l1Numbers.bt (k : Nat) (e3 : ((List Int) × Int) → (List Int) → Int → Option ((List Int) × ((List Int) × Int))) (p0 : ((List Int) × Int)) (p1 : Int) : Option ((List Int) × ((List Int) × Int)) :=
  e3 p0 [] 0
noncomputable def spec_l1Numbers.f (k : Nat) (p0 : ((List Int) × Int)) (p1 : Int) : Option ((List Int) × ((List Int) × Int)) := spec_l1Numbers.bt k (spec_l1Numbers.l3 k p1 k) p0 p1
/-! loop.example/wholecheck/spec.l9Plain -/
noncomputable def spec_l9Plain.b3 (k : Nat) (e3 : (List Int) → Int → Option ((List Int) × Unit)) (p0 : Int) (v3_3 : (List Int)) (v4_3 : Int) : Option ((List Int) × Unit) :=
  if (decide (v4_3 < p0)) = true then
    gd ((v3_3.length : Int) + ([v4_3].length : Int) ≤ 1099511627776) <| e3 (v3_3 ++ [v4_3]) (w64 (v4_3 + 1))
  else
    some (v3_3, ())
noncomputable def spec_l9Plain.l3 (k : Nat) (p0 : Int) : Nat → (List Int) → Int → Option ((List Int) × Unit)
  | 0, _, _ => none
  | n + 1, v3_3, v4_3 => spec_l9Plain.b3 k (spec_l9Plain.l3 k p0 n) p0 v3_3 v4_3
noncomputable def spec_l9Plain.bt (k : Nat) (e3 : (List Int) → Int → Option ((List Int) × Unit)) (p0 : Int) : Option ((List Int) × Unit) :=
  e3 [] 0
noncomputable def spec_l9Plain.f (k : Nat) (p0 : Int) : Option ((List Int) × Unit) := spec_l9Plain.bt k (spec_l9Plain.l3 k p0 k) p0
/-! loop.example/wholecheck/spec.l9Order -/
noncomputable def spec_l9Order.b3 (k : Nat) (e3 : ((List Int) × Int) → (List Int) → Int → Option ((List Int) × ((List Int) × Int))) (p1 : Int) (v0_3 : ((List Int) × Int)) (v5_3 : (List Int)) (v6_3 : Int) : Option ((List Int) × ((List Int) × Int)) :=
  if (decide (v6_3 < p1)) = true then
    (spec_l40Rd_pick.f k v0_3 p1).bind fun r2 =>
    gd ((0 : Int) ≤ v6_3) <| gd (v6_3 < (v5_3.length : Int)) <| gd ((0 : Int) ≤ r2.1) <| gd (r2.1 < (v5_3.length : Int)) <| gd ((0 : Int) ≤ v6_3) <| gd (v6_3 < (v5_3.length : Int)) <| gd ((0 : Int) ≤ r2.1) <| gd (r2.1 < ((v5_3.set (v6_3.toNat) (v5_3.getD (r2.1.toNat) 0)).length : Int)) <| e3 r2.2 ((v5_3.set (v6_3.toNat) (v5_3.getD (r2.1.toNat) 0)).set (r2.1.toNat) (v5_3.getD (v6_3.toNat) 0)) (w64 (v6_3 + 1))
  else
    (spec_l40Rd_pick.f k v0_3 14).bind fun r3 =>
    if (r3.1 == 0) = true then
      (spec_l40Rd_pick.f k r3.2 2).bind fun r4 =>
      if (r4.1 == 0) = true then
        gd ((v5_3.length : Int) + ([0].length : Int) ≤ 1099511627776) <| some (v5_3 ++ [0], r4.2)
      else
        if (p1 == 0) = true then
          gd ((v5_3.length : Int) + ([0].length : Int) ≤ 1099511627776) <| some (v5_3 ++ [0], r4.2)
        else
          gd ((0 : Int) ≤ (w64 (p1 - 1))) <| gd ((w64 (p1 - 1)) < (v5_3.length : Int)) <| (spec_l40Rd_num.f k r4.2 [p1, (-1), (v5_3.getD ((w64 (p1 - 1)).toNat) 0)]).bind fun r5 =>
          gd ((0 : Int) ≤ 0) <| gd (0 < (v5_3.length : Int)) <| some (v5_3.set (Int.toNat 0) r5.1, r5.2)
    else
      some (v5_3, r3.2)
noncomputable def spec_l9Order.l3 (k : Nat) (p1 : Int) : Nat → ((List Int) × Int) → (List Int) → Int → Option ((List Int) × ((List Int) × Int))
  | 0, _, _, _ => none
  | n + 1, v0_3, v5_3, v6_3 => spec_l9Order.b3 k (spec_l9Order.l3 k p1 n) p1 v0_3 v5_3 v6_3
noncomputable def spec_l9Order.bt (k : Nat) (e3 : ((List Int) × Int) → (List Int) → Int → Option ((List Int) × ((List Int) × Int))) (p0 : ((List Int) × Int)) (p1 : Int) : Option ((List Int) × ((List Int) × Int)) :=
  (spec_l9Plain.f k p1).bind fun r1 =>
  e3 p0 r1.1 0
noncomputable def spec_l9Order.f (k : Nat) (p0 : ((List Int) × Int)) (p1 : Int) : Option ((List Int) × ((List Int) × Int)) := spec_l9Order.bt k (spec_l9Order.l3 k p1 k) p0 p1
/-! loop.example/wholecheck/spec.DrawExchanged -/
noncomputable def spec_DrawExchanged.bt (k : Nat) (p0 : (List Int)) : Option (((List Int) × (List Int)) × Unit) :=
  (spec_l40Open.f k p0).bind fun r1 =>
  (spec_l40Rd_num.f k r1.1 [2, 3, 1, 0, 4]).bind fun r2 =>
  (spec_l1Numbers.f k r2.2 r2.1).bind fun r3 =>
  (spec_l9Order.f k r3.2 r2.1).bind fun r4 =>
  some ((r3.1, r4.1), ())
noncomputable def spec_DrawExchanged.f (k : Nat) (p0 : (List Int)) : Option (((List Int) × (List Int)) × Unit) := spec_DrawExchanged.bt k p0
/-! loop.example/wholecheck/spec.DrawOrderWith -/
noncomputable def spec_DrawOrderWith.bt (k : Nat) (p0 : (List Int)) : Option (((List Int) × (List Int)) × Unit) :=
  (spec_l40Open.f k p0).bind fun r1 =>
  (spec_l40Rd_num.f k r1.1 [2, 3, 1, 0, 4]).bind fun r2 =>
  (spec_l9Order.f k r2.2 r2.1).bind fun r3 =>
  (spec_l9Order.f k r3.2 r2.1).bind fun r4 =>
  some ((r3.1, r4.1), ())
noncomputable def spec_DrawOrderWith.f (k : Nat) (p0 : (List Int)) : Option (((List Int) × (List Int)) × Unit) := spec_DrawOrderWith.bt k p0
/-! loop.example/wholecheck/laws.wcInts -/
noncomputable def laws_wcInts.b4 (k : Nat) (e4 : Int → Option (Bool × Unit)) (p0 : (List Int)) (p1 : (List Int)) (v14_4 : Int) : Option (Bool × Unit) :=
  if (decide (v14_4 < ((p0.length : Int)))) = true then
    gd ((0 : Int) ≤ v14_4) <| gd (v14_4 < (p0.length : Int)) <| gd ((0 : Int) ≤ v14_4) <| gd (v14_4 < (p1.length : Int)) <| if ((p1.getD (v14_4.toNat) 0) != (p0.getD (v14_4.toNat) 0)) = true then
      some (false, ())
    else
      e4 (w64 (v14_4 + 1))
  else
    some (true, ())
noncomputable def laws_wcInts.l4 (k : Nat) (p0 : (List Int)) (p1 : (List Int)) : Nat → Int → Option (Bool × Unit)
  | 0, _ => none
  | n + 1, v14_4 => laws_wcInts.b4 k (laws_wcInts.l4 k p0 p1 n) p0 p1 v14_4
noncomputable def laws_wcInts.bt (k : Nat) (e4 : Int → Option (Bool × Unit)) (p0 : (List Int)) (p1 : (List Int)) : Option (Bool × Unit) :=
  if (((p0.length : Int)) != ((p1.length : Int))) = true then
    some (false, ())
  else
    e4 0
noncomputable def laws_wcInts.f (k : Nat) (p0 : (List Int)) (p1 : (List Int)) : Option (Bool × Unit) := laws_wcInts.bt k (laws_wcInts.l4 k p0 p1 k) p0 p1
/-! loop.example/wholecheck/impl.OrderBack -/
noncomputable def impl_OrderBack.b5 (k : Nat) (e5 : (List Int) → Int → Option ((List Int) × Unit)) (p0 : (List Int)) (v3_5 : (List Int)) (v16_5 : Int) : Option ((List Int) × Unit) :=
  if (decide (v16_5 < ((p0.length : Int)))) = true then
    gd ((0 : Int) ≤ v16_5) <| gd (v16_5 < (p0.length : Int)) <| gd ((0 : Int) ≤ (p0.getD (v16_5.toNat) 0)) <| gd ((p0.getD (v16_5.toNat) 0) < (v3_5.length : Int)) <| e5 (v3_5.set ((p0.getD (v16_5.toNat) 0).toNat) v16_5) (w64 (v16_5 + 1))
  else
    (impl_clone_int.f k v3_5).bind fun r2 =>
    some (r2.1, ())
noncomputable def impl_OrderBack.l5 (k : Nat) (p0 : (List Int)) : Nat → (List Int) → Int → Option ((List Int) × Unit)
  | 0, _, _ => none
  | n + 1, v3_5, v16_5 => impl_OrderBack.b5 k (impl_OrderBack.l5 k p0 n) p0 v3_5 v16_5
noncomputable def impl_OrderBack.bt (k : Nat) (e5 : (List Int) → Int → Option ((List Int) × Unit)) (p0 : (List Int)) : Option ((List Int) × Unit) :=
  (impl_OrderValid.f k p0 ((p0.length : Int))).bind fun r1 =>
  if (!r1.1) = true then
    some ([], ())
  else
    gd ((0 : Int) ≤ ((p0.length : Int))) <| gd (((p0.length : Int)) ≤ 1099511627776) <| e5 ((List.replicate ((p0.length : Int)).toNat 0 : (List Int))) 0
noncomputable def impl_OrderBack.f (k : Nat) (p0 : (List Int)) : Option ((List Int) × Unit) := impl_OrderBack.bt k (impl_OrderBack.l5 k p0 k) p0
/-! loop.example/wholecheck/laws.FnExchanged -/
noncomputable def laws_FnExchanged.bj13 (k : Nat) (v3_j13 : (List Int)) (v4_j13 : (List Int)) (v7_j13 : (List Int)) : Option (Bool × Unit) :=
  if (((v7_j13.length : Int)) == 0) = true then
    some (true, ())
  else
    (impl_OrderBack.f k v4_j13).bind fun r13 =>
    (impl_Exchanged.f k v7_j13 r13.1).bind fun r14 =>
    (laws_wcInts.f k r14.1 v3_j13).bind fun r15 =>
    some (r15.1, ())
noncomputable def laws_FnExchanged.lj13 (k : Nat) : Nat → (List Int) → (List Int) → (List Int) → Option (Bool × Unit)
  | 0, _, _, _ => none
  | n + 1, v3_j13, v4_j13, v7_j13 => laws_FnExchanged.bj13 k v3_j13 v4_j13 v7_j13
noncomputable def laws_FnExchanged.bt (k : Nat) (ej13 : (List Int) → (List Int) → (List Int) → Option (Bool × Unit)) (p0 : (List Int)) : Option (Bool × Unit) :=
  if (decide (((p0.length : Int)) > 1048576)) = true then
    some (true, ())
  else
    (spec_DrawExchanged.f k p0).bind fun r1 =>
    (spec_DrawOrderWith.f k p0).bind fun r2 =>
    (impl_Exchanged.f k r1.1.1 r1.1.2).bind fun r3 =>
    (impl_OrderWith.f k r2.1.1 r2.1.2).bind fun r4 =>
    (spec_Exchanged.f k r1.1.1 r1.1.2).bind fun r5 =>
    (laws_wcInts.f k r3.1 r5.1).bind fun r6 =>
    if (!r6.1) = true then
      some (false, ())
    else
      (spec_OrderWith.f k r2.1.1 r2.1.2).bind fun r7 =>
      (laws_wcInts.f k r4.1 r7.1).bind fun r8 =>
      if (!r8.1) = true then
        some (false, ())
      else
        if (decide (((r4.1.length : Int)) > 0)) = true then
          gd ((0 : Int) ≤ 0) <| gd ((0 : Int) ≤ ((r2.1.1.length : Int))) <| gd (((r2.1.1.length : Int)) ≤ ([7, 5, 3, 2].length : Int)) <| (impl_Exchanged.f k (([7, 5, 3, 2].take (((r2.1.1.length : Int)).toNat)).drop (Int.toNat 0)) r4.1).bind fun r9 =>
          (impl_Exchanged.f k (([7, 5, 3, 2].take (((r2.1.1.length : Int)).toNat)).drop (Int.toNat 0)) r2.1.1).bind fun r10 =>
          (impl_Exchanged.f k r10.1 r2.1.2).bind fun r11 =>
          (laws_wcInts.f k r9.1 r11.1).bind fun r12 =>
          if (!r12.1) = true then
            some (false, ())
          else
            ej13 r1.1.1 r1.1.2 r3.1
        else
          ej13 r1.1.1 r1.1.2 r3.1
noncomputable def laws_FnExchanged.f (k : Nat) (p0 : (List Int)) : Option (Bool × Unit) := laws_FnExchanged.bt k (laws_FnExchanged.lj13 k k) p0
/-! loop.example/wholecheck/laws.szVarS -/
noncomputable def laws_szVarS.bt (k : Nat) (p0 : (List (Int × (Int × Int)))) (p1 : Int) : Option (Int × Unit) :=
  if (decide ((w64 (p1 - ((p0.length : Int)))) < 0)) = true then
    some ((-1), ())
  else
    some (w64 (p1 - ((p0.length : Int))), ())
noncomputable def laws_szVarS.f (k : Nat) (p0 : (List (Int × (Int × Int)))) (p1 : Int) : Option (Int × Unit) := laws_szVarS.bt k p0 p1
/-! loop.example/wholecheck/laws.szTermS -/
noncomputable def laws_szTermS.bt (k : Nat) (p0 : (List (Int × (Int × (Int × Int))))) (p1 : Int) : Option (Int × Unit) :=
  if (decide ((w64 (p1 - ((p0.length : Int)))) < 0)) = true then
    some ((-1), ())
  else
    some (w64 (p1 - ((p0.length : Int))), ())
noncomputable def laws_szTermS.f (k : Nat) (p0 : (List (Int × (Int × (Int × Int))))) (p1 : Int) : Option (Int × Unit) := laws_szTermS.bt k p0 p1
/-! loop.example/wholecheck/laws.szIntS -/
noncomputable def laws_szIntS.bt (k : Nat) (p0 : (List Int)) (p1 : Int) : Option (Int × Unit) :=
  if (decide ((w64 (p1 - ((p0.length : Int)))) < 0)) = true then
    some ((-1), ())
  else
    some (w64 (p1 - ((p0.length : Int))), ())
noncomputable def laws_szIntS.f (k : Nat) (p0 : (List Int)) (p1 : Int) : Option (Int × Unit) := laws_szIntS.bt k p0 p1
/-! loop.example/wholecheck/laws.szTermSS -/
noncomputable def laws_szTermSS.b5 (k : Nat) (e5 : Int → Int → Option (Int × Unit)) (p0 : (List (List (Int × (Int × (Int × Int)))))) (v1_5 : Int) (v5_5 : Int) : Option (Int × Unit) :=
  if (decide (v5_5 < ((p0.length : Int)))) = true then
    gd ((0 : Int) ≤ v5_5) <| gd (v5_5 < (p0.length : Int)) <| (laws_szTermS.f k (p0.getD (v5_5.toNat) []) v1_5).bind fun r1 =>
    if (decide (r1.1 < 0)) = true then
      some ((-1), ())
    else
      e5 r1.1 (w64 (v5_5 + 1))
  else
    some (v1_5, ())
noncomputable def laws_szTermSS.l5 (k : Nat) (p0 : (List (List (Int × (Int × (Int × Int)))))) : Nat → Int → Int → Option (Int × Unit)
  | 0, _, _ => none
  | n + 1, v1_5, v5_5 => laws_szTermSS.b5 k (laws_szTermSS.l5 k p0 n) p0 v1_5 v5_5
noncomputable def laws_szTermSS.bt (k : Nat) (e5 : Int → Int → Option (Int × Unit)) (p0 : (List (List (Int × (Int × (Int × Int)))))) (p1 : Int) : Option (Int × Unit) :=
  if (decide ((w64 (p1 - ((p0.length : Int)))) < 0)) = true then
    some ((-1), ())
  else
    e5 (w64 (p1 - ((p0.length : Int)))) 0
noncomputable def laws_szTermSS.f (k : Nat) (p0 : (List (List (Int × (Int × (Int × Int)))))) (p1 : Int) : Option (Int × Unit) := laws_szTermSS.bt k (laws_szTermSS.l5 k p0 k) p0 p1
/-! loop.example/wholecheck/laws.szRule -/
noncomputable def laws_szRule.bt (k : Nat) (p0 : ((List (Int × (Int × (Int × Int)))) × ((List Int) × (List (List (Int × (Int × (Int × Int)))))))) (p1 : Int) : Option (Int × Unit) :=
  (laws_szTermS.f k p0.1 p1).bind fun r1 =>
  if (decide (r1.1 < 0)) = true then
    some ((-1), ())
  else
    (laws_szIntS.f k p0.2.1 r1.1).bind fun r2 =>
    if (decide (r2.1 < 0)) = true then
      some ((-1), ())
    else
      (laws_szTermSS.f k p0.2.2 r2.1).bind fun r3 =>
      if (decide (r3.1 < 0)) = true then
        some ((-1), ())
      else
        some (r3.1, ())
noncomputable def laws_szRule.f (k : Nat) (p0 : ((List (Int × (Int × (Int × Int)))) × ((List Int) × (List (List (Int × (Int × (Int × Int)))))))) (p1 : Int) : Option (Int × Unit) := laws_szRule.bt k p0 p1
/-! loop.example/wholecheck/laws.szRuleS -/
noncomputable def laws_szRuleS.b5 (k : Nat) (e5 : Int → Int → Option (Int × Unit)) (p0 : (List ((List (Int × (Int × (Int × Int)))) × ((List Int) × (List (List (Int × (Int × (Int × Int))))))))) (v1_5 : Int) (v5_5 : Int) : Option (Int × Unit) :=
  if (decide (v5_5 < ((p0.length : Int)))) = true then
    gd ((0 : Int) ≤ v5_5) <| gd (v5_5 < (p0.length : Int)) <| (laws_szRule.f k (p0.getD (v5_5.toNat) ([], ([], []))) v1_5).bind fun r1 =>
    if (decide (r1.1 < 0)) = true then
      some ((-1), ())
    else
      e5 r1.1 (w64 (v5_5 + 1))
  else
    some (v1_5, ())
noncomputable def laws_szRuleS.l5 (k : Nat) (p0 : (List ((List (Int × (Int × (Int × Int)))) × ((List Int) × (List (List (Int × (Int × (Int × Int))))))))) : Nat → Int → Int → Option (Int × Unit)
  | 0, _, _ => none
  | n + 1, v1_5, v5_5 => laws_szRuleS.b5 k (laws_szRuleS.l5 k p0 n) p0 v1_5 v5_5
noncomputable def laws_szRuleS.bt (k : Nat) (e5 : Int → Int → Option (Int × Unit)) (p0 : (List ((List (Int × (Int × (Int × Int)))) × ((List Int) × (List (List (Int × (Int × (Int × Int))))))))) (p1 : Int) : Option (Int × Unit) :=
  if (decide ((w64 (p1 - ((p0.length : Int)))) < 0)) = true then
    some ((-1), ())
  else
    e5 (w64 (p1 - ((p0.length : Int)))) 0
noncomputable def laws_szRuleS.f (k : Nat) (p0 : (List ((List (Int × (Int × (Int × Int)))) × ((List Int) × (List (List (Int × (Int × (Int × Int))))))))) (p1 : Int) : Option (Int × Unit) := laws_szRuleS.bt k (laws_szRuleS.l5 k p0 k) p0 p1
/-! loop.example/wholecheck/laws.szSystem -/
noncomputable def laws_szSystem.bt (k : Nat) (p0 : ((List (Int × (Int × Int))) × (List ((List (Int × (Int × (Int × Int)))) × ((List Int) × (List (List (Int × (Int × (Int × Int)))))))))) (p1 : Int) : Option (Int × Unit) :=
  (laws_szVarS.f k p0.1 p1).bind fun r1 =>
  if (decide (r1.1 < 0)) = true then
    some ((-1), ())
  else
    (laws_szRuleS.f k p0.2 r1.1).bind fun r2 =>
    if (decide (r2.1 < 0)) = true then
      some ((-1), ())
    else
      some (r2.1, ())
noncomputable def laws_szSystem.f (k : Nat) (p0 : ((List (Int × (Int × Int))) × (List ((List (Int × (Int × (Int × Int)))) × ((List Int) × (List (List (Int × (Int × (Int × Int)))))))))) (p1 : Int) : Option (Int × Unit) := laws_szSystem.bt k p0 p1
/-! loop.example/wholecheck/laws.szBlocks -/
noncomputable def laws_szBlocks.bt (k : Nat) (p0 : (List Int)) (p1 : Int) : Option (Int × Unit) :=
  (laws_szIntS.f k p0 p1).bind fun r1 =>
  if (decide (r1.1 < 0)) = true then
    some ((-1), ())
  else
    some (r1.1, ())
noncomputable def laws_szBlocks.f (k : Nat) (p0 : (List Int)) (p1 : Int) : Option (Int × Unit) := laws_szBlocks.bt k p0 p1
/-! loop.example/wholecheck/laws.toVar -/
noncomputable def laws_toVar.bt (k : Nat) (p0 : (Int × (Int × Int))) : Option ((Int × (Int × Int)) × Unit) :=
  some (p0, ())
noncomputable def laws_toVar.f (k : Nat) (p0 : (Int × (Int × Int))) : Option ((Int × (Int × Int)) × Unit) := laws_toVar.bt k p0
/-! loop.example/wholecheck/laws.toVarS -/
noncomputable def laws_toVarS.b3 (k : Nat) (e3 : (List (Int × (Int × Int))) → Int → Option ((List (Int × (Int × Int))) × Unit)) (p0 : (List (Int × (Int × Int)))) (v3_3 : (List (Int × (Int × Int)))) (v4_3 : Int) : Option ((List (Int × (Int × Int))) × Unit) :=
  if (decide (v4_3 < ((p0.length : Int)))) = true then
    gd ((0 : Int) ≤ v4_3) <| gd (v4_3 < (p0.length : Int)) <| (laws_toVar.f k (p0.getD (v4_3.toNat) (0, (0, 0)))).bind fun r1 =>
    gd ((0 : Int) ≤ v4_3) <| gd (v4_3 < (v3_3.length : Int)) <| e3 (v3_3.set (v4_3.toNat) r1.1) (w64 (v4_3 + 1))
  else
    some (v3_3, ())
noncomputable def laws_toVarS.l3 (k : Nat) (p0 : (List (Int × (Int × Int)))) : Nat → (List (Int × (Int × Int))) → Int → Option ((List (Int × (Int × Int))) × Unit)
  | 0, _, _ => none
  | n + 1, v3_3, v4_3 => laws_toVarS.b3 k (laws_toVarS.l3 k p0 n) p0 v3_3 v4_3
noncomputable def laws_toVarS.bt (k : Nat) (e3 : (List (Int × (Int × Int))) → Int → Option ((List (Int × (Int × Int))) × Unit)) (p0 : (List (Int × (Int × Int)))) : Option ((List (Int × (Int × Int))) × Unit) :=
  gd ((0 : Int) ≤ ((p0.length : Int))) <| gd (((p0.length : Int)) ≤ 1099511627776) <| e3 ((List.replicate ((p0.length : Int)).toNat (0, (0, 0)) : (List (Int × (Int × Int))))) 0
noncomputable def laws_toVarS.f (k : Nat) (p0 : (List (Int × (Int × Int)))) : Option ((List (Int × (Int × Int))) × Unit) := laws_toVarS.bt k (laws_toVarS.l3 k p0 k) p0
/-! loop.example/wholecheck/laws.toTerm -/
noncomputable def laws_toTerm.bt (k : Nat) (p0 : (Int × (Int × (Int × Int)))) : Option ((Int × (Int × (Int × Int))) × Unit) :=
  some (p0, ())
noncomputable def laws_toTerm.f (k : Nat) (p0 : (Int × (Int × (Int × Int)))) : Option ((Int × (Int × (Int × Int))) × Unit) := laws_toTerm.bt k p0
/-! loop.example/wholecheck/laws.toTermS -/
noncomputable def laws_toTermS.b3 (k : Nat) (e3 : (List (Int × (Int × (Int × Int)))) → Int → Option ((List (Int × (Int × (Int × Int)))) × Unit)) (p0 : (List (Int × (Int × (Int × Int))))) (v3_3 : (List (Int × (Int × (Int × Int))))) (v4_3 : Int) : Option ((List (Int × (Int × (Int × Int)))) × Unit) :=
  if (decide (v4_3 < ((p0.length : Int)))) = true then
    gd ((0 : Int) ≤ v4_3) <| gd (v4_3 < (p0.length : Int)) <| (laws_toTerm.f k (p0.getD (v4_3.toNat) (0, (0, (0, 0))))).bind fun r1 =>
    gd ((0 : Int) ≤ v4_3) <| gd (v4_3 < (v3_3.length : Int)) <| e3 (v3_3.set (v4_3.toNat) r1.1) (w64 (v4_3 + 1))
  else
    some (v3_3, ())
noncomputable def laws_toTermS.l3 (k : Nat) (p0 : (List (Int × (Int × (Int × Int))))) : Nat → (List (Int × (Int × (Int × Int)))) → Int → Option ((List (Int × (Int × (Int × Int)))) × Unit)
  | 0, _, _ => none
  | n + 1, v3_3, v4_3 => laws_toTermS.b3 k (laws_toTermS.l3 k p0 n) p0 v3_3 v4_3
noncomputable def laws_toTermS.bt (k : Nat) (e3 : (List (Int × (Int × (Int × Int)))) → Int → Option ((List (Int × (Int × (Int × Int)))) × Unit)) (p0 : (List (Int × (Int × (Int × Int))))) : Option ((List (Int × (Int × (Int × Int)))) × Unit) :=
  gd ((0 : Int) ≤ ((p0.length : Int))) <| gd (((p0.length : Int)) ≤ 1099511627776) <| e3 ((List.replicate ((p0.length : Int)).toNat (0, (0, (0, 0))) : (List (Int × (Int × (Int × Int)))))) 0
noncomputable def laws_toTermS.f (k : Nat) (p0 : (List (Int × (Int × (Int × Int))))) : Option ((List (Int × (Int × (Int × Int)))) × Unit) := laws_toTermS.bt k (laws_toTermS.l3 k p0 k) p0
/-! loop.example/wholecheck/laws.toTermSS -/
noncomputable def laws_toTermSS.b3 (k : Nat) (e3 : (List (List (Int × (Int × (Int × Int))))) → Int → Option ((List (List (Int × (Int × (Int × Int))))) × Unit)) (p0 : (List (List (Int × (Int × (Int × Int)))))) (v3_3 : (List (List (Int × (Int × (Int × Int)))))) (v4_3 : Int) : Option ((List (List (Int × (Int × (Int × Int))))) × Unit) :=
  if (decide (v4_3 < ((p0.length : Int)))) = true then
    gd ((0 : Int) ≤ v4_3) <| gd (v4_3 < (p0.length : Int)) <| (laws_toTermS.f k (p0.getD (v4_3.toNat) [])).bind fun r1 =>
    gd ((0 : Int) ≤ v4_3) <| gd (v4_3 < (v3_3.length : Int)) <| e3 (v3_3.set (v4_3.toNat) r1.1) (w64 (v4_3 + 1))
  else
    some (v3_3, ())
noncomputable def laws_toTermSS.l3 (k : Nat) (p0 : (List (List (Int × (Int × (Int × Int)))))) : Nat → (List (List (Int × (Int × (Int × Int))))) → Int → Option ((List (List (Int × (Int × (Int × Int))))) × Unit)
  | 0, _, _ => none
  | n + 1, v3_3, v4_3 => laws_toTermSS.b3 k (laws_toTermSS.l3 k p0 n) p0 v3_3 v4_3
noncomputable def laws_toTermSS.bt (k : Nat) (e3 : (List (List (Int × (Int × (Int × Int))))) → Int → Option ((List (List (Int × (Int × (Int × Int))))) × Unit)) (p0 : (List (List (Int × (Int × (Int × Int)))))) : Option ((List (List (Int × (Int × (Int × Int))))) × Unit) :=
  gd ((0 : Int) ≤ ((p0.length : Int))) <| gd (((p0.length : Int)) ≤ 1099511627776) <| e3 ((List.replicate ((p0.length : Int)).toNat [] : (List (List (Int × (Int × (Int × Int))))))) 0
noncomputable def laws_toTermSS.f (k : Nat) (p0 : (List (List (Int × (Int × (Int × Int)))))) : Option ((List (List (Int × (Int × (Int × Int))))) × Unit) := laws_toTermSS.bt k (laws_toTermSS.l3 k p0 k) p0
/-! loop.example/wholecheck/laws.toRule -/
noncomputable def laws_toRule.bt (k : Nat) (p0 : ((List (Int × (Int × (Int × Int)))) × ((List Int) × (List (List (Int × (Int × (Int × Int)))))))) : Option (((List (Int × (Int × (Int × Int)))) × ((List Int) × (List (List (Int × (Int × (Int × Int))))))) × Unit) :=
  (laws_toTermS.f k p0.1).bind fun r1 =>
  (laws_toIntS.f k p0.2.1).bind fun r2 =>
  (laws_toTermSS.f k p0.2.2).bind fun r3 =>
  some ((r1.1, (r2.1, r3.1)), ())
noncomputable def laws_toRule.f (k : Nat) (p0 : ((List (Int × (Int × (Int × Int)))) × ((List Int) × (List (List (Int × (Int × (Int × Int)))))))) : Option (((List (Int × (Int × (Int × Int)))) × ((List Int) × (List (List (Int × (Int × (Int × Int))))))) × Unit) := laws_toRule.bt k p0
/-! loop.example/wholecheck/laws.toRuleS -/
noncomputable def laws_toRuleS.b3 (k : Nat) (e3 : (List ((List (Int × (Int × (Int × Int)))) × ((List Int) × (List (List (Int × (Int × (Int × Int)))))))) → Int → Option ((List ((List (Int × (Int × (Int × Int)))) × ((List Int) × (List (List (Int × (Int × (Int × Int)))))))) × Unit)) (p0 : (List ((List (Int × (Int × (Int × Int)))) × ((List Int) × (List (List (Int × (Int × (Int × Int))))))))) (v3_3 : (List ((List (Int × (Int × (Int × Int)))) × ((List Int) × (List (List (Int × (Int × (Int × Int))))))))) (v4_3 : Int) : Option ((List ((List (Int × (Int × (Int × Int)))) × ((List Int) × (List (List (Int × (Int × (Int × Int)))))))) × Unit) :=
  if (decide (v4_3 < ((p0.length : Int)))) = true then
    gd ((0 : Int) ≤ v4_3) <| gd (v4_3 < (p0.length : Int)) <| (laws_toRule.f k (p0.getD (v4_3.toNat) ([], ([], [])))).bind fun r1 =>
    gd ((0 : Int) ≤ v4_3) <| gd (v4_3 < (v3_3.length : Int)) <| e3 (v3_3.set (v4_3.toNat) r1.1) (w64 (v4_3 + 1))
  else
    some (v3_3, ())
noncomputable def laws_toRuleS.l3 (k : Nat) (p0 : (List ((List (Int × (Int × (Int × Int)))) × ((List Int) × (List (List (Int × (Int × (Int × Int))))))))) : Nat → (List ((List (Int × (Int × (Int × Int)))) × ((List Int) × (List (List (Int × (Int × (Int × Int)))))))) → Int → Option ((List ((List (Int × (Int × (Int × Int)))) × ((List Int) × (List (List (Int × (Int × (Int × Int)))))))) × Unit)
  | 0, _, _ => none
  | n + 1, v3_3, v4_3 => laws_toRuleS.b3 k (laws_toRuleS.l3 k p0 n) p0 v3_3 v4_3
noncomputable def laws_toRuleS.bt (k : Nat) (e3 : (List ((List (Int × (Int × (Int × Int)))) × ((List Int) × (List (List (Int × (Int × (Int × Int)))))))) → Int → Option ((List ((List (Int × (Int × (Int × Int)))) × ((List Int) × (List (List (Int × (Int × (Int × Int)))))))) × Unit)) (p0 : (List ((List (Int × (Int × (Int × Int)))) × ((List Int) × (List (List (Int × (Int × (Int × Int))))))))) : Option ((List ((List (Int × (Int × (Int × Int)))) × ((List Int) × (List (List (Int × (Int × (Int × Int)))))))) × Unit) :=
  gd ((0 : Int) ≤ ((p0.length : Int))) <| gd (((p0.length : Int)) ≤ 1099511627776) <| e3 ((List.replicate ((p0.length : Int)).toNat ([], ([], [])) : (List ((List (Int × (Int × (Int × Int)))) × ((List Int) × (List (List (Int × (Int × (Int × Int)))))))))) 0
noncomputable def laws_toRuleS.f (k : Nat) (p0 : (List ((List (Int × (Int × (Int × Int)))) × ((List Int) × (List (List (Int × (Int × (Int × Int))))))))) : Option ((List ((List (Int × (Int × (Int × Int)))) × ((List Int) × (List (List (Int × (Int × (Int × Int)))))))) × Unit) := laws_toRuleS.bt k (laws_toRuleS.l3 k p0 k) p0
/-! loop.example/wholecheck/laws.toSystem -/
noncomputable def laws_toSystem.bt (k : Nat) (p0 : ((List (Int × (Int × Int))) × (List ((List (Int × (Int × (Int × Int)))) × ((List Int) × (List (List (Int × (Int × (Int × Int)))))))))) : Option (((List (Int × (Int × Int))) × (List ((List (Int × (Int × (Int × Int)))) × ((List Int) × (List (List (Int × (Int × (Int × Int))))))))) × Unit) :=
  (laws_toVarS.f k p0.1).bind fun r1 =>
  (laws_toRuleS.f k p0.2).bind fun r2 =>
  some ((r1.1, r2.1), ())
noncomputable def laws_toSystem.f (k : Nat) (p0 : ((List (Int × (Int × Int))) × (List ((List (Int × (Int × (Int × Int)))) × ((List Int) × (List (List (Int × (Int × (Int × Int)))))))))) : Option (((List (Int × (Int × Int))) × (List ((List (Int × (Int × (Int × Int)))) × ((List Int) × (List (List (Int × (Int × (Int × Int))))))))) × Unit) := laws_toSystem.bt k p0
/-! loop.example/wholecheck/laws.toBlocks -/
noncomputable def laws_toBlocks.bt (k : Nat) (p0 : (List Int)) : Option ((List Int) × Unit) :=
  (laws_toIntS.f k p0).bind fun r1 =>
  some (r1.1, ())
noncomputable def laws_toBlocks.f (k : Nat) (p0 : (List Int)) : Option ((List Int) × Unit) := laws_toBlocks.bt k p0
/-! loop.example/wholecheck/spec.l2Var -/
noncomputable def spec_l2Var.bt (k : Nat) (p0 : (Int × (Int × Int))) : Option (Bool × Unit) :=
  (spec_l1In.f k p0.1 (-9999) 9999).bind fun r1 =>
  if r1.1 = true then
    (spec_l1In.f k p0.2.1 p0.1 9999).bind fun r2 =>
    if r2.1 = true then
      if (decide ((w64 (p0.2.1 - p0.1)) < 20)) = true then
        (spec_l1In.f k p0.2.2 p0.1 p0.2.1).bind fun r3 =>
        some (r3.1, ())
      else
        some (false, ())
    else
      some (false, ())
  else
    some (false, ())
noncomputable def spec_l2Var.f (k : Nat) (p0 : (Int × (Int × Int))) : Option (Bool × Unit) := spec_l2Var.bt k p0
/-! loop.example/wholecheck/spec.l1One -/
noncomputable def spec_l1One.bt (k : Nat) (p0 : Int) : Option (Bool × Unit) :=
  some (p0 == 7, ())
noncomputable def spec_l1One.f (k : Nat) (p0 : Int) : Option (Bool × Unit) := spec_l1One.bt k p0
/-! loop.example/wholecheck/spec.l1Kind -/
noncomputable def spec_l1Kind.bj10 (k : Nat) (p0 : (Int × (Int × (Int × Int)))) (p1 : (List Int)) (v7_j10 : Int) : Option (Int × Unit) :=
  gd ((0 : Int) ≤ p0.2.2.1) <| gd (p0.2.2.1 < (p1.length : Int)) <| if ((p1.getD (p0.2.2.1.toNat) 0) != v7_j10) = true then
    some (0, ())
  else
    gd ((0 : Int) ≤ p0.2.2.2) <| gd (p0.2.2.2 < (p1.length : Int)) <| if ((p1.getD (p0.2.2.2.toNat) 0) != v7_j10) = true then
      some (0, ())
    else
      (spec_l1One.f k p0.1).bind fun r6 =>
      if r6.1 = true then
        if (p0.2.2.2 != p0.2.2.1) = true then
          some (0, ())
        else
          if (decide (p0.1 ≥ 5)) = true then
            some (2, ())
          else
            some (1, ())
      else
        if (decide (p0.1 ≥ 5)) = true then
          some (2, ())
        else
          some (1, ())
noncomputable def spec_l1Kind.lj10 (k : Nat) (p0 : (Int × (Int × (Int × Int)))) (p1 : (List Int)) : Nat → Int → Option (Int × Unit)
  | 0, _ => none
  | n + 1, v7_j10 => spec_l1Kind.bj10 k p0 p1 v7_j10
noncomputable def spec_l1Kind.bj5 (k : Nat) (ej10 : Int → Option (Int × Unit)) (p0 : (Int × (Int × (Int × Int)))) (p1 : (List Int)) : Option (Int × Unit) :=
  (spec_l1In.f k p0.1 2 9).bind fun r3 =>
  if (!r3.1) = true then
    some (0, ())
  else
    if (p0.2.1 != 0) = true then
      some (0, ())
    else
      (spec_l1In.f k p0.2.2.1 0 (w64 (((p1.length : Int)) - 1))).bind fun r4 =>
      if (!r4.1) = true then
        some (0, ())
      else
        (spec_l1In.f k p0.2.2.2 0 (w64 (((p1.length : Int)) - 1))).bind fun r5 =>
        if (!r5.1) = true then
          some (0, ())
        else
          if (decide (p0.1 ≥ 7)) = true then
            ej10 2
          else
            ej10 1
noncomputable def spec_l1Kind.lj5 (k : Nat) (p0 : (Int × (Int × (Int × Int)))) (p1 : (List Int)) : Nat → Option (Int × Unit)
  | 0 => none
  | n + 1 => spec_l1Kind.bj5 k (spec_l1Kind.lj10 k p0 p1 k) p0 p1
noncomputable def spec_l1Kind.bj3 (k : Nat) (ej5 : Option (Int × Unit)) (p0 : (Int × (Int × (Int × Int)))) (p2 : Int) : Option (Int × Unit) :=
  if (p0.1 == 1) = true then
    (spec_l1In.f k p0.2.1 0 (w64 (p2 - 1))).bind fun r2 =>
    if r2.1 = true then
      if (p0.2.2.1 == 0) = true then
        if (p0.2.2.2 == 0) = true then
          some (1, ())
        else
          ej5
      else
        ej5
    else
      ej5
  else
    ej5
noncomputable def spec_l1Kind.lj3 (k : Nat) (p0 : (Int × (Int × (Int × Int)))) (p1 : (List Int)) (p2 : Int) : Nat → Option (Int × Unit)
  | 0 => none
  | n + 1 => spec_l1Kind.bj3 k (spec_l1Kind.lj5 k p0 p1 k) p0 p2
noncomputable def spec_l1Kind.bt (k : Nat) (ej3 : Option (Int × Unit)) (p0 : (Int × (Int × (Int × Int)))) (p1 : (List Int)) (p2 : Int) : Option (Int × Unit) :=
  if (p0.1 == 0) = true then
    (spec_l1In.f k p0.2.1 (-9999) 9999).bind fun r1 =>
    if r1.1 = true then
      if (p0.2.2.1 == 0) = true then
        if (p0.2.2.2 == 0) = true then
          some (1, ())
        else
          ej3
      else
        ej3
    else
      ej3
  else
    ej3
noncomputable def spec_l1Kind.f (k : Nat) (p0 : (Int × (Int × (Int × Int)))) (p1 : (List Int)) (p2 : Int) : Option (Int × Unit) := spec_l1Kind.bt k (spec_l1Kind.lj3 k p0 p1 p2 k) p0 p1 p2
/-! loop.example/wholecheck/spec.KindsOf -/
noncomputable def spec_KindsOf.b5 (k : Nat) (e5 : (List Int) → Int → Option ((List Int) × Unit)) (p0 : (List (Int × (Int × (Int × Int))))) (p1 : Int) (v5_5 : (List Int)) (v6_5 : Int) : Option ((List Int) × Unit) :=
  if (decide (v6_5 < ((p0.length : Int)))) = true then
    gd ((0 : Int) ≤ v6_5) <| gd (v6_5 < (p0.length : Int)) <| (spec_l1Kind.f k (p0.getD (v6_5.toNat) (0, (0, (0, 0)))) v5_5 p1).bind fun r3 =>
    if (r3.1 == 0) = true then
      some ([], ())
    else
      gd ((v5_5.length : Int) + ([r3.1].length : Int) ≤ 1099511627776) <| e5 (v5_5 ++ [r3.1]) (w64 (v6_5 + 1))
  else
    some (v5_5, ())
noncomputable def spec_KindsOf.l5 (k : Nat) (p0 : (List (Int × (Int × (Int × Int))))) (p1 : Int) : Nat → (List Int) → Int → Option ((List Int) × Unit)
  | 0, _, _ => none
  | n + 1, v5_5, v6_5 => spec_KindsOf.b5 k (spec_KindsOf.l5 k p0 p1 n) p0 p1 v5_5 v6_5
noncomputable def spec_KindsOf.bt (k : Nat) (e5 : (List Int) → Int → Option ((List Int) × Unit)) (p0 : (List (Int × (Int × (Int × Int))))) (p1 : Int) : Option ((List Int) × Unit) :=
  (spec_l1In.f k p1 0 5).bind fun r1 =>
  if (!r1.1) = true then
    some ([], ())
  else
    (spec_l1In.f k ((p0.length : Int)) 1 40).bind fun r2 =>
    if (!r2.1) = true then
      some ([], ())
    else
      e5 [] 0
noncomputable def spec_KindsOf.f (k : Nat) (p0 : (List (Int × (Int × (Int × Int))))) (p1 : Int) : Option ((List Int) × Unit) := spec_KindsOf.bt k (spec_KindsOf.l5 k p0 p1 k) p0 p1
/-! loop.example/wholecheck/spec.l2Is -/
noncomputable def spec_l2Is.bt (k : Nat) (p0 : (List (Int × (Int × (Int × Int))))) (p1 : Int) (p2 : Int) : Option (Bool × Unit) :=
  (spec_KindsOf.f k p0 p1).bind fun r1 =>
  if (decide (((r1.1.length : Int)) > 0)) = true then
    gd ((0 : Int) ≤ (w64 (((r1.1.length : Int)) - 1))) <| gd ((w64 (((r1.1.length : Int)) - 1)) < (r1.1.length : Int)) <| some ((r1.1.getD ((w64 (((r1.1.length : Int)) - 1)).toNat) 0) == p2, ())
  else
    some (false, ())
noncomputable def spec_l2Is.f (k : Nat) (p0 : (List (Int × (Int × (Int × Int))))) (p1 : Int) (p2 : Int) : Option (Bool × Unit) := spec_l2Is.bt k p0 p1 p2
/-! loop.example/wholecheck/spec.l2Rule -/
noncomputable def spec_l2Rule.b4 (k : Nat) (e4 : Int → Option (Bool × Unit)) (p0 : ((List (Int × (Int × (Int × Int)))) × ((List Int) × (List (List (Int × (Int × (Int × Int)))))))) (p1 : Int) (v5_4 : Int) : Option (Bool × Unit) :=
  if (decide (v5_4 < ((p0.2.1.length : Int)))) = true then
    gd ((0 : Int) ≤ v5_4) <| gd (v5_4 < (p0.2.1.length : Int)) <| (spec_l1In.f k (p0.2.1.getD (v5_4.toNat) 0) 0 (w64 (p1 - 1))).bind fun r2 =>
    if (!r2.1) = true then
      some (false, ())
    else
      if (decide (v5_4 > 0)) = true then
        gd ((0 : Int) ≤ v5_4) <| gd (v5_4 < (p0.2.1.length : Int)) <| gd ((0 : Int) ≤ (w64 (v5_4 - 1))) <| gd ((w64 (v5_4 - 1)) < (p0.2.1.length : Int)) <| if (decide ((p0.2.1.getD (v5_4.toNat) 0) ≤ (p0.2.1.getD ((w64 (v5_4 - 1)).toNat) 0))) = true then
          some (false, ())
        else
          gd ((0 : Int) ≤ v5_4) <| gd (v5_4 < (p0.2.2.length : Int)) <| (spec_l2Is.f k (p0.2.2.getD (v5_4.toNat) []) p1 1).bind fun r3 =>
          if (!r3.1) = true then
            some (false, ())
          else
            e4 (w64 (v5_4 + 1))
      else
        gd ((0 : Int) ≤ v5_4) <| gd (v5_4 < (p0.2.2.length : Int)) <| (spec_l2Is.f k (p0.2.2.getD (v5_4.toNat) []) p1 1).bind fun r4 =>
        if (!r4.1) = true then
          some (false, ())
        else
          e4 (w64 (v5_4 + 1))
  else
    some (true, ())
noncomputable def spec_l2Rule.l4 (k : Nat) (p0 : ((List (Int × (Int × (Int × Int)))) × ((List Int) × (List (List (Int × (Int × (Int × Int)))))))) (p1 : Int) : Nat → Int → Option (Bool × Unit)
  | 0, _ => none
  | n + 1, v5_4 => spec_l2Rule.b4 k (spec_l2Rule.l4 k p0 p1 n) p0 p1 v5_4
noncomputable def spec_l2Rule.bt (k : Nat) (e4 : Int → Option (Bool × Unit)) (p0 : ((List (Int × (Int × (Int × Int)))) × ((List Int) × (List (List (Int × (Int × (Int × Int)))))))) (p1 : Int) : Option (Bool × Unit) :=
  (spec_l2Is.f k p0.1 p1 2).bind fun r1 =>
  if (!r1.1) = true then
    some (false, ())
  else
    if (((p0.2.1.length : Int)) != ((p0.2.2.length : Int))) = true then
      some (false, ())
    else
      if (decide (((p0.2.1.length : Int)) > p1)) = true then
        some (false, ())
      else
        e4 0
noncomputable def spec_l2Rule.f (k : Nat) (p0 : ((List (Int × (Int × (Int × Int)))) × ((List Int) × (List (List (Int × (Int × (Int × Int)))))))) (p1 : Int) : Option (Bool × Unit) := spec_l2Rule.bt k (spec_l2Rule.l4 k p0 p1 k) p0 p1
/-! loop.example/wholecheck/spec.SystemValid -/
noncomputable def spec_SystemValid.b11 (k : Nat) (e11 : Int → Option (Bool × Unit)) (p0 : ((List (Int × (Int × Int))) × (List ((List (Int × (Int × (Int × Int)))) × ((List Int) × (List (List (Int × (Int × (Int × Int)))))))))) (v3_5 : Int) (v5_11 : Int) : Option (Bool × Unit) :=
  if (decide (v5_11 < ((p0.2.length : Int)))) = true then
    gd ((0 : Int) ≤ v5_11) <| gd (v5_11 < (p0.2.length : Int)) <| (spec_l2Rule.f k (p0.2.getD (v5_11.toNat) ([], ([], []))) ((p0.1.length : Int))).bind fun r3 =>
    if (!r3.1) = true then
      some (false, ())
    else
      e11 (w64 (v5_11 + 1))
  else
    some (decide (v3_5 ≤ 400), ())
noncomputable def spec_SystemValid.l11 (k : Nat) (p0 : ((List (Int × (Int × Int))) × (List ((List (Int × (Int × (Int × Int)))) × ((List Int) × (List (List (Int × (Int × (Int × Int)))))))))) (v3_5 : Int) : Nat → Int → Option (Bool × Unit)
  | 0, _ => none
  | n + 1, v5_11 => spec_SystemValid.b11 k (spec_SystemValid.l11 k p0 v3_5 n) p0 v3_5 v5_11
noncomputable def spec_SystemValid.b5 (k : Nat) (e5 : Int → Int → Option (Bool × Unit)) (e11 : Int → Option (Bool × Unit)) (p0 : ((List (Int × (Int × Int))) × (List ((List (Int × (Int × (Int × Int)))) × ((List Int) × (List (List (Int × (Int × (Int × Int)))))))))) (v3_5 : Int) (v4_5 : Int) : Option (Bool × Unit) :=
  if (decide (v4_5 < ((p0.1.length : Int)))) = true then
    gd ((0 : Int) ≤ v4_5) <| gd (v4_5 < (p0.1.length : Int)) <| (spec_l2Var.f k (p0.1.getD (v4_5.toNat) (0, (0, 0)))).bind fun r2 =>
    if (!r2.1) = true then
      some (false, ())
    else
      gd ((0 : Int) ≤ v4_5) <| gd (v4_5 < (p0.1.length : Int)) <| gd ((0 : Int) ≤ v4_5) <| gd (v4_5 < (p0.1.length : Int)) <| e5 (w64 (v3_5 * (w64 ((w64 ((p0.1.getD (v4_5.toNat) (0, (0, 0))).2.1 - (p0.1.getD (v4_5.toNat) (0, (0, 0))).1)) + 1)))) (w64 (v4_5 + 1))
  else
    e11 0
noncomputable def spec_SystemValid.l5 (k : Nat) (p0 : ((List (Int × (Int × Int))) × (List ((List (Int × (Int × (Int × Int)))) × ((List Int) × (List (List (Int × (Int × (Int × Int)))))))))) : Nat → Int → Int → Option (Bool × Unit)
  | 0, _, _ => none
  | n + 1, v3_5, v4_5 => spec_SystemValid.b5 k (spec_SystemValid.l5 k p0 n) (spec_SystemValid.l11 k p0 v3_5 k) p0 v3_5 v4_5
noncomputable def spec_SystemValid.bt (k : Nat) (e5 : Int → Int → Option (Bool × Unit)) (p0 : ((List (Int × (Int × Int))) × (List ((List (Int × (Int × (Int × Int)))) × ((List Int) × (List (List (Int × (Int × (Int × Int)))))))))) : Option (Bool × Unit) :=
  (spec_l1In.f k ((p0.1.length : Int)) 1 5).bind fun r1 =>
  if (!r1.1) = true then
    some (false, ())
  else
    if (decide (((p0.2.length : Int)) > 8)) = true then
      some (false, ())
    else
      e5 1 0
noncomputable def spec_SystemValid.f (k : Nat) (p0 : ((List (Int × (Int × Int))) × (List ((List (Int × (Int × (Int × Int)))) × ((List Int) × (List (List (Int × (Int × (Int × Int)))))))))) : Option (Bool × Unit) := spec_SystemValid.bt k (spec_SystemValid.l5 k p0 k) p0
/-! loop.example/wholecheck/spec.SizeOf -/
noncomputable def spec_SizeOf.b5 (k : Nat) (e5 : Int → Int → Option (Int × Unit)) (p0 : ((List (Int × (Int × Int))) × (List ((List (Int × (Int × (Int × Int)))) × ((List Int) × (List (List (Int × (Int × (Int × Int)))))))))) (v3_5 : Int) (v4_5 : Int) : Option (Int × Unit) :=
  if (decide (v4_5 < ((p0.1.length : Int)))) = true then
    gd ((0 : Int) ≤ v4_5) <| gd (v4_5 < (p0.1.length : Int)) <| gd ((0 : Int) ≤ v4_5) <| gd (v4_5 < (p0.1.length : Int)) <| e5 (w64 (v3_5 * (w64 ((w64 ((p0.1.getD (v4_5.toNat) (0, (0, 0))).2.1 - (p0.1.getD (v4_5.toNat) (0, (0, 0))).1)) + 1)))) (w64 (v4_5 + 1))
  else
    some (v3_5, ())
noncomputable def spec_SizeOf.l5 (k : Nat) (p0 : ((List (Int × (Int × Int))) × (List ((List (Int × (Int × (Int × Int)))) × ((List Int) × (List (List (Int × (Int × (Int × Int)))))))))) : Nat → Int → Int → Option (Int × Unit)
  | 0, _, _ => none
  | n + 1, v3_5, v4_5 => spec_SizeOf.b5 k (spec_SizeOf.l5 k p0 n) p0 v3_5 v4_5
noncomputable def spec_SizeOf.bt (k : Nat) (e5 : Int → Int → Option (Int × Unit)) (p0 : ((List (Int × (Int × Int))) × (List ((List (Int × (Int × (Int × Int)))) × ((List Int) × (List (List (Int × (Int × (Int × Int)))))))))) : Option (Int × Unit) :=
  (spec_SystemValid.f k p0).bind fun r1 =>
  if (!r1.1) = true then
    some (0, ())
  else
    e5 1 0
noncomputable def spec_SizeOf.f (k : Nat) (p0 : ((List (Int × (Int × Int))) × (List ((List (Int × (Int × (Int × Int)))) × ((List Int) × (List (List (Int × (Int × (Int × Int)))))))))) : Option (Int × Unit) := spec_SizeOf.bt k (spec_SizeOf.l5 k p0 k) p0
/-! loop.example/wholecheck/spec.BlocksValid -/
noncomputable def spec_BlocksValid.b4 (k : Nat) (e4 : Int → Option (Bool × Unit)) (p1 : (List Int)) (v5_4 : Int) : Option (Bool × Unit) :=
  if (decide (v5_4 < ((p1.length : Int)))) = true then
    gd ((0 : Int) ≤ v5_4) <| gd (v5_4 < (p1.length : Int)) <| (spec_l1In.f k (p1.getD (v5_4.toNat) 0) 0 v5_4).bind fun r2 =>
    if (!r2.1) = true then
      some (false, ())
    else
      gd ((0 : Int) ≤ v5_4) <| gd (v5_4 < (p1.length : Int)) <| gd ((0 : Int) ≤ (p1.getD (v5_4.toNat) 0)) <| gd ((p1.getD (v5_4.toNat) 0) < (p1.length : Int)) <| gd ((0 : Int) ≤ v5_4) <| gd (v5_4 < (p1.length : Int)) <| if ((p1.getD ((p1.getD (v5_4.toNat) 0).toNat) 0) != (p1.getD (v5_4.toNat) 0)) = true then
        some (false, ())
      else
        e4 (w64 (v5_4 + 1))
  else
    some (true, ())
noncomputable def spec_BlocksValid.l4 (k : Nat) (p1 : (List Int)) : Nat → Int → Option (Bool × Unit)
  | 0, _ => none
  | n + 1, v5_4 => spec_BlocksValid.b4 k (spec_BlocksValid.l4 k p1 n) p1 v5_4
noncomputable def spec_BlocksValid.bt (k : Nat) (e4 : Int → Option (Bool × Unit)) (p0 : ((List (Int × (Int × Int))) × (List ((List (Int × (Int × (Int × Int)))) × ((List Int) × (List (List (Int × (Int × (Int × Int)))))))))) (p1 : (List Int)) : Option (Bool × Unit) :=
  (spec_SizeOf.f k p0).bind fun r1 =>
  if (((p1.length : Int)) != r1.1) = true then
    some (false, ())
  else
    if (((p1.length : Int)) == 0) = true then
      some (false, ())
    else
      e4 0
noncomputable def spec_BlocksValid.f (k : Nat) (p0 : ((List (Int × (Int × Int))) × (List ((List (Int × (Int × (Int × Int)))) × ((List Int) × (List (List (Int × (Int × (Int × Int)))))))))) (p1 : (List Int)) : Option (Bool × Unit) := spec_BlocksValid.bt k (spec_BlocksValid.l4 k p1 k) p0 p1
/-! loop.example/wholecheck/impl.varOk -/
noncomputable def impl_varOk.bt (k : Nat) (p0 : (Int × (Int × Int))) : Option (Bool × Unit) :=
  (impl_in.f k p0.1 (-9999) 9999).bind fun r1 =>
  if r1.1 = true then
    (impl_in.f k p0.2.1 p0.1 9999).bind fun r2 =>
    if r2.1 = true then
      if (decide ((w64 (p0.2.1 - p0.1)) < 20)) = true then
        (impl_in.f k p0.2.2 p0.1 p0.2.1).bind fun r3 =>
        some (r3.1, ())
      else
        some (false, ())
    else
      some (false, ())
  else
    some (false, ())
noncomputable def impl_varOk.f (k : Nat) (p0 : (Int × (Int × Int))) : Option (Bool × Unit) := impl_varOk.bt k p0
/-! loop.example/wholecheck/impl.SystemValid$1 -/
noncomputable def impl_SystemValid_1.bt (k : Nat) (p0 : (Int × (Int × Int))) : Option (Bool × Unit) :=
  (impl_varOk.f k p0).bind fun r1 =>
  some (!r1.1, ())
noncomputable def impl_SystemValid_1.f (k : Nat) (p0 : (Int × (Int × Int))) : Option (Bool × Unit) := impl_SystemValid_1.bt k p0
/-! slices.IndexFunc[[]loop.example/wholecheck/impl.Var,loop.example/wholecheck/impl.Var] -/
noncomputable def slices_IndexFunc_impl_Var_impl_Var.b2 (k : Nat) (e2 : Int → Option (Int × Unit)) (p0 : (List (Int × (Int × Int)))) (p1 : ((Int × (Int × Int)) → Option Bool)) (v8_2 : Int) : Option (Int × Unit) :=
  if (decide (v8_2 < ((p0.length : Int)))) = true then
    gd ((0 : Int) ≤ v8_2) <| gd (v8_2 < (p0.length : Int)) <| (p1 (p0.getD (v8_2.toNat) (0, (0, 0)))).bind fun r1 =>
    if r1 = true then
      some (v8_2, ())
    else
      e2 (w64 (v8_2 + 1))
  else
    some ((-1), ())
noncomputable def slices_IndexFunc_impl_Var_impl_Var.l2 (k : Nat) (p0 : (List (Int × (Int × Int)))) (p1 : ((Int × (Int × Int)) → Option Bool)) : Nat → Int → Option (Int × Unit)
  | 0, _ => none
  | n + 1, v8_2 => slices_IndexFunc_impl_Var_impl_Var.b2 k (slices_IndexFunc_impl_Var_impl_Var.l2 k p0 p1 n) p0 p1 v8_2
noncomputable def slices_IndexFunc_impl_Var_impl_Var.bt (k : Nat) (e2 : Int → Option (Int × Unit)) (p0 : (List (Int × (Int × Int)))) (p1 : ((Int × (Int × Int)) → Option Bool)) : Option (Int × Unit) :=
  e2 0
noncomputable def slices_IndexFunc_impl_Var_impl_Var.f (k : Nat) (p0 : (List (Int × (Int × Int)))) (p1 : ((Int × (Int × Int)) → Option Bool)) : Option (Int × Unit) := slices_IndexFunc_impl_Var_impl_Var.bt k (slices_IndexFunc_impl_Var_impl_Var.l2 k p0 p1 k) p0 p1
/-! slices.ContainsFunc[[]loop.example/wholecheck/impl.Var,loop.example/wholecheck/impl.Var] -/
noncomputable def slices_ContainsFunc_impl_Var_impl_Var.bt (k : Nat) (p0 : (List (Int × (Int × Int)))) (p1 : ((Int × (Int × Int)) → Option Bool)) : Option (Bool × Unit) :=
  (slices_IndexFunc_impl_Var_impl_Var.f k p0 p1).bind fun r1 =>
  some (decide (r1.1 ≥ 0), ())
noncomputable def slices_ContainsFunc_impl_Var_impl_Var.f (k : Nat) (p0 : (List (Int × (Int × Int)))) (p1 : ((Int × (Int × Int)) → Option Bool)) : Option (Bool × Unit) := slices_ContainsFunc_impl_Var_impl_Var.bt k p0 p1
/-! loop.example/wholecheck/impl.size -/
noncomputable def impl_size.b3 (k : Nat) (e3 : Int → Int → Option (Int × Unit)) (p0 : (List (Int × (Int × Int)))) (v3_3 : Int) (v8_3 : Int) : Option (Int × Unit) :=
  if (decide (v8_3 < ((p0.length : Int)))) = true then
    gd ((0 : Int) ≤ v8_3) <| gd (v8_3 < (p0.length : Int)) <| e3 (w64 (v3_3 * (w64 ((w64 ((p0.getD (v8_3.toNat) (0, (0, 0))).2.1 - (p0.getD (v8_3.toNat) (0, (0, 0))).1)) + 1)))) (w64 (v8_3 + 1))
  else
    some (v3_3, ())
noncomputable def impl_size.l3 (k : Nat) (p0 : (List (Int × (Int × Int)))) : Nat → Int → Int → Option (Int × Unit)
  | 0, _, _ => none
  | n + 1, v3_3, v8_3 => impl_size.b3 k (impl_size.l3 k p0 n) p0 v3_3 v8_3
noncomputable def impl_size.bt (k : Nat) (e3 : Int → Int → Option (Int × Unit)) (p0 : (List (Int × (Int × Int)))) : Option (Int × Unit) :=
  e3 1 0
noncomputable def impl_size.f (k : Nat) (p0 : (List (Int × (Int × Int)))) : Option (Int × Unit) := impl_size.bt k (impl_size.l3 k p0 k) p0
/-! loop.example/wholecheck/impl.parts -/
noncomputable def impl_parts.bj8 (k : Nat) (p0 : Int) (v10_j8 : Bool) : Option ((Int × (Int × Int)) × Unit) :=
  if v10_j8 = true then
    some ((2, (1, 2)), ())
  else
    if (p0 == 7) = true then
      some ((1, (2, 2)), ())
    else
      if (p0 == 8) = true then
        if (p0 == 8) = true then
          some ((2, (2, 2)), ())
        else
          some ((0, (0, 1)), ())
      else
        if (p0 == 9) = true then
          some ((2, (2, 2)), ())
        else
          some ((0, (0, 1)), ())
noncomputable def impl_parts.lj8 (k : Nat) (p0 : Int) : Nat → Bool → Option ((Int × (Int × Int)) × Unit)
  | 0, _ => none
  | n + 1, v10_j8 => impl_parts.bj8 k p0 v10_j8
noncomputable def impl_parts.bt (k : Nat) (ej8 : Bool → Option ((Int × (Int × Int)) × Unit)) (p0 : Int) : Option ((Int × (Int × Int)) × Unit) :=
  if (p0 == 2) = true then
    if (p0 == 2) = true then
      some ((2, (1, 1)), ())
    else
      if (p0 == 5) = true then
        ej8 (p0 == 5)
      else
        ej8 (p0 == 6)
  else
    if (p0 == 3) = true then
      if (p0 == 3) = true then
        some ((2, (1, 1)), ())
      else
        if (p0 == 5) = true then
          ej8 (p0 == 5)
        else
          ej8 (p0 == 6)
    else
      if (p0 == 4) = true then
        some ((2, (1, 1)), ())
      else
        if (p0 == 5) = true then
          ej8 (p0 == 5)
        else
          ej8 (p0 == 6)
noncomputable def impl_parts.f (k : Nat) (p0 : Int) : Option ((Int × (Int × Int)) × Unit) := impl_parts.bt k (impl_parts.lj8 k p0 k) p0
/-! loop.example/wholecheck/impl.kindsOf -/
noncomputable def impl_kindsOf.b5 (k : Nat) (e5 : (List Int) → Int → Option ((List Int) × Unit)) (p0 : (List (Int × (Int × (Int × Int))))) (p1 : Int) (v5_5 : (List Int)) (v26_5 : Int) : Option ((List Int) × Unit) :=
  if (decide (v26_5 < ((p0.length : Int)))) = true then
    gd ((0 : Int) ≤ v26_5) <| gd (v26_5 < (p0.length : Int)) <| (impl_parts.f k (p0.getD (v26_5.toNat) (0, (0, (0, 0)))).1).bind fun r3 =>
    (impl_in.f k (p0.getD (v26_5.toNat) (0, (0, (0, 0)))).1 0 9).bind fun r4 =>
    if ((p0.getD (v26_5.toNat) (0, (0, (0, 0)))).1 == 0) = true then
      (impl_in.f k (p0.getD (v26_5.toNat) (0, (0, (0, 0)))).2.1 (-9999) 9999).bind fun r5 =>
      if r5.1 = true then
        if ((p0.getD (v26_5.toNat) (0, (0, (0, 0)))).2.2.1 == 0) = true then
          if (!((p0.getD (v26_5.toNat) (0, (0, (0, 0)))).2.2.2 == 0)) = true then
            some ([], ())
          else
            gd ((v5_5.length : Int) + ([r3.1.2.2].length : Int) ≤ 1099511627776) <| e5 (v5_5 ++ [r3.1.2.2]) (w64 (v26_5 + 1))
        else
          if (!false) = true then
            some ([], ())
          else
            gd ((v5_5.length : Int) + ([r3.1.2.2].length : Int) ≤ 1099511627776) <| e5 (v5_5 ++ [r3.1.2.2]) (w64 (v26_5 + 1))
      else
        if (!false) = true then
          some ([], ())
        else
          gd ((v5_5.length : Int) + ([r3.1.2.2].length : Int) ≤ 1099511627776) <| e5 (v5_5 ++ [r3.1.2.2]) (w64 (v26_5 + 1))
    else
      if ((p0.getD (v26_5.toNat) (0, (0, (0, 0)))).1 == 1) = true then
        (impl_in.f k (p0.getD (v26_5.toNat) (0, (0, (0, 0)))).2.1 0 (w64 (p1 - 1))).bind fun r6 =>
        if r6.1 = true then
          if ((p0.getD (v26_5.toNat) (0, (0, (0, 0)))).2.2.1 == 0) = true then
            if (!((p0.getD (v26_5.toNat) (0, (0, (0, 0)))).2.2.2 == 0)) = true then
              some ([], ())
            else
              gd ((v5_5.length : Int) + ([r3.1.2.2].length : Int) ≤ 1099511627776) <| e5 (v5_5 ++ [r3.1.2.2]) (w64 (v26_5 + 1))
          else
            if (!false) = true then
              some ([], ())
            else
              gd ((v5_5.length : Int) + ([r3.1.2.2].length : Int) ≤ 1099511627776) <| e5 (v5_5 ++ [r3.1.2.2]) (w64 (v26_5 + 1))
        else
          if (!false) = true then
            some ([], ())
          else
            gd ((v5_5.length : Int) + ([r3.1.2.2].length : Int) ≤ 1099511627776) <| e5 (v5_5 ++ [r3.1.2.2]) (w64 (v26_5 + 1))
      else
        if r4.1 = true then
          if ((p0.getD (v26_5.toNat) (0, (0, (0, 0)))).2.1 == 0) = true then
            (impl_in.f k (p0.getD (v26_5.toNat) (0, (0, (0, 0)))).2.2.1 0 (w64 (v26_5 - 1))).bind fun r7 =>
            if r7.1 = true then
              (impl_in.f k (p0.getD (v26_5.toNat) (0, (0, (0, 0)))).2.2.2 0 (w64 (v26_5 - 1))).bind fun r8 =>
              if r8.1 = true then
                gd ((0 : Int) ≤ (p0.getD (v26_5.toNat) (0, (0, (0, 0)))).2.2.1) <| gd ((p0.getD (v26_5.toNat) (0, (0, (0, 0)))).2.2.1 < (v5_5.length : Int)) <| if ((v5_5.getD ((p0.getD (v26_5.toNat) (0, (0, (0, 0)))).2.2.1.toNat) 0) == r3.1.2.1) = true then
                  gd ((0 : Int) ≤ (p0.getD (v26_5.toNat) (0, (0, (0, 0)))).2.2.2) <| gd ((p0.getD (v26_5.toNat) (0, (0, (0, 0)))).2.2.2 < (v5_5.length : Int)) <| if ((v5_5.getD ((p0.getD (v26_5.toNat) (0, (0, (0, 0)))).2.2.2.toNat) 0) == r3.1.2.1) = true then
                    if (r3.1.1 == 2) = true then
                      if (!true) = true then
                        some ([], ())
                      else
                        gd ((v5_5.length : Int) + ([r3.1.2.2].length : Int) ≤ 1099511627776) <| e5 (v5_5 ++ [r3.1.2.2]) (w64 (v26_5 + 1))
                    else
                      if (!((p0.getD (v26_5.toNat) (0, (0, (0, 0)))).2.2.1 == (p0.getD (v26_5.toNat) (0, (0, (0, 0)))).2.2.2)) = true then
                        some ([], ())
                      else
                        gd ((v5_5.length : Int) + ([r3.1.2.2].length : Int) ≤ 1099511627776) <| e5 (v5_5 ++ [r3.1.2.2]) (w64 (v26_5 + 1))
                  else
                    if (!false) = true then
                      some ([], ())
                    else
                      gd ((v5_5.length : Int) + ([r3.1.2.2].length : Int) ≤ 1099511627776) <| e5 (v5_5 ++ [r3.1.2.2]) (w64 (v26_5 + 1))
                else
                  if (!false) = true then
                    some ([], ())
                  else
                    gd ((v5_5.length : Int) + ([r3.1.2.2].length : Int) ≤ 1099511627776) <| e5 (v5_5 ++ [r3.1.2.2]) (w64 (v26_5 + 1))
              else
                if (!false) = true then
                  some ([], ())
                else
                  gd ((v5_5.length : Int) + ([r3.1.2.2].length : Int) ≤ 1099511627776) <| e5 (v5_5 ++ [r3.1.2.2]) (w64 (v26_5 + 1))
            else
              if (!false) = true then
                some ([], ())
              else
                gd ((v5_5.length : Int) + ([r3.1.2.2].length : Int) ≤ 1099511627776) <| e5 (v5_5 ++ [r3.1.2.2]) (w64 (v26_5 + 1))
          else
            if (!false) = true then
              some ([], ())
            else
              gd ((v5_5.length : Int) + ([r3.1.2.2].length : Int) ≤ 1099511627776) <| e5 (v5_5 ++ [r3.1.2.2]) (w64 (v26_5 + 1))
        else
          if (!r4.1) = true then
            some ([], ())
          else
            gd ((v5_5.length : Int) + ([r3.1.2.2].length : Int) ≤ 1099511627776) <| e5 (v5_5 ++ [r3.1.2.2]) (w64 (v26_5 + 1))
  else
    gd (v5_5.length ≠ 0) <| some (v5_5, ())
noncomputable def impl_kindsOf.l5 (k : Nat) (p0 : (List (Int × (Int × (Int × Int))))) (p1 : Int) : Nat → (List Int) → Int → Option ((List Int) × Unit)
  | 0, _, _ => none
  | n + 1, v5_5, v26_5 => impl_kindsOf.b5 k (impl_kindsOf.l5 k p0 p1 n) p0 p1 v5_5 v26_5
noncomputable def impl_kindsOf.bt (k : Nat) (e5 : (List Int) → Int → Option ((List Int) × Unit)) (p0 : (List (Int × (Int × (Int × Int))))) (p1 : Int) : Option ((List Int) × Unit) :=
  (impl_in.f k p1 0 5).bind fun r1 =>
  if (!r1.1) = true then
    some ([], ())
  else
    (impl_in.f k ((p0.length : Int)) 1 40).bind fun r2 =>
    if (!r2.1) = true then
      some ([], ())
    else
      gd ((0 : Int) ≤ 0) <| gd ((0 : Int) ≤ ((p0.length : Int))) <| gd (((p0.length : Int)) ≤ 1099511627776) <| e5 ((List.replicate ((0 : Int)).toNat 0 : (List Int))) 0
noncomputable def impl_kindsOf.f (k : Nat) (p0 : (List (Int × (Int × (Int × Int))))) (p1 : Int) : Option ((List Int) × Unit) := impl_kindsOf.bt k (impl_kindsOf.l5 k p0 p1 k) p0 p1
/-! loop.example/wholecheck/impl.kindOf -/
noncomputable def impl_kindOf.bt (k : Nat) (p0 : (List (Int × (Int × (Int × Int))))) (p1 : Int) : Option (Int × Unit) :=
  (impl_kindsOf.f k p0 p1).bind fun r1 =>
  if (decide (r1.1.length = 0)) = true then
    some (0, ())
  else
    gd ((0 : Int) ≤ (w64 (((r1.1.length : Int)) - 1))) <| gd ((w64 (((r1.1.length : Int)) - 1)) < (r1.1.length : Int)) <| some (r1.1.getD ((w64 (((r1.1.length : Int)) - 1)).toNat) 0, ())
noncomputable def impl_kindOf.f (k : Nat) (p0 : (List (Int × (Int × (Int × Int))))) (p1 : Int) : Option (Int × Unit) := impl_kindOf.bt k p0 p1
/-! loop.example/wholecheck/impl.ruleOk -/
noncomputable def impl_ruleOk.b4 (k : Nat) (e4 : Int → Option (Bool × Unit)) (p0 : ((List (Int × (Int × (Int × Int)))) × ((List Int) × (List (List (Int × (Int × (Int × Int)))))))) (p1 : Int) (v24_4 : Int) : Option (Bool × Unit) :=
  if (decide (v24_4 < ((p0.2.1.length : Int)))) = true then
    gd ((0 : Int) ≤ v24_4) <| gd (v24_4 < (p0.2.1.length : Int)) <| (impl_in.f k (p0.2.1.getD (v24_4.toNat) 0) 0 (w64 (p1 - 1))).bind fun r2 =>
    if (!r2.1) = true then
      some (false, ())
    else
      if (decide (v24_4 > 0)) = true then
        gd ((0 : Int) ≤ (w64 (v24_4 - 1))) <| gd ((w64 (v24_4 - 1)) < (p0.2.1.length : Int)) <| if (decide ((p0.2.1.getD ((w64 (v24_4 - 1)).toNat) 0) ≥ (p0.2.1.getD (v24_4.toNat) 0))) = true then
          some (false, ())
        else
          gd ((0 : Int) ≤ v24_4) <| gd (v24_4 < (p0.2.2.length : Int)) <| (impl_kindOf.f k (p0.2.2.getD (v24_4.toNat) []) p1).bind fun r3 =>
          if (r3.1 != 1) = true then
            some (false, ())
          else
            e4 (w64 (v24_4 + 1))
      else
        gd ((0 : Int) ≤ v24_4) <| gd (v24_4 < (p0.2.2.length : Int)) <| (impl_kindOf.f k (p0.2.2.getD (v24_4.toNat) []) p1).bind fun r4 =>
        if (r4.1 != 1) = true then
          some (false, ())
        else
          e4 (w64 (v24_4 + 1))
  else
    some (true, ())
noncomputable def impl_ruleOk.l4 (k : Nat) (p0 : ((List (Int × (Int × (Int × Int)))) × ((List Int) × (List (List (Int × (Int × (Int × Int)))))))) (p1 : Int) : Nat → Int → Option (Bool × Unit)
  | 0, _ => none
  | n + 1, v24_4 => impl_ruleOk.b4 k (impl_ruleOk.l4 k p0 p1 n) p0 p1 v24_4
noncomputable def impl_ruleOk.bt (k : Nat) (e4 : Int → Option (Bool × Unit)) (p0 : ((List (Int × (Int × (Int × Int)))) × ((List Int) × (List (List (Int × (Int × (Int × Int)))))))) (p1 : Int) : Option (Bool × Unit) :=
  (impl_kindOf.f k p0.1 p1).bind fun r1 =>
  if (r1.1 != 2) = true then
    some (false, ())
  else
    if (((p0.2.1.length : Int)) != ((p0.2.2.length : Int))) = true then
      some (false, ())
    else
      e4 0
noncomputable def impl_ruleOk.f (k : Nat) (p0 : ((List (Int × (Int × (Int × Int)))) × ((List Int) × (List (List (Int × (Int × (Int × Int)))))))) (p1 : Int) : Option (Bool × Unit) := impl_ruleOk.bt k (impl_ruleOk.l4 k p0 p1 k) p0 p1
/-! loop.example/wholecheck/impl.SystemValid$2 -/
noncomputable def impl_SystemValid_2.bt (k : Nat) (p0 : ((List (Int × (Int × (Int × Int)))) × ((List Int) × (List (List (Int × (Int × (Int × Int)))))))) (p1 : ((List (Int × (Int × Int))) × (List ((List (Int × (Int × (Int × Int)))) × ((List Int) × (List (List (Int × (Int × (Int × Int)))))))))) : Option (Bool × Unit) :=
  (impl_ruleOk.f k p0 ((p1.1.length : Int))).bind fun r1 =>
  some (!r1.1, ())
noncomputable def impl_SystemValid_2.f (k : Nat) (p0 : ((List (Int × (Int × (Int × Int)))) × ((List Int) × (List (List (Int × (Int × (Int × Int)))))))) (p1 : ((List (Int × (Int × Int))) × (List ((List (Int × (Int × (Int × Int)))) × ((List Int) × (List (List (Int × (Int × (Int × Int)))))))))) : Option (Bool × Unit) := impl_SystemValid_2.bt k p0 p1
/-! slices.IndexFunc[[]loop.example/wholecheck/impl.Rule,loop.example/wholecheck/impl.Rule] -/
noncomputable def slices_IndexFunc_impl_Rule_impl_Rule.b2 (k : Nat) (e2 : Int → Option (Int × Unit)) (p0 : (List ((List (Int × (Int × (Int × Int)))) × ((List Int) × (List (List (Int × (Int × (Int × Int))))))))) (p1 : (((List (Int × (Int × (Int × Int)))) × ((List Int) × (List (List (Int × (Int × (Int × Int))))))) → Option Bool)) (v8_2 : Int) : Option (Int × Unit) :=
  if (decide (v8_2 < ((p0.length : Int)))) = true then
    gd ((0 : Int) ≤ v8_2) <| gd (v8_2 < (p0.length : Int)) <| (p1 (p0.getD (v8_2.toNat) ([], ([], [])))).bind fun r1 =>
    if r1 = true then
      some (v8_2, ())
    else
      e2 (w64 (v8_2 + 1))
  else
    some ((-1), ())
noncomputable def slices_IndexFunc_impl_Rule_impl_Rule.l2 (k : Nat) (p0 : (List ((List (Int × (Int × (Int × Int)))) × ((List Int) × (List (List (Int × (Int × (Int × Int))))))))) (p1 : (((List (Int × (Int × (Int × Int)))) × ((List Int) × (List (List (Int × (Int × (Int × Int))))))) → Option Bool)) : Nat → Int → Option (Int × Unit)
  | 0, _ => none
  | n + 1, v8_2 => slices_IndexFunc_impl_Rule_impl_Rule.b2 k (slices_IndexFunc_impl_Rule_impl_Rule.l2 k p0 p1 n) p0 p1 v8_2
noncomputable def slices_IndexFunc_impl_Rule_impl_Rule.bt (k : Nat) (e2 : Int → Option (Int × Unit)) (p0 : (List ((List (Int × (Int × (Int × Int)))) × ((List Int) × (List (List (Int × (Int × (Int × Int))))))))) (p1 : (((List (Int × (Int × (Int × Int)))) × ((List Int) × (List (List (Int × (Int × (Int × Int))))))) → Option Bool)) : Option (Int × Unit) :=
  e2 0
noncomputable def slices_IndexFunc_impl_Rule_impl_Rule.f (k : Nat) (p0 : (List ((List (Int × (Int × (Int × Int)))) × ((List Int) × (List (List (Int × (Int × (Int × Int))))))))) (p1 : (((List (Int × (Int × (Int × Int)))) × ((List Int) × (List (List (Int × (Int × (Int × Int))))))) → Option Bool)) : Option (Int × Unit) := slices_IndexFunc_impl_Rule_impl_Rule.bt k (slices_IndexFunc_impl_Rule_impl_Rule.l2 k p0 p1 k) p0 p1
/-! slices.ContainsFunc[[]loop.example/wholecheck/impl.Rule,loop.example/wholecheck/impl.Rule] -/
noncomputable def slices_ContainsFunc_impl_Rule_impl_Rule.bt (k : Nat) (p0 : (List ((List (Int × (Int × (Int × Int)))) × ((List Int) × (List (List (Int × (Int × (Int × Int))))))))) (p1 : (((List (Int × (Int × (Int × Int)))) × ((List Int) × (List (List (Int × (Int × (Int × Int))))))) → Option Bool)) : Option (Bool × Unit) :=
  (slices_IndexFunc_impl_Rule_impl_Rule.f k p0 p1).bind fun r1 =>
  some (decide (r1.1 ≥ 0), ())
noncomputable def slices_ContainsFunc_impl_Rule_impl_Rule.f (k : Nat) (p0 : (List ((List (Int × (Int × (Int × Int)))) × ((List Int) × (List (List (Int × (Int × (Int × Int))))))))) (p1 : (((List (Int × (Int × (Int × Int)))) × ((List Int) × (List (List (Int × (Int × (Int × Int))))))) → Option Bool)) : Option (Bool × Unit) := slices_ContainsFunc_impl_Rule_impl_Rule.bt k p0 p1
/-! loop.example/wholecheck/impl.SystemValid -/
noncomputable def impl_SystemValid.bt (k : Nat) (p0 : ((List (Int × (Int × Int))) × (List ((List (Int × (Int × (Int × Int)))) × ((List Int) × (List (List (Int × (Int × (Int × Int)))))))))) : Option (Bool × Unit) :=
  (impl_in.f k ((p0.1.length : Int)) 1 5).bind fun r1 =>
  if (!r1.1) = true then
    some (false, ())
  else
    if (decide (((p0.2.length : Int)) > 8)) = true then
      some (false, ())
    else
      (slices_ContainsFunc_impl_Var_impl_Var.f k p0.1 (fun p => (impl_SystemValid_1.f k p).bind fun r => some r.1)).bind fun r2 =>
      if r2.1 = true then
        some (false, ())
      else
        (impl_size.f k p0.1).bind fun r3 =>
        if (decide (r3.1 > 400)) = true then
          some (false, ())
        else
          (slices_ContainsFunc_impl_Rule_impl_Rule.f k p0.2 (fun p => (impl_SystemValid_2.f k p p0).bind fun r => some r.1)).bind fun r4 =>
          some (!r4.1, ())
noncomputable def impl_SystemValid.f (k : Nat) (p0 : ((List (Int × (Int × Int))) × (List ((List (Int × (Int × (Int × Int)))) × ((List Int) × (List (List (Int × (Int × (Int × Int)))))))))) : Option (Bool × Unit) := impl_SystemValid.bt k p0
/-! loop.example/wholecheck/impl.blocksOk -/
noncomputable def impl_blocksOk.b4 (k : Nat) (e4 : Int → Option (Bool × Unit)) (p1 : (List Int)) (v17_4 : Int) : Option (Bool × Unit) :=
  if (decide (v17_4 < ((p1.length : Int)))) = true then
    gd ((0 : Int) ≤ v17_4) <| gd (v17_4 < (p1.length : Int)) <| (impl_in.f k (p1.getD (v17_4.toNat) 0) 0 v17_4).bind fun r2 =>
    if (!r2.1) = true then
      some (false, ())
    else
      gd ((0 : Int) ≤ (p1.getD (v17_4.toNat) 0)) <| gd ((p1.getD (v17_4.toNat) 0) < (p1.length : Int)) <| if ((p1.getD ((p1.getD (v17_4.toNat) 0).toNat) 0) != (p1.getD (v17_4.toNat) 0)) = true then
        some (false, ())
      else
        e4 (w64 (v17_4 + 1))
  else
    some (true, ())
noncomputable def impl_blocksOk.l4 (k : Nat) (p1 : (List Int)) : Nat → Int → Option (Bool × Unit)
  | 0, _ => none
  | n + 1, v17_4 => impl_blocksOk.b4 k (impl_blocksOk.l4 k p1 n) p1 v17_4
noncomputable def impl_blocksOk.bt (k : Nat) (e4 : Int → Option (Bool × Unit)) (p0 : ((List (Int × (Int × Int))) × (List ((List (Int × (Int × (Int × Int)))) × ((List Int) × (List (List (Int × (Int × (Int × Int)))))))))) (p1 : (List Int)) : Option (Bool × Unit) :=
  (impl_size.f k p0.1).bind fun r1 =>
  if (((p1.length : Int)) != r1.1) = true then
    some (false, ())
  else
    e4 0
noncomputable def impl_blocksOk.f (k : Nat) (p0 : ((List (Int × (Int × Int))) × (List ((List (Int × (Int × (Int × Int)))) × ((List Int) × (List (List (Int × (Int × (Int × Int)))))))))) (p1 : (List Int)) : Option (Bool × Unit) := impl_blocksOk.bt k (impl_blocksOk.l4 k p1 k) p0 p1
/-! loop.example/wholecheck/impl.BlocksValid -/
noncomputable def impl_BlocksValid.bt (k : Nat) (p0 : ((List (Int × (Int × Int))) × (List ((List (Int × (Int × (Int × Int)))) × ((List Int) × (List (List (Int × (Int × (Int × Int)))))))))) (p1 : (List Int)) : Option (Bool × Unit) :=
  (impl_SystemValid.f k p0).bind fun r1 =>
  if r1.1 = true then
    (impl_blocksOk.f k p0 p1).bind fun r2 =>
    some (r2.1, ())
  else
    some (false, ())
noncomputable def impl_BlocksValid.f (k : Nat) (p0 : ((List (Int × (Int × Int))) × (List ((List (Int × (Int × (Int × Int)))) × ((List Int) × (List (List (Int × (Int × (Int × Int)))))))))) (p1 : (List Int)) : Option (Bool × Unit) := impl_BlocksValid.bt k p0 p1
/-! loop.example/wholecheck/laws.eqVar -/
noncomputable def laws_eqVar.bt (k : Nat) (p0 : (Int × (Int × Int))) (p1 : (Int × (Int × Int))) : Option (Bool × Unit) :=
  if (p0.1 != p1.1) = true then
    some (false, ())
  else
    if (p0.2.1 != p1.2.1) = true then
      some (false, ())
    else
      if (p0.2.2 != p1.2.2) = true then
        some (false, ())
      else
        some (true, ())
noncomputable def laws_eqVar.f (k : Nat) (p0 : (Int × (Int × Int))) (p1 : (Int × (Int × Int))) : Option (Bool × Unit) := laws_eqVar.bt k p0 p1
/-! loop.example/wholecheck/laws.eqVarS -/
noncomputable def laws_eqVarS.b4 (k : Nat) (e4 : Int → Option (Bool × Unit)) (p0 : (List (Int × (Int × Int)))) (p1 : (List (Int × (Int × Int)))) (v5_4 : Int) : Option (Bool × Unit) :=
  if (decide (v5_4 < ((p0.length : Int)))) = true then
    gd ((0 : Int) ≤ v5_4) <| gd (v5_4 < (p0.length : Int)) <| gd ((0 : Int) ≤ v5_4) <| gd (v5_4 < (p1.length : Int)) <| (laws_eqVar.f k (p0.getD (v5_4.toNat) (0, (0, 0))) (p1.getD (v5_4.toNat) (0, (0, 0)))).bind fun r1 =>
    if (!r1.1) = true then
      some (false, ())
    else
      e4 (w64 (v5_4 + 1))
  else
    some (true, ())
noncomputable def laws_eqVarS.l4 (k : Nat) (p0 : (List (Int × (Int × Int)))) (p1 : (List (Int × (Int × Int)))) : Nat → Int → Option (Bool × Unit)
  | 0, _ => none
  | n + 1, v5_4 => laws_eqVarS.b4 k (laws_eqVarS.l4 k p0 p1 n) p0 p1 v5_4
noncomputable def laws_eqVarS.bt (k : Nat) (e4 : Int → Option (Bool × Unit)) (p0 : (List (Int × (Int × Int)))) (p1 : (List (Int × (Int × Int)))) : Option (Bool × Unit) :=
  if (((p0.length : Int)) != ((p1.length : Int))) = true then
    some (false, ())
  else
    e4 0
noncomputable def laws_eqVarS.f (k : Nat) (p0 : (List (Int × (Int × Int)))) (p1 : (List (Int × (Int × Int)))) : Option (Bool × Unit) := laws_eqVarS.bt k (laws_eqVarS.l4 k p0 p1 k) p0 p1
/-! loop.example/wholecheck/laws.eqTerm -/
noncomputable def laws_eqTerm.bt (k : Nat) (p0 : (Int × (Int × (Int × Int)))) (p1 : (Int × (Int × (Int × Int)))) : Option (Bool × Unit) :=
  if (p0.1 != p1.1) = true then
    some (false, ())
  else
    if (p0.2.1 != p1.2.1) = true then
      some (false, ())
    else
      if (p0.2.2.1 != p1.2.2.1) = true then
        some (false, ())
      else
        if (p0.2.2.2 != p1.2.2.2) = true then
          some (false, ())
        else
          some (true, ())
noncomputable def laws_eqTerm.f (k : Nat) (p0 : (Int × (Int × (Int × Int)))) (p1 : (Int × (Int × (Int × Int)))) : Option (Bool × Unit) := laws_eqTerm.bt k p0 p1
/-! loop.example/wholecheck/laws.eqTermS -/
noncomputable def laws_eqTermS.b4 (k : Nat) (e4 : Int → Option (Bool × Unit)) (p0 : (List (Int × (Int × (Int × Int))))) (p1 : (List (Int × (Int × (Int × Int))))) (v5_4 : Int) : Option (Bool × Unit) :=
  if (decide (v5_4 < ((p0.length : Int)))) = true then
    gd ((0 : Int) ≤ v5_4) <| gd (v5_4 < (p0.length : Int)) <| gd ((0 : Int) ≤ v5_4) <| gd (v5_4 < (p1.length : Int)) <| (laws_eqTerm.f k (p0.getD (v5_4.toNat) (0, (0, (0, 0)))) (p1.getD (v5_4.toNat) (0, (0, (0, 0))))).bind fun r1 =>
    if (!r1.1) = true then
      some (false, ())
    else
      e4 (w64 (v5_4 + 1))
  else
    some (true, ())
noncomputable def laws_eqTermS.l4 (k : Nat) (p0 : (List (Int × (Int × (Int × Int))))) (p1 : (List (Int × (Int × (Int × Int))))) : Nat → Int → Option (Bool × Unit)
  | 0, _ => none
  | n + 1, v5_4 => laws_eqTermS.b4 k (laws_eqTermS.l4 k p0 p1 n) p0 p1 v5_4
noncomputable def laws_eqTermS.bt (k : Nat) (e4 : Int → Option (Bool × Unit)) (p0 : (List (Int × (Int × (Int × Int))))) (p1 : (List (Int × (Int × (Int × Int))))) : Option (Bool × Unit) :=
  if (((p0.length : Int)) != ((p1.length : Int))) = true then
    some (false, ())
  else
    e4 0
noncomputable def laws_eqTermS.f (k : Nat) (p0 : (List (Int × (Int × (Int × Int))))) (p1 : (List (Int × (Int × (Int × Int))))) : Option (Bool × Unit) := laws_eqTermS.bt k (laws_eqTermS.l4 k p0 p1 k) p0 p1
/-! loop.example/wholecheck/laws.eqTermSS -/
noncomputable def laws_eqTermSS.b4 (k : Nat) (e4 : Int → Option (Bool × Unit)) (p0 : (List (List (Int × (Int × (Int × Int)))))) (p1 : (List (List (Int × (Int × (Int × Int)))))) (v5_4 : Int) : Option (Bool × Unit) :=
  if (decide (v5_4 < ((p0.length : Int)))) = true then
    gd ((0 : Int) ≤ v5_4) <| gd (v5_4 < (p0.length : Int)) <| gd ((0 : Int) ≤ v5_4) <| gd (v5_4 < (p1.length : Int)) <| (laws_eqTermS.f k (p0.getD (v5_4.toNat) []) (p1.getD (v5_4.toNat) [])).bind fun r1 =>
    if (!r1.1) = true then
      some (false, ())
    else
      e4 (w64 (v5_4 + 1))
  else
    some (true, ())
noncomputable def laws_eqTermSS.l4 (k : Nat) (p0 : (List (List (Int × (Int × (Int × Int)))))) (p1 : (List (List (Int × (Int × (Int × Int)))))) : Nat → Int → Option (Bool × Unit)
  | 0, _ => none
  | n + 1, v5_4 => laws_eqTermSS.b4 k (laws_eqTermSS.l4 k p0 p1 n) p0 p1 v5_4
noncomputable def laws_eqTermSS.bt (k : Nat) (e4 : Int → Option (Bool × Unit)) (p0 : (List (List (Int × (Int × (Int × Int)))))) (p1 : (List (List (Int × (Int × (Int × Int)))))) : Option (Bool × Unit) :=
  if (((p0.length : Int)) != ((p1.length : Int))) = true then
    some (false, ())
  else
    e4 0
noncomputable def laws_eqTermSS.f (k : Nat) (p0 : (List (List (Int × (Int × (Int × Int)))))) (p1 : (List (List (Int × (Int × (Int × Int)))))) : Option (Bool × Unit) := laws_eqTermSS.bt k (laws_eqTermSS.l4 k p0 p1 k) p0 p1
/-! loop.example/wholecheck/laws.eqRule -/
noncomputable def laws_eqRule.bt (k : Nat) (p0 : ((List (Int × (Int × (Int × Int)))) × ((List Int) × (List (List (Int × (Int × (Int × Int)))))))) (p1 : ((List (Int × (Int × (Int × Int)))) × ((List Int) × (List (List (Int × (Int × (Int × Int)))))))) : Option (Bool × Unit) :=
  (laws_eqTermS.f k p0.1 p1.1).bind fun r1 =>
  if (!r1.1) = true then
    some (false, ())
  else
    (laws_eqIntS.f k p0.2.1 p1.2.1).bind fun r2 =>
    if (!r2.1) = true then
      some (false, ())
    else
      (laws_eqTermSS.f k p0.2.2 p1.2.2).bind fun r3 =>
      if (!r3.1) = true then
        some (false, ())
      else
        some (true, ())
noncomputable def laws_eqRule.f (k : Nat) (p0 : ((List (Int × (Int × (Int × Int)))) × ((List Int) × (List (List (Int × (Int × (Int × Int)))))))) (p1 : ((List (Int × (Int × (Int × Int)))) × ((List Int) × (List (List (Int × (Int × (Int × Int)))))))) : Option (Bool × Unit) := laws_eqRule.bt k p0 p1
/-! loop.example/wholecheck/laws.eqRuleS -/
noncomputable def laws_eqRuleS.b4 (k : Nat) (e4 : Int → Option (Bool × Unit)) (p0 : (List ((List (Int × (Int × (Int × Int)))) × ((List Int) × (List (List (Int × (Int × (Int × Int))))))))) (p1 : (List ((List (Int × (Int × (Int × Int)))) × ((List Int) × (List (List (Int × (Int × (Int × Int))))))))) (v5_4 : Int) : Option (Bool × Unit) :=
  if (decide (v5_4 < ((p0.length : Int)))) = true then
    gd ((0 : Int) ≤ v5_4) <| gd (v5_4 < (p0.length : Int)) <| gd ((0 : Int) ≤ v5_4) <| gd (v5_4 < (p1.length : Int)) <| (laws_eqRule.f k (p0.getD (v5_4.toNat) ([], ([], []))) (p1.getD (v5_4.toNat) ([], ([], [])))).bind fun r1 =>
    if (!r1.1) = true then
      some (false, ())
    else
      e4 (w64 (v5_4 + 1))
  else
    some (true, ())
noncomputable def laws_eqRuleS.l4 (k : Nat) (p0 : (List ((List (Int × (Int × (Int × Int)))) × ((List Int) × (List (List (Int × (Int × (Int × Int))))))))) (p1 : (List ((List (Int × (Int × (Int × Int)))) × ((List Int) × (List (List (Int × (Int × (Int × Int))))))))) : Nat → Int → Option (Bool × Unit)
  | 0, _ => none
  | n + 1, v5_4 => laws_eqRuleS.b4 k (laws_eqRuleS.l4 k p0 p1 n) p0 p1 v5_4
noncomputable def laws_eqRuleS.bt (k : Nat) (e4 : Int → Option (Bool × Unit)) (p0 : (List ((List (Int × (Int × (Int × Int)))) × ((List Int) × (List (List (Int × (Int × (Int × Int))))))))) (p1 : (List ((List (Int × (Int × (Int × Int)))) × ((List Int) × (List (List (Int × (Int × (Int × Int))))))))) : Option (Bool × Unit) :=
  if (((p0.length : Int)) != ((p1.length : Int))) = true then
    some (false, ())
  else
    e4 0
noncomputable def laws_eqRuleS.f (k : Nat) (p0 : (List ((List (Int × (Int × (Int × Int)))) × ((List Int) × (List (List (Int × (Int × (Int × Int))))))))) (p1 : (List ((List (Int × (Int × (Int × Int)))) × ((List Int) × (List (List (Int × (Int × (Int × Int))))))))) : Option (Bool × Unit) := laws_eqRuleS.bt k (laws_eqRuleS.l4 k p0 p1 k) p0 p1
/-! loop.example/wholecheck/laws.eqSystem -/
noncomputable def laws_eqSystem.bt (k : Nat) (p0 : ((List (Int × (Int × Int))) × (List ((List (Int × (Int × (Int × Int)))) × ((List Int) × (List (List (Int × (Int × (Int × Int)))))))))) (p1 : ((List (Int × (Int × Int))) × (List ((List (Int × (Int × (Int × Int)))) × ((List Int) × (List (List (Int × (Int × (Int × Int)))))))))) : Option (Bool × Unit) :=
  (laws_eqVarS.f k p0.1 p1.1).bind fun r1 =>
  if (!r1.1) = true then
    some (false, ())
  else
    (laws_eqRuleS.f k p0.2 p1.2).bind fun r2 =>
    if (!r2.1) = true then
      some (false, ())
    else
      some (true, ())
noncomputable def laws_eqSystem.f (k : Nat) (p0 : ((List (Int × (Int × Int))) × (List ((List (Int × (Int × (Int × Int)))) × ((List Int) × (List (List (Int × (Int × (Int × Int)))))))))) (p1 : ((List (Int × (Int × Int))) × (List ((List (Int × (Int × (Int × Int)))) × ((List Int) × (List (List (Int × (Int × (Int × Int)))))))))) : Option (Bool × Unit) := laws_eqSystem.bt k p0 p1
/-! loop.example/wholecheck/laws.eqBlocks -/
noncomputable def laws_eqBlocks.bt (k : Nat) (p0 : (List Int)) (p1 : (List Int)) : Option (Bool × Unit) :=
  (laws_eqIntS.f k p0 p1).bind fun r1 =>
  if (!r1.1) = true then
    some (false, ())
  else
    some (true, ())
noncomputable def laws_eqBlocks.f (k : Nat) (p0 : (List Int)) (p1 : (List Int)) : Option (Bool × Unit) := laws_eqBlocks.bt k p0 p1
/-! loop.example/wholecheck/laws.FnExactBlocksValid -/
noncomputable def laws_FnExactBlocksValid.bt (k : Nat) (p0 : ((List (Int × (Int × Int))) × (List ((List (Int × (Int × (Int × Int)))) × ((List Int) × (List (List (Int × (Int × (Int × Int)))))))))) (p1 : (List Int)) : Option (Bool × Unit) :=
  (laws_szSystem.f k p0 1048576).bind fun r1 =>
  if (decide (r1.1 < 0)) = true then
    some (true, ())
  else
    (laws_szBlocks.f k p1 r1.1).bind fun r2 =>
    if (decide (r2.1 < 0)) = true then
      some (true, ())
    else
      (laws_toSystem.f k p0).bind fun r3 =>
      (laws_toBlocks.f k p1).bind fun r4 =>
      (spec_BlocksValid.f k r3.1 r4.1).bind fun r5 =>
      (laws_toSystem.f k p0).bind fun r6 =>
      (laws_toBlocks.f k p1).bind fun r7 =>
      (impl_BlocksValid.f k r6.1 r7.1).bind fun r8 =>
      if (r8.1 != r5.1) = true then
        some (false, ())
      else
        (laws_toSystem.f k p0).bind fun r9 =>
        (laws_eqSystem.f k r6.1 r9.1).bind fun r10 =>
        if (!r10.1) = true then
          some (false, ())
        else
          (laws_toBlocks.f k p1).bind fun r11 =>
          (laws_eqBlocks.f k r7.1 r11.1).bind fun r12 =>
          if (!r12.1) = true then
            some (false, ())
          else
            some (true, ())
noncomputable def laws_FnExactBlocksValid.f (k : Nat) (p0 : ((List (Int × (Int × Int))) × (List ((List (Int × (Int × (Int × Int)))) × ((List Int) × (List (List (Int × (Int × (Int × Int)))))))))) (p1 : (List Int)) : Option (Bool × Unit) := laws_FnExactBlocksValid.bt k p0 p1
end Go.Ev
