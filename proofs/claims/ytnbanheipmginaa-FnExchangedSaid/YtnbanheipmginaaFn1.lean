/- What the functions of the program compute, as plain functions. -/
import Derived.Test.YtnbanheipmginaaEv1
set_option linter.unusedVariables false
noncomputable section
namespace Go.Ev
/-! loop.example/wholecheck/laws.toIntS -/
noncomputable def laws_toIntS.b3 (k : Nat) (e3 : (List Int) → Int → Option ((List Int) × Unit)) (p0 : (List Int)) (v3_3 : (List Int)) (v4_3 : Int) : Option ((List Int) × Unit) :=
  if (decide (v4_3 < ((p0.length : Int)))) = true then
    gd ((0 : Int) ≤ v4_3) <| gd (v4_3 < (p0.length : Int)) <| gd ((0 : Int) ≤ v4_3) <| gd (v4_3 < (v3_3.length : Int)) <| e3 (v3_3.set (v4_3.toNat) (p0.getD (v4_3.toNat) 0)) (w64 (v4_3 + 1))
  else
    some (v3_3, ())
noncomputable def laws_toIntS.l3 (k : Nat) (p0 : (List Int)) : Nat → (List Int) → Int → Option ((List Int) × Unit)
  | 0, _, _ => none
  | n + 1, v3_3, v4_3 => laws_toIntS.b3 k (laws_toIntS.l3 k p0 n) p0 v3_3 v4_3
noncomputable def laws_toIntS.bt (k : Nat) (e3 : (List Int) → Int → Option ((List Int) × Unit)) (p0 : (List Int)) : Option ((List Int) × Unit) :=
  gd ((0 : Int) ≤ ((p0.length : Int))) <| gd (((p0.length : Int)) ≤ 1099511627776) <| e3 ((List.replicate ((p0.length : Int)).toNat 0 : (List Int))) 0
noncomputable def laws_toIntS.f (k : Nat) (p0 : (List Int)) : Option ((List Int) × Unit) := laws_toIntS.bt k (laws_toIntS.l3 k p0 k) p0
/-! loop.example/wholecheck/spec.l1In -/
noncomputable def spec_l1In.bt (k : Nat) (p0 : Int) (p1 : Int) (p2 : Int) : Option (Bool × Unit) :=
  if (decide (p0 ≥ p1)) = true then
    some (decide (p0 ≤ p2), ())
  else
    some (false, ())
noncomputable def spec_l1In.f (k : Nat) (p0 : Int) (p1 : Int) (p2 : Int) : Option (Bool × Unit) := spec_l1In.bt k p0 p1 p2
/-! loop.example/wholecheck/spec.l2Has -/
noncomputable def spec_l2Has.b2 (k : Nat) (e2 : Int → Option (Bool × Unit)) (p0 : (List Int)) (p1 : Int) (v5_2 : Int) : Option (Bool × Unit) :=
  if (decide (v5_2 < ((p0.length : Int)))) = true then
    gd ((0 : Int) ≤ v5_2) <| gd (v5_2 < (p0.length : Int)) <| if ((p0.getD (v5_2.toNat) 0) == p1) = true then
      some (true, ())
    else
      e2 (w64 (v5_2 + 1))
  else
    some (false, ())
noncomputable def spec_l2Has.l2 (k : Nat) (p0 : (List Int)) (p1 : Int) : Nat → Int → Option (Bool × Unit)
  | 0, _ => none
  | n + 1, v5_2 => spec_l2Has.b2 k (spec_l2Has.l2 k p0 p1 n) p0 p1 v5_2
noncomputable def spec_l2Has.bt (k : Nat) (e2 : Int → Option (Bool × Unit)) (p0 : (List Int)) (p1 : Int) : Option (Bool × Unit) :=
  e2 0
noncomputable def spec_l2Has.f (k : Nat) (p0 : (List Int)) (p1 : Int) : Option (Bool × Unit) := spec_l2Has.bt k (spec_l2Has.l2 k p0 p1 k) p0 p1
/-! loop.example/wholecheck/spec.OrderValid -/
noncomputable def spec_OrderValid.b4 (k : Nat) (e4 : Int → Option (Bool × Unit)) (p0 : (List Int)) (p1 : Int) (v5_4 : Int) : Option (Bool × Unit) :=
  if (decide (v5_4 < p1)) = true then
    (spec_l2Has.f k p0 v5_4).bind fun r2 =>
    if (!r2.1) = true then
      some (false, ())
    else
      e4 (w64 (v5_4 + 1))
  else
    some (true, ())
noncomputable def spec_OrderValid.l4 (k : Nat) (p0 : (List Int)) (p1 : Int) : Nat → Int → Option (Bool × Unit)
  | 0, _ => none
  | n + 1, v5_4 => spec_OrderValid.b4 k (spec_OrderValid.l4 k p0 p1 n) p0 p1 v5_4
noncomputable def spec_OrderValid.bt (k : Nat) (e4 : Int → Option (Bool × Unit)) (p0 : (List Int)) (p1 : Int) : Option (Bool × Unit) :=
  (spec_l1In.f k p1 0 12).bind fun r1 =>
  if (!r1.1) = true then
    some (false, ())
  else
    if (((p0.length : Int)) != p1) = true then
      some (false, ())
    else
      e4 0
noncomputable def spec_OrderValid.f (k : Nat) (p0 : (List Int)) (p1 : Int) : Option (Bool × Unit) := spec_OrderValid.bt k (spec_OrderValid.l4 k p0 p1 k) p0 p1
/-! loop.example/wholecheck/spec.Exchanged -/
noncomputable def spec_Exchanged.b3 (k : Nat) (e3 : (List Int) → Int → Option ((List Int) × Unit)) (p0 : (List Int)) (p1 : (List Int)) (v5_3 : (List Int)) (v6_3 : Int) : Option ((List Int) × Unit) :=
  if (decide (v6_3 < ((p1.length : Int)))) = true then
    (spec_OrderValid.f k p1 ((p0.length : Int))).bind fun r1 =>
    if r1.1 = true then
      gd ((0 : Int) ≤ v6_3) <| gd (v6_3 < (p1.length : Int)) <| gd ((0 : Int) ≤ (p1.getD (v6_3.toNat) 0)) <| gd ((p1.getD (v6_3.toNat) 0) < (p0.length : Int)) <| gd ((v5_3.length : Int) + ([(p0.getD ((p1.getD (v6_3.toNat) 0).toNat) 0)].length : Int) ≤ 1099511627776) <| e3 (v5_3 ++ [(p0.getD ((p1.getD (v6_3.toNat) 0).toNat) 0)]) (w64 (v6_3 + 1))
    else
      some (v5_3, ())
  else
    some (v5_3, ())
noncomputable def spec_Exchanged.l3 (k : Nat) (p0 : (List Int)) (p1 : (List Int)) : Nat → (List Int) → Int → Option ((List Int) × Unit)
  | 0, _, _ => none
  | n + 1, v5_3, v6_3 => spec_Exchanged.b3 k (spec_Exchanged.l3 k p0 p1 n) p0 p1 v5_3 v6_3
noncomputable def spec_Exchanged.bt (k : Nat) (e3 : (List Int) → Int → Option ((List Int) × Unit)) (p0 : (List Int)) (p1 : (List Int)) : Option ((List Int) × Unit) :=
  e3 [] 0
noncomputable def spec_Exchanged.f (k : Nat) (p0 : (List Int)) (p1 : (List Int)) : Option ((List Int) × Unit) := spec_Exchanged.bt k (spec_Exchanged.l3 k p0 p1 k) p0 p1
/-! loop.example/wholecheck/impl.in -/
noncomputable def impl_in.bt (k : Nat) (p0 : Int) (p1 : Int) (p2 : Int) : Option (Bool × Unit) :=
  if (decide (p0 ≥ p1)) = true then
    some (decide (p0 ≤ p2), ())
  else
    some (false, ())
noncomputable def impl_in.f (k : Nat) (p0 : Int) (p1 : Int) (p2 : Int) : Option (Bool × Unit) := impl_in.bt k p0 p1 p2
/-! slices.Index[[]int,int] -/
noncomputable def slices_Index_int_int.b2 (k : Nat) (e2 : Int → Option (Int × Unit)) (p0 : (List Int)) (p1 : Int) (v8_2 : Int) : Option (Int × Unit) :=
  if (decide (v8_2 < ((p0.length : Int)))) = true then
    gd ((0 : Int) ≤ v8_2) <| gd (v8_2 < (p0.length : Int)) <| if (p1 == (p0.getD (v8_2.toNat) 0)) = true then
      some (v8_2, ())
    else
      e2 (w64 (v8_2 + 1))
  else
    some ((-1), ())
noncomputable def slices_Index_int_int.l2 (k : Nat) (p0 : (List Int)) (p1 : Int) : Nat → Int → Option (Int × Unit)
  | 0, _ => none
  | n + 1, v8_2 => slices_Index_int_int.b2 k (slices_Index_int_int.l2 k p0 p1 n) p0 p1 v8_2
noncomputable def slices_Index_int_int.bt (k : Nat) (e2 : Int → Option (Int × Unit)) (p0 : (List Int)) (p1 : Int) : Option (Int × Unit) :=
  e2 0
noncomputable def slices_Index_int_int.f (k : Nat) (p0 : (List Int)) (p1 : Int) : Option (Int × Unit) := slices_Index_int_int.bt k (slices_Index_int_int.l2 k p0 p1 k) p0 p1
/-! slices.Contains[[]int,int] -/
noncomputable def slices_Contains_int_int.bt (k : Nat) (p0 : (List Int)) (p1 : Int) : Option (Bool × Unit) :=
  (slices_Index_int_int.f k p0 p1).bind fun r1 =>
  some (decide (r1.1 ≥ 0), ())
noncomputable def slices_Contains_int_int.f (k : Nat) (p0 : (List Int)) (p1 : Int) : Option (Bool × Unit) := slices_Contains_int_int.bt k p0 p1
/-! loop.example/wholecheck/impl.OrderValid -/
noncomputable def impl_OrderValid.b4 (k : Nat) (e4 : Int → Option (Bool × Unit)) (p0 : (List Int)) (p1 : Int) (v18_4 : Int) : Option (Bool × Unit) :=
  if (decide (v18_4 < ((p0.length : Int)))) = true then
    gd ((0 : Int) ≤ v18_4) <| gd (v18_4 < (p0.length : Int)) <| (impl_in.f k (p0.getD (v18_4.toNat) 0) 0 (w64 (p1 - 1))).bind fun r2 =>
    if (!r2.1) = true then
      some (false, ())
    else
      gd ((0 : Int) ≤ 0) <| gd ((0 : Int) ≤ v18_4) <| gd (v18_4 ≤ (p0.length : Int)) <| (slices_Contains_int_int.f k ((p0.take (v18_4.toNat)).drop (Int.toNat 0)) (p0.getD (v18_4.toNat) 0)).bind fun r3 =>
      if r3.1 = true then
        some (false, ())
      else
        e4 (w64 (v18_4 + 1))
  else
    some (true, ())
noncomputable def impl_OrderValid.l4 (k : Nat) (p0 : (List Int)) (p1 : Int) : Nat → Int → Option (Bool × Unit)
  | 0, _ => none
  | n + 1, v18_4 => impl_OrderValid.b4 k (impl_OrderValid.l4 k p0 p1 n) p0 p1 v18_4
noncomputable def impl_OrderValid.bt (k : Nat) (e4 : Int → Option (Bool × Unit)) (p0 : (List Int)) (p1 : Int) : Option (Bool × Unit) :=
  (impl_in.f k p1 0 12).bind fun r1 =>
  if (!r1.1) = true then
    some (false, ())
  else
    if (((p0.length : Int)) != p1) = true then
      some (false, ())
    else
      e4 0
noncomputable def impl_OrderValid.f (k : Nat) (p0 : (List Int)) (p1 : Int) : Option (Bool × Unit) := impl_OrderValid.bt k (impl_OrderValid.l4 k p0 p1 k) p0 p1
/-! loop.example/wholecheck/impl.exchanged -/
noncomputable def impl_exchanged.b3 (k : Nat) (e3 : (List Int) → Int → Option ((List Int) × Unit)) (p0 : (List Int)) (p1 : (List Int)) (v5_3 : (List Int)) (v13_3 : Int) : Option ((List Int) × Unit) :=
  if (decide (v13_3 < ((p1.length : Int)))) = true then
    gd ((0 : Int) ≤ v13_3) <| gd (v13_3 < (p1.length : Int)) <| gd ((0 : Int) ≤ (p1.getD (v13_3.toNat) 0)) <| gd ((p1.getD (v13_3.toNat) 0) < (p0.length : Int)) <| gd ((0 : Int) ≤ v13_3) <| gd (v13_3 < (v5_3.length : Int)) <| e3 (v5_3.set (v13_3.toNat) (p0.getD ((p1.getD (v13_3.toNat) 0).toNat) 0)) (w64 (v13_3 + 1))
  else
    some (v5_3, ())
noncomputable def impl_exchanged.l3 (k : Nat) (p0 : (List Int)) (p1 : (List Int)) : Nat → (List Int) → Int → Option ((List Int) × Unit)
  | 0, _, _ => none
  | n + 1, v5_3, v13_3 => impl_exchanged.b3 k (impl_exchanged.l3 k p0 p1 n) p0 p1 v5_3 v13_3
noncomputable def impl_exchanged.bt (k : Nat) (e3 : (List Int) → Int → Option ((List Int) × Unit)) (p0 : (List Int)) (p1 : (List Int)) : Option ((List Int) × Unit) :=
  gd ((0 : Int) ≤ ((p0.length : Int))) <| gd (((p0.length : Int)) ≤ 1099511627776) <| e3 ((List.replicate ((p0.length : Int)).toNat 0 : (List Int))) 0
noncomputable def impl_exchanged.f (k : Nat) (p0 : (List Int)) (p1 : (List Int)) : Option ((List Int) × Unit) := impl_exchanged.bt k (impl_exchanged.l3 k p0 p1 k) p0 p1
/-! loop.example/wholecheck/impl.clone[int] -/
noncomputable def impl_clone_int.bt (k : Nat) (p0 : (List Int)) : Option ((List Int) × Unit) :=
  if (((p0.length : Int)) == 0) = true then
    some ([], ())
  else
    gd ((0 : Int) ≤ ((p0.length : Int))) <| gd (((p0.length : Int)) ≤ 1099511627776) <| some (p0.take ((List.replicate ((p0.length : Int)).toNat 0 : (List Int))).length ++ ((List.replicate ((p0.length : Int)).toNat 0 : (List Int))).drop p0.length, ())
noncomputable def impl_clone_int.f (k : Nat) (p0 : (List Int)) : Option ((List Int) × Unit) := impl_clone_int.bt k p0
/-! loop.example/wholecheck/impl.Exchanged -/
noncomputable def impl_Exchanged.bt (k : Nat) (p0 : (List Int)) (p1 : (List Int)) : Option ((List Int) × Unit) :=
  (impl_OrderValid.f k p1 ((p0.length : Int))).bind fun r1 =>
  if (!r1.1) = true then
    some ([], ())
  else
    (impl_exchanged.f k p0 p1).bind fun r2 =>
    (impl_clone_int.f k r2.1).bind fun r3 =>
    some (r3.1, ())
noncomputable def impl_Exchanged.f (k : Nat) (p0 : (List Int)) (p1 : (List Int)) : Option ((List Int) × Unit) := impl_Exchanged.bt k p0 p1
/-! loop.example/wholecheck/laws.eqIntS -/
noncomputable def laws_eqIntS.b4 (k : Nat) (e4 : Int → Option (Bool × Unit)) (p0 : (List Int)) (p1 : (List Int)) (v5_4 : Int) : Option (Bool × Unit) :=
  if (decide (v5_4 < ((p0.length : Int)))) = true then
    gd ((0 : Int) ≤ v5_4) <| gd (v5_4 < (p0.length : Int)) <| gd ((0 : Int) ≤ v5_4) <| gd (v5_4 < (p1.length : Int)) <| if ((p0.getD (v5_4.toNat) 0) != (p1.getD (v5_4.toNat) 0)) = true then
      some (false, ())
    else
      e4 (w64 (v5_4 + 1))
  else
    some (true, ())
noncomputable def laws_eqIntS.l4 (k : Nat) (p0 : (List Int)) (p1 : (List Int)) : Nat → Int → Option (Bool × Unit)
  | 0, _ => none
  | n + 1, v5_4 => laws_eqIntS.b4 k (laws_eqIntS.l4 k p0 p1 n) p0 p1 v5_4
noncomputable def laws_eqIntS.bt (k : Nat) (e4 : Int → Option (Bool × Unit)) (p0 : (List Int)) (p1 : (List Int)) : Option (Bool × Unit) :=
  if (((p0.length : Int)) != ((p1.length : Int))) = true then
    some (false, ())
  else
    e4 0
noncomputable def laws_eqIntS.f (k : Nat) (p0 : (List Int)) (p1 : (List Int)) : Option (Bool × Unit) := laws_eqIntS.bt k (laws_eqIntS.l4 k p0 p1 k) p0 p1
/-! loop.example/wholecheck/laws.markIntS -/
noncomputable def laws_markIntS.b2 (k : Nat) (e2 : (List Int) → Int → Int → Option (Int × (List Int))) (v0_2 : (List Int)) (v1_2 : Int) (v5_2 : Int) : Option (Int × (List Int)) :=
  if (decide (v5_2 < ((v0_2.length : Int)))) = true then
    gd ((0 : Int) ≤ v5_2) <| gd (v5_2 < (v0_2.length : Int)) <| e2 (v0_2.set (v5_2.toNat) v1_2) (w64 (v1_2 + 1)) (w64 (v5_2 + 1))
  else
    some (v1_2, v0_2)
noncomputable def laws_markIntS.l2 (k : Nat) : Nat → (List Int) → Int → Int → Option (Int × (List Int))
  | 0, _, _, _ => none
  | n + 1, v0_2, v1_2, v5_2 => laws_markIntS.b2 k (laws_markIntS.l2 k n) v0_2 v1_2 v5_2
noncomputable def laws_markIntS.bt (k : Nat) (e2 : (List Int) → Int → Int → Option (Int × (List Int))) (p0 : (List Int)) (p1 : Int) : Option (Int × (List Int)) :=
  e2 p0 p1 0
noncomputable def laws_markIntS.f (k : Nat) (p0 : (List Int)) (p1 : Int) : Option (Int × (List Int)) := laws_markIntS.bt k (laws_markIntS.l2 k k) p0 p1
/-! loop.example/wholecheck/laws.heldIntS -/
noncomputable def laws_heldIntS.b2 (k : Nat) (e2 : Int → Int → Option (Int × Unit)) (p0 : (List Int)) (v1_2 : Int) (v5_2 : Int) : Option (Int × Unit) :=
  if (decide (v5_2 < ((p0.length : Int)))) = true then
    gd ((0 : Int) ≤ v5_2) <| gd (v5_2 < (p0.length : Int)) <| if ((p0.getD (v5_2.toNat) 0) != v1_2) = true then
      some ((-1), ())
    else
      e2 (w64 (v1_2 + 1)) (w64 (v5_2 + 1))
  else
    some (v1_2, ())
noncomputable def laws_heldIntS.l2 (k : Nat) (p0 : (List Int)) : Nat → Int → Int → Option (Int × Unit)
  | 0, _, _ => none
  | n + 1, v1_2, v5_2 => laws_heldIntS.b2 k (laws_heldIntS.l2 k p0 n) p0 v1_2 v5_2
noncomputable def laws_heldIntS.bt (k : Nat) (e2 : Int → Int → Option (Int × Unit)) (p0 : (List Int)) (p1 : Int) : Option (Int × Unit) :=
  e2 p1 0
noncomputable def laws_heldIntS.f (k : Nat) (p0 : (List Int)) (p1 : Int) : Option (Int × Unit) := laws_heldIntS.bt k (laws_heldIntS.l2 k p0 k) p0 p1
/-! loop.example/wholecheck/laws.FnExactExchanged -/
noncomputable def laws_FnExactExchanged.bt (k : Nat) (p0 : (List Int)) (p1 : (List Int)) : Option (Bool × Unit) :=
  if (decide (((p0.length : Int)) > 1048576)) = true then
    some (true, ())
  else
    if (decide (((p1.length : Int)) > 1048576)) = true then
      some (true, ())
    else
      (laws_toIntS.f k p0).bind fun r1 =>
      (laws_toIntS.f k p1).bind fun r2 =>
      (spec_Exchanged.f k r1.1 r2.1).bind fun r3 =>
      (laws_toIntS.f k p0).bind fun r4 =>
      (laws_toIntS.f k p1).bind fun r5 =>
      (impl_Exchanged.f k r4.1 r5.1).bind fun r6 =>
      (laws_eqIntS.f k r6.1 r3.1).bind fun r7 =>
      if (!r7.1) = true then
        some (false, ())
      else
        (laws_toIntS.f k p0).bind fun r8 =>
        (laws_eqIntS.f k r4.1 r8.1).bind fun r9 =>
        if (!r9.1) = true then
          some (false, ())
        else
          (laws_toIntS.f k p1).bind fun r10 =>
          (laws_eqIntS.f k r5.1 r10.1).bind fun r11 =>
          if (!r11.1) = true then
            some (false, ())
          else
            (laws_markIntS.f k r4.1 1).bind fun r12 =>
            (laws_markIntS.f k r5.1 r12.1).bind fun r13 =>
            if (decide (r13.1 < 0)) = true then
              some (false, ())
            else
              (laws_eqIntS.f k r6.1 r3.1).bind fun r14 =>
              if (!r14.1) = true then
                some (false, ())
              else
                (laws_markIntS.f k r6.1 1).bind fun r15 =>
                (laws_heldIntS.f k r15.2 1).bind fun r16 =>
                if (decide (r16.1 < 0)) = true then
                  some (false, ())
                else
                  if (r16.1 != r15.1) = true then
                    some (false, ())
                  else
                    (laws_toIntS.f k p0).bind fun r17 =>
                    (laws_toIntS.f k p1).bind fun r18 =>
                    (impl_Exchanged.f k r17.1 r18.1).bind fun r19 =>
                    (laws_eqIntS.f k r19.1 r3.1).bind fun r20 =>
                    if (!r20.1) = true then
                      some (false, ())
                    else
                      (laws_heldIntS.f k r15.2 1).bind fun r21 =>
                      if (decide (r21.1 < 0)) = true then
                        some (false, ())
                      else
                        if (r21.1 != r15.1) = true then
                          some (false, ())
                        else
                          some (true, ())
noncomputable def laws_FnExactExchanged.f (k : Nat) (p0 : (List Int)) (p1 : (List Int)) : Option (Bool × Unit) := laws_FnExactExchanged.bt k p0 p1
/-! loop.example/wholecheck/spec.OrderWith -/
noncomputable def spec_OrderWith.b5 (k : Nat) (e5 : (List Int) → Int → Option ((List Int) × Unit)) (p0 : (List Int)) (p1 : (List Int)) (v5_5 : (List Int)) (v6_5 : Int) : Option ((List Int) × Unit) :=
  if (decide (v6_5 < ((p1.length : Int)))) = true then
    gd ((0 : Int) ≤ v6_5) <| gd (v6_5 < (p1.length : Int)) <| gd ((0 : Int) ≤ (p1.getD (v6_5.toNat) 0)) <| gd ((p1.getD (v6_5.toNat) 0) < (p0.length : Int)) <| gd ((v5_5.length : Int) + ([(p0.getD ((p1.getD (v6_5.toNat) 0).toNat) 0)].length : Int) ≤ 1099511627776) <| e5 (v5_5 ++ [(p0.getD ((p1.getD (v6_5.toNat) 0).toNat) 0)]) (w64 (v6_5 + 1))
  else
    some (v5_5, ())
noncomputable def spec_OrderWith.l5 (k : Nat) (p0 : (List Int)) (p1 : (List Int)) : Nat → (List Int) → Int → Option ((List Int) × Unit)
  | 0, _, _ => none
  | n + 1, v5_5, v6_5 => spec_OrderWith.b5 k (spec_OrderWith.l5 k p0 p1 n) p0 p1 v5_5 v6_5
noncomputable def spec_OrderWith.bt (k : Nat) (e5 : (List Int) → Int → Option ((List Int) × Unit)) (p0 : (List Int)) (p1 : (List Int)) : Option ((List Int) × Unit) :=
  (spec_OrderValid.f k p0 ((p0.length : Int))).bind fun r1 =>
  if (!r1.1) = true then
    some ([], ())
  else
    (spec_OrderValid.f k p1 ((p0.length : Int))).bind fun r2 =>
    if (!r2.1) = true then
      some ([], ())
    else
      e5 [] 0
noncomputable def spec_OrderWith.f (k : Nat) (p0 : (List Int)) (p1 : (List Int)) : Option ((List Int) × Unit) := spec_OrderWith.bt k (spec_OrderWith.l5 k p0 p1 k) p0 p1
/-! loop.example/wholecheck/impl.OrderWith -/
noncomputable def impl_OrderWith.bt (k : Nat) (p0 : (List Int)) (p1 : (List Int)) : Option ((List Int) × Unit) :=
  (impl_OrderValid.f k p0 ((p0.length : Int))).bind fun r1 =>
  if (!r1.1) = true then
    some ([], ())
  else
    (impl_OrderValid.f k p1 ((p0.length : Int))).bind fun r2 =>
    if (!r2.1) = true then
      some ([], ())
    else
      (impl_exchanged.f k p0 p1).bind fun r3 =>
      (impl_clone_int.f k r3.1).bind fun r4 =>
      some (r4.1, ())
noncomputable def impl_OrderWith.f (k : Nat) (p0 : (List Int)) (p1 : (List Int)) : Option ((List Int) × Unit) := impl_OrderWith.bt k p0 p1
/-! loop.example/wholecheck/laws.FnExactOrderWith -/
noncomputable def laws_FnExactOrderWith.bt (k : Nat) (p0 : (List Int)) (p1 : (List Int)) : Option (Bool × Unit) :=
  if (decide (((p0.length : Int)) > 1048576)) = true then
    some (true, ())
  else
    if (decide (((p1.length : Int)) > 1048576)) = true then
      some (true, ())
    else
      (laws_toIntS.f k p0).bind fun r1 =>
      (laws_toIntS.f k p1).bind fun r2 =>
      (spec_OrderWith.f k r1.1 r2.1).bind fun r3 =>
      (laws_toIntS.f k p0).bind fun r4 =>
      (laws_toIntS.f k p1).bind fun r5 =>
      (impl_OrderWith.f k r4.1 r5.1).bind fun r6 =>
      (laws_eqIntS.f k r6.1 r3.1).bind fun r7 =>
      if (!r7.1) = true then
        some (false, ())
      else
        (laws_toIntS.f k p0).bind fun r8 =>
        (laws_eqIntS.f k r4.1 r8.1).bind fun r9 =>
        if (!r9.1) = true then
          some (false, ())
        else
          (laws_toIntS.f k p1).bind fun r10 =>
          (laws_eqIntS.f k r5.1 r10.1).bind fun r11 =>
          if (!r11.1) = true then
            some (false, ())
          else
            (laws_markIntS.f k r4.1 1).bind fun r12 =>
            (laws_markIntS.f k r5.1 r12.1).bind fun r13 =>
            if (decide (r13.1 < 0)) = true then
              some (false, ())
            else
              (laws_eqIntS.f k r6.1 r3.1).bind fun r14 =>
              if (!r14.1) = true then
                some (false, ())
              else
                (laws_markIntS.f k r6.1 1).bind fun r15 =>
                (laws_heldIntS.f k r15.2 1).bind fun r16 =>
                if (decide (r16.1 < 0)) = true then
                  some (false, ())
                else
                  if (r16.1 != r15.1) = true then
                    some (false, ())
                  else
                    (laws_toIntS.f k p0).bind fun r17 =>
                    (laws_toIntS.f k p1).bind fun r18 =>
                    (impl_OrderWith.f k r17.1 r18.1).bind fun r19 =>
                    (laws_eqIntS.f k r19.1 r3.1).bind fun r20 =>
                    if (!r20.1) = true then
                      some (false, ())
                    else
                      (laws_heldIntS.f k r15.2 1).bind fun r21 =>
                      if (decide (r21.1 < 0)) = true then
                        some (false, ())
                      else
                        if (r21.1 != r15.1) = true then
                          some (false, ())
                        else
                          some (true, ())
noncomputable def laws_FnExactOrderWith.f (k : Nat) (p0 : (List Int)) (p1 : (List Int)) : Option (Bool × Unit) := laws_FnExactOrderWith.bt k p0 p1
/-! loop.example/wholecheck/spec.l40Open -/
noncomputable def spec_l40Open.bt (k : Nat) (p0 : (List Int)) : Option (((List Int) × Int) × Unit) :=
  if (decide (((p0.length : Int)) > 2000)) = true then
    gd ((0 : Int) ≤ 0) <| gd ((0 : Int) ≤ 2000) <| gd (2000 ≤ (p0.length : Int)) <| some (((p0.take (Int.toNat 2000)).drop (Int.toNat 0), 0), ())
  else
    some ((p0, 0), ())
noncomputable def spec_l40Open.f (k : Nat) (p0 : (List Int)) : Option (((List Int) × Int) × Unit) := spec_l40Open.bt k p0
/-! (*loop.example/wholecheck/spec.l40Rd).pick -/
noncomputable def spec_l40Rd_pick.bt (k : Nat) (p0 : ((List Int) × Int)) (p1 : Int) : Option (Int × ((List Int) × Int)) :=
  if (decide (p1 < 1)) = true then
    some (0, (p0.1, w64 (p0.2 + 1)))
  else
    if (((p0.1.length : Int)) == 0) = true then
      some (0, (p0.1, w64 (p0.2 + 1)))
    else
      if (decide ((w64 ((w64 (p0.2 + 1)) - 1)) < ((p0.1.length : Int)))) = true then
        gd ((0 : Int) ≤ (w64 ((w64 (p0.2 + 1)) - 1))) <| gd ((w64 ((w64 (p0.2 + 1)) - 1)) < (p0.1.length : Int)) <| gd ((p1 : Int) ≠ 0) <| some ((w64 (p0.1.getD ((w64 ((w64 (p0.2 + 1)) - 1)).toNat) 0)).tmod p1, (p0.1, w64 (p0.2 + 1)))
      else
        gd ((((p0.1.length : Int)) : Int) ≠ 0) <| gd ((0 : Int) ≤ ((w64 ((w64 (p0.2 + 1)) - 1)).tmod ((p0.1.length : Int)))) <| gd (((w64 ((w64 (p0.2 + 1)) - 1)).tmod ((p0.1.length : Int))) < (p0.1.length : Int)) <| gd ((((p0.1.length : Int)) : Int) ≠ 0) <| gd ((0 : Int) ≤ ((w64 ((w64 ((w64 ((w64 (p0.2 + 1)) - 1)) * 7)) + 3)).tmod ((p0.1.length : Int)))) <| gd (((w64 ((w64 ((w64 ((w64 (p0.2 + 1)) - 1)) * 7)) + 3)).tmod ((p0.1.length : Int))) < (p0.1.length : Int)) <| gd ((((p0.1.length : Int)) : Int) ≠ 0) <| gd ((64 : Int) ≠ 0) <| gd ((p1 : Int) ≠ 0) <| some ((w64 (BitVec.ofInt IntKind.i64.bits (w64 ((w64 ((w64 ((w64 ((w64 (p0.1.getD (((w64 ((w64 (p0.2 + 1)) - 1)).tmod ((p0.1.length : Int))).toNat) 0)) * 131)) + (w64 ((w64 (p0.1.getD (((w64 ((w64 ((w64 ((w64 (p0.2 + 1)) - 1)) * 7)) + 3)).tmod ((p0.1.length : Int))).toNat) 0)) * 1117)))) + (w64 ((w64 ((w64 (p0.2 + 1)) - 1)) * 29)))) + (w64 ((w64 ((w64 ((w64 (p0.2 + 1)) - 1)).tdiv ((p0.1.length : Int)))) * 53)))) ^^^ BitVec.ofInt IntKind.i64.bits (w64 ((w64 ((w64 ((w64 ((w64 ((w64 (p0.1.getD (((w64 ((w64 (p0.2 + 1)) - 1)).tmod ((p0.1.length : Int))).toNat) 0)) * 131)) + (w64 ((w64 (p0.1.getD (((w64 ((w64 ((w64 ((w64 (p0.2 + 1)) - 1)) * 7)) + 3)).tmod ((p0.1.length : Int))).toNat) 0)) * 1117)))) + (w64 ((w64 ((w64 (p0.2 + 1)) - 1)) * 29)))) + (w64 ((w64 ((w64 ((w64 (p0.2 + 1)) - 1)).tdiv ((p0.1.length : Int)))) * 53)))).tdiv 64))).toNat).tmod p1, (p0.1, w64 (p0.2 + 1)))
noncomputable def spec_l40Rd_pick.f (k : Nat) (p0 : ((List Int) × Int)) (p1 : Int) : Option (Int × ((List Int) × Int)) := spec_l40Rd_pick.bt k p0 p1
/-! (*loop.example/wholecheck/spec.l40Rd).num -/
noncomputable def spec_l40Rd_num.bt (k : Nat) (p0 : ((List Int) × Int)) (p1 : (List Int)) : Option (Int × ((List Int) × Int)) :=
  (spec_l40Rd_pick.f k p0 ((p1.length : Int))).bind fun r1 =>
  gd ((0 : Int) ≤ r1.1) <| gd (r1.1 < (p1.length : Int)) <| some (p1.getD (r1.1.toNat) 0, r1.2)
noncomputable def spec_l40Rd_num.f (k : Nat) (p0 : ((List Int) × Int)) (p1 : (List Int)) : Option (Int × ((List Int) × Int)) := spec_l40Rd_num.bt k p0 p1
/-! loop.example/wholecheck/spec.l1Number -/
noncomputable def spec_l1Number.bt (k : Nat) (p0 : ((List Int) × Int)) : Option (Int × ((List Int) × Int)) :=
  (spec_l40Rd_pick.f k p0 4).bind fun r1 =>
  (spec_l40Rd_pick.f k r1.2 4).bind fun r2 =>
  (spec_l40Rd_pick.f k r2.2 7).bind fun r3 =>
  (spec_l40Rd_pick.f k r3.2 200).bind fun r4 =>
  (spec_l40Rd_pick.f k r4.2 4).bind fun r5 =>
  gd ((0 : Int) ≤ r5.1) <| gd (r5.1 < ([9999, (-9999), 5000, 100].length : Int)) <| (spec_l40Rd_num.f k r5.2 [r1.1, r2.1, (w64 (r3.1 - 3)), 1, 0, (w64 (r4.1 - 100)), ([9999, (-9999), 5000, 100].getD (r5.1.toNat) 0)]).bind fun r6 =>
  some (r6.1, r6.2)
noncomputable def spec_l1Number.f (k : Nat) (p0 : ((List Int) × Int)) : Option (Int × ((List Int) × Int)) := spec_l1Number.bt k p0
/-! loop.example/wholecheck/spec.l1Numbers -/
noncomputable def spec_l1Numbers.b3 (k : Nat) (e3 : ((List Int) × Int) → (List Int) → Int → Option ((List Int) × ((List Int) × Int))) (p1 : Int) (v0_3 : ((List Int) × Int)) (v5_3 : (List Int)) (v6_3 : Int) : Option ((List Int) × ((List Int) × Int)) :=
  if (decide (v6_3 < p1)) = true then
    (spec_l1Number.f k v0_3).bind fun r1 =>
    gd ((v5_3.length : Int) + ([r1.1].length : Int) ≤ 1099511627776) <| e3 r1.2 (v5_3 ++ [r1.1]) (w64 (v6_3 + 1))
  else
    if (decide (p1 > 0)) = true then
      (spec_l40Rd_pick.f k v0_3 30).bind fun r2 =>
      if (r2.1 == 0) = true then
        (spec_l40Rd_num.f k r2.2 [10000, (-10000)]).bind fun r3 =>
        gd ((0 : Int) ≤ 0) <| gd (0 < (v5_3.length : Int)) <| some (v5_3.set (Int.toNat 0) r3.1, r3.2)
      else
        some (v5_3, r2.2)
    else
      some (v5_3, v0_3)
noncomputable def spec_l1Numbers.l3 (k : Nat) (p1 : Int) : Nat → ((List Int) × Int) → (List Int) → Int → Option ((List Int) × ((List Int) × Int))
  | 0, _, _, _ => none
  | n + 1, v0_3, v5_3, v6_3 => spec_l1Numbers.b3 k (spec_l1Numbers.l3 k p1 n) p1 v0_3 v5_3 v6_3
noncomputable def spec_l1Numbers.bt (k : Nat) (e3 : ((List Int) × Int) → (List Int) → Int → Option ((List Int) × ((List Int) × Int))) (p0 : ((List Int) × Int)) (p1 : Int) : Option ((List Int) × ((List Int) × Int)) :=
  e3 p0 [] 0
noncomputable def spec_l1Numbers.f (k : Nat) (p0 : ((List Int) × Int)) (p1 : Int) : Option ((List Int) × ((List Int) × Int)) := spec_l1Numbers.bt k (spec_l1Numbers.l3 k p1 k) p0 p1
/-! loop.example/wholecheck/spec.l9Plain -/
noncomputable def spec_l9Plain.b3 (k : Nat) (e3 : (List Int) → Int → Option ((List Int) × Unit)) (p0 : Int) (v3_3 : (List Int)) (v4_3 : Int) : Option ((List Int) × Unit) :=
  if (decide (v4_3 < p0)) = true then
    gd ((v3_3.length : Int) + ([v4_3].length : Int) ≤ 1099511627776) <| e3 (v3_3 ++ [v4_3]) (w64 (v4_3 + 1))
  else
    some (v3_3, ())
noncomputable def spec_l9Plain.l3 (k : Nat) (p0 : Int) : Nat → (List Int) → Int → Option ((List Int) × Unit)
  | 0, _, _ => none
  | n + 1, v3_3, v4_3 => spec_l9Plain.b3 k (spec_l9Plain.l3 k p0 n) p0 v3_3 v4_3
noncomputable def spec_l9Plain.bt (k : Nat) (e3 : (List Int) → Int → Option ((List Int) × Unit)) (p0 : Int) : Option ((List Int) × Unit) :=
  e3 [] 0
noncomputable def spec_l9Plain.f (k : Nat) (p0 : Int) : Option ((List Int) × Unit) := spec_l9Plain.bt k (spec_l9Plain.l3 k p0 k) p0
/-! loop.example/wholecheck/spec.l9Order -/
noncomputable def spec_l9Order.b3 (k : Nat) (e3 : ((List Int) × Int) → (List Int) → Int → Option ((List Int) × ((List Int) × Int))) (p1 : Int) (v0_3 : ((List Int) × Int)) (v5_3 : (List Int)) (v6_3 : Int) : Option ((List Int) × ((List Int) × Int)) :=
  if (decide (v6_3 < p1)) = true then
    (spec_l40Rd_pick.f k v0_3 p1).bind fun r2 =>
    gd ((0 : Int) ≤ v6_3) <| gd (v6_3 < (v5_3.length : Int)) <| gd ((0 : Int) ≤ r2.1) <| gd (r2.1 < (v5_3.length : Int)) <| gd ((0 : Int) ≤ v6_3) <| gd (v6_3 < (v5_3.length : Int)) <| gd ((0 : Int) ≤ r2.1) <| gd (r2.1 < ((v5_3.set (v6_3.toNat) (v5_3.getD (r2.1.toNat) 0)).length : Int)) <| e3 r2.2 ((v5_3.set (v6_3.toNat) (v5_3.getD (r2.1.toNat) 0)).set (r2.1.toNat) (v5_3.getD (v6_3.toNat) 0)) (w64 (v6_3 + 1))
  else
    (spec_l40Rd_pick.f k v0_3 14).bind fun r3 =>
    if (r3.1 == 0) = true then
      (spec_l40Rd_pick.f k r3.2 2).bind fun r4 =>
      if (r4.1 == 0) = true then
        gd ((v5_3.length : Int) + ([0].length : Int) ≤ 1099511627776) <| some (v5_3 ++ [0], r4.2)
      else
        if (p1 == 0) = true then
          gd ((v5_3.length : Int) + ([0].length : Int) ≤ 1099511627776) <| some (v5_3 ++ [0], r4.2)
        else
          gd ((0 : Int) ≤ (w64 (p1 - 1))) <| gd ((w64 (p1 - 1)) < (v5_3.length : Int)) <| (spec_l40Rd_num.f k r4.2 [p1, (-1), (v5_3.getD ((w64 (p1 - 1)).toNat) 0)]).bind fun r5 =>
          gd ((0 : Int) ≤ 0) <| gd (0 < (v5_3.length : Int)) <| some (v5_3.set (Int.toNat 0) r5.1, r5.2)
    else
      some (v5_3, r3.2)
noncomputable def spec_l9Order.l3 (k : Nat) (p1 : Int) : Nat → ((List Int) × Int) → (List Int) → Int → Option ((List Int) × ((List Int) × Int))
  | 0, _, _, _ => none
  | n + 1, v0_3, v5_3, v6_3 => spec_l9Order.b3 k (spec_l9Order.l3 k p1 n) p1 v0_3 v5_3 v6_3
noncomputable def spec_l9Order.bt (k : Nat) (e3 : ((List Int) × Int) → (List Int) → Int → Option ((List Int) × ((List Int) × Int))) (p0 : ((List Int) × Int)) (p1 : Int) : Option ((List Int) × ((List Int) × Int)) :=
  (spec_l9Plain.f k p1).bind fun r1 =>
  e3 p0 r1.1 0
noncomputable def spec_l9Order.f (k : Nat) (p0 : ((List Int) × Int)) (p1 : Int) : Option ((List Int) × ((List Int) × Int)) := spec_l9Order.bt k (spec_l9Order.l3 k p1 k) p0 p1
/-! loop.example/wholecheck/spec.DrawExchanged -/
noncomputable def spec_DrawExchanged.bt (k : Nat) (p0 : (List Int)) : Option (((List Int) × (List Int)) × Unit) :=
  (spec_l40Open.f k p0).bind fun r1 =>
  (spec_l40Rd_num.f k r1.1 [2, 3, 1, 0, 4]).bind fun r2 =>
  (spec_l1Numbers.f k r2.2 r2.1).bind fun r3 =>
  (spec_l9Order.f k r3.2 r2.1).bind fun r4 =>
  some ((r3.1, r4.1), ())
noncomputable def spec_DrawExchanged.f (k : Nat) (p0 : (List Int)) : Option (((List Int) × (List Int)) × Unit) := spec_DrawExchanged.bt k p0
/-! loop.example/wholecheck/spec.DrawOrderWith -/
noncomputable def spec_DrawOrderWith.bt (k : Nat) (p0 : (List Int)) : Option (((List Int) × (List Int)) × Unit) :=
  (spec_l40Open.f k p0).bind fun r1 =>
  (spec_l40Rd_num.f k r1.1 [2, 3, 1, 0, 4]).bind fun r2 =>
  (spec_l9Order.f k r2.2 r2.1).bind fun r3 =>
  (spec_l9Order.f k r3.2 r2.1).bind fun r4 =>
  some ((r3.1, r4.1), ())
noncomputable def spec_DrawOrderWith.f (k : Nat) (p0 : (List Int)) : Option (((List Int) × (List Int)) × Unit) := spec_DrawOrderWith.bt k p0
/-! loop.example/wholecheck/laws.wcInts -/
noncomputable def laws_wcInts.b4 (k : Nat) (e4 : Int → Option (Bool × Unit)) (p0 : (List Int)) (p1 : (List Int)) (v14_4 : Int) : Option (Bool × Unit) :=
  if (decide (v14_4 < ((p0.length : Int)))) = true then
    gd ((0 : Int) ≤ v14_4) <| gd (v14_4 < (p0.length : Int)) <| gd ((0 : Int) ≤ v14_4) <| gd (v14_4 < (p1.length : Int)) <| if ((p1.getD (v14_4.toNat) 0) != (p0.getD (v14_4.toNat) 0)) = true then
      some (false, ())
    else
      e4 (w64 (v14_4 + 1))
  else
    some (true, ())
noncomputable def laws_wcInts.l4 (k : Nat) (p0 : (List Int)) (p1 : (List Int)) : Nat → Int → Option (Bool × Unit)
  | 0, _ => none
  | n + 1, v14_4 => laws_wcInts.b4 k (laws_wcInts.l4 k p0 p1 n) p0 p1 v14_4
noncomputable def laws_wcInts.bt (k : Nat) (e4 : Int → Option (Bool × Unit)) (p0 : (List Int)) (p1 : (List Int)) : Option (Bool × Unit) :=
  if (((p0.length : Int)) != ((p1.length : Int))) = true then
    some (false, ())
  else
    e4 0
noncomputable def laws_wcInts.f (k : Nat) (p0 : (List Int)) (p1 : (List Int)) : Option (Bool × Unit) := laws_wcInts.bt k (laws_wcInts.l4 k p0 p1 k) p0 p1
/-! loop.example/wholecheck/impl.OrderBack -/
noncomputable def impl_OrderBack.b5 (k : Nat) (e5 : (List Int) → Int → Option ((List Int) × Unit)) (p0 : (List Int)) (v3_5 : (List Int)) (v16_5 : Int) : Option ((List Int) × Unit) :=
  if (decide (v16_5 < ((p0.length : Int)))) = true then
    gd ((0 : Int) ≤ v16_5) <| gd (v16_5 < (p0.length : Int)) <| gd ((0 : Int) ≤ (p0.getD (v16_5.toNat) 0)) <| gd ((p0.getD (v16_5.toNat) 0) < (v3_5.length : Int)) <| e5 (v3_5.set ((p0.getD (v16_5.toNat) 0).toNat) v16_5) (w64 (v16_5 + 1))
  else
    (impl_clone_int.f k v3_5).bind fun r2 =>
    some (r2.1, ())
noncomputable def impl_OrderBack.l5 (k : Nat) (p0 : (List Int)) : Nat → (List Int) → Int → Option ((List Int) × Unit)
  | 0, _, _ => none
  | n + 1, v3_5, v16_5 => impl_OrderBack.b5 k (impl_OrderBack.l5 k p0 n) p0 v3_5 v16_5
noncomputable def impl_OrderBack.bt (k : Nat) (e5 : (List Int) → Int → Option ((List Int) × Unit)) (p0 : (List Int)) : Option ((List Int) × Unit) :=
  (impl_OrderValid.f k p0 ((p0.length : Int))).bind fun r1 =>
  if (!r1.1) = true then
    some ([], ())
  else
    gd ((0 : Int) ≤ ((p0.length : Int))) <| gd (((p0.length : Int)) ≤ 1099511627776) <| e5 ((List.replicate ((p0.length : Int)).toNat 0 : (List Int))) 0
noncomputable def impl_OrderBack.f (k : Nat) (p0 : (List Int)) : Option ((List Int) × Unit) := impl_OrderBack.bt k (impl_OrderBack.l5 k p0 k) p0
/-! loop.example/wholecheck/laws.FnExchanged -/
noncomputable def laws_FnExchanged.bj13 (k : Nat) (v3_j13 : (List Int)) (v4_j13 : (List Int)) (v7_j13 : (List Int)) : Option (Bool × Unit) :=
  if (((v7_j13.length : Int)) == 0) = true then
    some (true, ())
  else
    (impl_OrderBack.f k v4_j13).bind fun r13 =>
    (impl_Exchanged.f k v7_j13 r13.1).bind fun r14 =>
    (laws_wcInts.f k r14.1 v3_j13).bind fun r15 =>
    some (r15.1, ())
noncomputable def laws_FnExchanged.lj13 (k : Nat) : Nat → (List Int) → (List Int) → (List Int) → Option (Bool × Unit)
  | 0, _, _, _ => none
  | n + 1, v3_j13, v4_j13, v7_j13 => laws_FnExchanged.bj13 k v3_j13 v4_j13 v7_j13
noncomputable def laws_FnExchanged.bt (k : Nat) (ej13 : (List Int) → (List Int) → (List Int) → Option (Bool × Unit)) (p0 : (List Int)) : Option (Bool × Unit) :=
  if (decide (((p0.length : Int)) > 1048576)) = true then
    some (true, ())
  else
    (spec_DrawExchanged.f k p0).bind fun r1 =>
    (spec_DrawOrderWith.f k p0).bind fun r2 =>
    (impl_Exchanged.f k r1.1.1 r1.1.2).bind fun r3 =>
    (impl_OrderWith.f k r2.1.1 r2.1.2).bind fun r4 =>
    (spec_Exchanged.f k r1.1.1 r1.1.2).bind fun r5 =>
    (laws_wcInts.f k r3.1 r5.1).bind fun r6 =>
    if (!r6.1) = true then
      some (false, ())
    else
      (spec_OrderWith.f k r2.1.1 r2.1.2).bind fun r7 =>
      (laws_wcInts.f k r4.1 r7.1).bind fun r8 =>
      if (!r8.1) = true then
        some (false, ())
      else
        if (decide (((r4.1.length : Int)) > 0)) = true then
          gd ((0 : Int) ≤ 0) <| gd ((0 : Int) ≤ ((r2.1.1.length : Int))) <| gd (((r2.1.1.length : Int)) ≤ ([7, 5, 3, 2].length : Int)) <| (impl_Exchanged.f k (([7, 5, 3, 2].take (((r2.1.1.length : Int)).toNat)).drop (Int.toNat 0)) r4.1).bind fun r9 =>
          (impl_Exchanged.f k (([7, 5, 3, 2].take (((r2.1.1.length : Int)).toNat)).drop (Int.toNat 0)) r2.1.1).bind fun r10 =>
          (impl_Exchanged.f k r10.1 r2.1.2).bind fun r11 =>
          (laws_wcInts.f k r9.1 r11.1).bind fun r12 =>
          if (!r12.1) = true then
            some (false, ())
          else
            ej13 r1.1.1 r1.1.2 r3.1
        else
          ej13 r1.1.1 r1.1.2 r3.1
noncomputable def laws_FnExchanged.f (k : Nat) (p0 : (List Int)) : Option (Bool × Unit) := laws_FnExchanged.bt k (laws_FnExchanged.lj13 k k) p0
end Go.Ev
