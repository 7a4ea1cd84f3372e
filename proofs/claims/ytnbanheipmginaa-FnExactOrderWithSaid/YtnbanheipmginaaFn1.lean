/- What the functions of the program compute, as plain functions. -/
import Derived.Test.YtnbanheipmginaaEv1
set_option linter.unusedVariables false
noncomputable section
namespace Go.Ev
/-! loop.example/wholecheck/laws.toIntS -/
noncomputable def laws_toIntS.b3 (k : Nat) (e3 : (List Int) → Int → Option ((List Int) × Unit)) (p0 : (List Int)) (v3_3 : (List Int)) (v4_3 : Int) : Option ((List Int) × Unit) :=
  if (decide (v4_3 < ((p0.length : Int)))) = true then
    gd (0 ≤ v4_3) <| gd (v4_3 < (p0.length : Int)) <| gd (0 ≤ v4_3) <| gd (v4_3 < (v3_3.length : Int)) <| e3 (v3_3.set (v4_3.toNat) (p0.getD (v4_3.toNat) 0)) (w64 (v4_3 + 1))
  else
    some (v3_3, ())
noncomputable def laws_toIntS.l3 (k : Nat) (p0 : (List Int)) : Nat → (List Int) → Int → Option ((List Int) × Unit)
  | 0, _, _ => none
  | n + 1, v3_3, v4_3 => laws_toIntS.b3 k (laws_toIntS.l3 k p0 n) p0 v3_3 v4_3
noncomputable def laws_toIntS.bt (k : Nat) (e3 : (List Int) → Int → Option ((List Int) × Unit)) (p0 : (List Int)) : Option ((List Int) × Unit) :=
  gd (0 ≤ ((p0.length : Int))) <| gd (((p0.length : Int)) ≤ 1099511627776) <| e3 ((List.replicate ((p0.length : Int)).toNat 0 : (List Int))) 0
noncomputable def laws_toIntS.f (k : Nat) (p0 : (List Int)) : Option ((List Int) × Unit) := laws_toIntS.bt k (laws_toIntS.l3 k p0 k) p0
/-! loop.example/wholecheck/spec.l1In -/
noncomputable def spec_l1In.bt (k : Nat) (p0 : Int) (p1 : Int) (p2 : Int) : Option (Bool × Unit) :=
  if (decide (p0 ≥ p1)) = true then
    some (decide (p0 ≤ p2), ())
  else
    some (false, ())
noncomputable def spec_l1In.f (k : Nat) (p0 : Int) (p1 : Int) (p2 : Int) : Option (Bool × Unit) := spec_l1In.bt k p0 p1 p2
/-! loop.example/wholecheck/spec.l2Has -/
noncomputable def spec_l2Has.b2 (k : Nat) (e2 : Int → Option (Bool × Unit)) (p0 : (List Int)) (p1 : Int) (v5_2 : Int) : Option (Bool × Unit) :=
  if (decide (v5_2 < ((p0.length : Int)))) = true then
    gd (0 ≤ v5_2) <| gd (v5_2 < (p0.length : Int)) <| if ((p0.getD (v5_2.toNat) 0) == p1) = true then
      some (true, ())
    else
      e2 (w64 (v5_2 + 1))
  else
    some (false, ())
noncomputable def spec_l2Has.l2 (k : Nat) (p0 : (List Int)) (p1 : Int) : Nat → Int → Option (Bool × Unit)
  | 0, _ => none
  | n + 1, v5_2 => spec_l2Has.b2 k (spec_l2Has.l2 k p0 p1 n) p0 p1 v5_2
noncomputable def spec_l2Has.bt (k : Nat) (e2 : Int → Option (Bool × Unit)) (p0 : (List Int)) (p1 : Int) : Option (Bool × Unit) :=
  e2 0
noncomputable def spec_l2Has.f (k : Nat) (p0 : (List Int)) (p1 : Int) : Option (Bool × Unit) := spec_l2Has.bt k (spec_l2Has.l2 k p0 p1 k) p0 p1
/-! loop.example/wholecheck/spec.OrderValid -/
noncomputable def spec_OrderValid.b4 (k : Nat) (e4 : Int → Option (Bool × Unit)) (p0 : (List Int)) (p1 : Int) (v5_4 : Int) : Option (Bool × Unit) :=
  if (decide (v5_4 < p1)) = true then
    (spec_l2Has.f k p0 v5_4).bind fun r2 =>
    if (!r2.1) = true then
      some (false, ())
    else
      e4 (w64 (v5_4 + 1))
  else
    some (true, ())
noncomputable def spec_OrderValid.l4 (k : Nat) (p0 : (List Int)) (p1 : Int) : Nat → Int → Option (Bool × Unit)
  | 0, _ => none
  | n + 1, v5_4 => spec_OrderValid.b4 k (spec_OrderValid.l4 k p0 p1 n) p0 p1 v5_4
noncomputable def spec_OrderValid.bt (k : Nat) (e4 : Int → Option (Bool × Unit)) (p0 : (List Int)) (p1 : Int) : Option (Bool × Unit) :=
  (spec_l1In.f k p1 0 12).bind fun r1 =>
  if (!r1.1) = true then
    some (false, ())
  else
    if (((p0.length : Int)) != p1) = true then
      some (false, ())
    else
      e4 0
noncomputable def spec_OrderValid.f (k : Nat) (p0 : (List Int)) (p1 : Int) : Option (Bool × Unit) := spec_OrderValid.bt k (spec_OrderValid.l4 k p0 p1 k) p0 p1
/-! loop.example/wholecheck/spec.Exchanged -/
noncomputable def spec_Exchanged.b3 (k : Nat) (e3 : (List Int) → Int → Option ((List Int) × Unit)) (p0 : (List Int)) (p1 : (List Int)) (v5_3 : (List Int)) (v6_3 : Int) : Option ((List Int) × Unit) :=
  if (decide (v6_3 < ((p1.length : Int)))) = true then
    (spec_OrderValid.f k p1 ((p0.length : Int))).bind fun r1 =>
    if r1.1 = true then
      gd (0 ≤ v6_3) <| gd (v6_3 < (p1.length : Int)) <| gd (0 ≤ (p1.getD (v6_3.toNat) 0)) <| gd ((p1.getD (v6_3.toNat) 0) < (p0.length : Int)) <| gd ((v5_3.length : Int) + ([(p0.getD ((p1.getD (v6_3.toNat) 0).toNat) 0)].length : Int) ≤ 1099511627776) <| e3 (v5_3 ++ [(p0.getD ((p1.getD (v6_3.toNat) 0).toNat) 0)]) (w64 (v6_3 + 1))
    else
      some (v5_3, ())
  else
    some (v5_3, ())
noncomputable def spec_Exchanged.l3 (k : Nat) (p0 : (List Int)) (p1 : (List Int)) : Nat → (List Int) → Int → Option ((List Int) × Unit)
  | 0, _, _ => none
  | n + 1, v5_3, v6_3 => spec_Exchanged.b3 k (spec_Exchanged.l3 k p0 p1 n) p0 p1 v5_3 v6_3
noncomputable def spec_Exchanged.bt (k : Nat) (e3 : (List Int) → Int → Option ((List Int) × Unit)) (p0 : (List Int)) (p1 : (List Int)) : Option ((List Int) × Unit) :=
  e3 [] 0
noncomputable def spec_Exchanged.f (k : Nat) (p0 : (List Int)) (p1 : (List Int)) : Option ((List Int) × Unit) := spec_Exchanged.bt k (spec_Exchanged.l3 k p0 p1 k) p0 p1
/-! loop.example/wholecheck/impl.in -/
noncomputable def impl_in.bt (k : Nat) (p0 : Int) (p1 : Int) (p2 : Int) : Option (Bool × Unit) :=
  if (decide (p0 ≥ p1)) = true then
    some (decide (p0 ≤ p2), ())
  else
    some (false, ())
noncomputable def impl_in.f (k : Nat) (p0 : Int) (p1 : Int) (p2 : Int) : Option (Bool × Unit) := impl_in.bt k p0 p1 p2
/-! slices.Index[[]int,int] -/
noncomputable def slices_Index_int_int.b2 (k : Nat) (e2 : Int → Option (Int × Unit)) (p0 : (List Int)) (p1 : Int) (v8_2 : Int) : Option (Int × Unit) :=
  if (decide (v8_2 < ((p0.length : Int)))) = true then
    gd (0 ≤ v8_2) <| gd (v8_2 < (p0.length : Int)) <| if (p1 == (p0.getD (v8_2.toNat) 0)) = true then
      some (v8_2, ())
    else
      e2 (w64 (v8_2 + 1))
  else
    some ((-1), ())
noncomputable def slices_Index_int_int.l2 (k : Nat) (p0 : (List Int)) (p1 : Int) : Nat → Int → Option (Int × Unit)
  | 0, _ => none
  | n + 1, v8_2 => slices_Index_int_int.b2 k (slices_Index_int_int.l2 k p0 p1 n) p0 p1 v8_2
noncomputable def slices_Index_int_int.bt (k : Nat) (e2 : Int → Option (Int × Unit)) (p0 : (List Int)) (p1 : Int) : Option (Int × Unit) :=
  e2 0
noncomputable def slices_Index_int_int.f (k : Nat) (p0 : (List Int)) (p1 : Int) : Option (Int × Unit) := slices_Index_int_int.bt k (slices_Index_int_int.l2 k p0 p1 k) p0 p1
/-! slices.Contains[[]int,int] -/
noncomputable def slices_Contains_int_int.bt (k : Nat) (p0 : (List Int)) (p1 : Int) : Option (Bool × Unit) :=
  (slices_Index_int_int.f k p0 p1).bind fun r1 =>
  some (decide (r1.1 ≥ 0), ())
noncomputable def slices_Contains_int_int.f (k : Nat) (p0 : (List Int)) (p1 : Int) : Option (Bool × Unit) := slices_Contains_int_int.bt k p0 p1
/-! loop.example/wholecheck/impl.OrderValid -/
noncomputable def impl_OrderValid.b4 (k : Nat) (e4 : Int → Option (Bool × Unit)) (p0 : (List Int)) (p1 : Int) (v18_4 : Int) : Option (Bool × Unit) :=
  if (decide (v18_4 < ((p0.length : Int)))) = true then
    gd (0 ≤ v18_4) <| gd (v18_4 < (p0.length : Int)) <| (impl_in.f k (p0.getD (v18_4.toNat) 0) 0 (w64 (p1 - 1))).bind fun r2 =>
    if (!r2.1) = true then
      some (false, ())
    else
      gd (0 ≤ 0) <| gd (0 ≤ v18_4) <| gd (v18_4 ≤ (p0.length : Int)) <| (slices_Contains_int_int.f k ((p0.take (v18_4.toNat)).drop (Int.toNat 0)) (p0.getD (v18_4.toNat) 0)).bind fun r3 =>
      if r3.1 = true then
        some (false, ())
      else
        e4 (w64 (v18_4 + 1))
  else
    some (true, ())
noncomputable def impl_OrderValid.l4 (k : Nat) (p0 : (List Int)) (p1 : Int) : Nat → Int → Option (Bool × Unit)
  | 0, _ => none
  | n + 1, v18_4 => impl_OrderValid.b4 k (impl_OrderValid.l4 k p0 p1 n) p0 p1 v18_4
noncomputable def impl_OrderValid.bt (k : Nat) (e4 : Int → Option (Bool × Unit)) (p0 : (List Int)) (p1 : Int) : Option (Bool × Unit) :=
  (impl_in.f k p1 0 12).bind fun r1 =>
  if (!r1.1) = true then
    some (false, ())
  else
    if (((p0.length : Int)) != p1) = true then
      some (false, ())
    else
      e4 0
noncomputable def impl_OrderValid.f (k : Nat) (p0 : (List Int)) (p1 : Int) : Option (Bool × Unit) := impl_OrderValid.bt k (impl_OrderValid.l4 k p0 p1 k) p0 p1
/-! loop.example/wholecheck/impl.exchanged -/
noncomputable def impl_exchanged.b3 (k : Nat) (e3 : (List Int) → Int → Option ((List Int) × Unit)) (p0 : (List Int)) (p1 : (List Int)) (v5_3 : (List Int)) (v13_3 : Int) : Option ((List Int) × Unit) :=
  if (decide (v13_3 < ((p1.length : Int)))) = true then
    gd (0 ≤ v13_3) <| gd (v13_3 < (p1.length : Int)) <| gd (0 ≤ (p1.getD (v13_3.toNat) 0)) <| gd ((p1.getD (v13_3.toNat) 0) < (p0.length : Int)) <| gd (0 ≤ v13_3) <| gd (v13_3 < (v5_3.length : Int)) <| e3 (v5_3.set (v13_3.toNat) (p0.getD ((p1.getD (v13_3.toNat) 0).toNat) 0)) (w64 (v13_3 + 1))
  else
    some (v5_3, ())
noncomputable def impl_exchanged.l3 (k : Nat) (p0 : (List Int)) (p1 : (List Int)) : Nat → (List Int) → Int → Option ((List Int) × Unit)
  | 0, _, _ => none
  | n + 1, v5_3, v13_3 => impl_exchanged.b3 k (impl_exchanged.l3 k p0 p1 n) p0 p1 v5_3 v13_3
noncomputable def impl_exchanged.bt (k : Nat) (e3 : (List Int) → Int → Option ((List Int) × Unit)) (p0 : (List Int)) (p1 : (List Int)) : Option ((List Int) × Unit) :=
  gd (0 ≤ ((p0.length : Int))) <| gd (((p0.length : Int)) ≤ 1099511627776) <| e3 ((List.replicate ((p0.length : Int)).toNat 0 : (List Int))) 0
noncomputable def impl_exchanged.f (k : Nat) (p0 : (List Int)) (p1 : (List Int)) : Option ((List Int) × Unit) := impl_exchanged.bt k (impl_exchanged.l3 k p0 p1 k) p0 p1
/-! loop.example/wholecheck/impl.clone[int] -/
noncomputable def impl_clone_int.bt (k : Nat) (p0 : (List Int)) : Option ((List Int) × Unit) :=
  if (((p0.length : Int)) == 0) = true then
    some ([], ())
  else
    gd (0 ≤ ((p0.length : Int))) <| gd (((p0.length : Int)) ≤ 1099511627776) <| some (p0.take ((List.replicate ((p0.length : Int)).toNat 0 : (List Int))).length ++ ((List.replicate ((p0.length : Int)).toNat 0 : (List Int))).drop p0.length, ())
noncomputable def impl_clone_int.f (k : Nat) (p0 : (List Int)) : Option ((List Int) × Unit) := impl_clone_int.bt k p0
/-! loop.example/wholecheck/impl.Exchanged -/
noncomputable def impl_Exchanged.bt (k : Nat) (p0 : (List Int)) (p1 : (List Int)) : Option ((List Int) × Unit) :=
  (impl_OrderValid.f k p1 ((p0.length : Int))).bind fun r1 =>
  if (!r1.1) = true then
    some ([], ())
  else
    (impl_exchanged.f k p0 p1).bind fun r2 =>
    (impl_clone_int.f k r2.1).bind fun r3 =>
    some (r3.1, ())
noncomputable def impl_Exchanged.f (k : Nat) (p0 : (List Int)) (p1 : (List Int)) : Option ((List Int) × Unit) := impl_Exchanged.bt k p0 p1
/-! loop.example/wholecheck/laws.eqIntS -/
noncomputable def laws_eqIntS.b4 (k : Nat) (e4 : Int → Option (Bool × Unit)) (p0 : (List Int)) (p1 : (List Int)) (v5_4 : Int) : Option (Bool × Unit) :=
  if (decide (v5_4 < ((p0.length : Int)))) = true then
    gd (0 ≤ v5_4) <| gd (v5_4 < (p0.length : Int)) <| gd (0 ≤ v5_4) <| gd (v5_4 < (p1.length : Int)) <| if ((p0.getD (v5_4.toNat) 0) != (p1.getD (v5_4.toNat) 0)) = true then
      some (false, ())
    else
      e4 (w64 (v5_4 + 1))
  else
    some (true, ())
noncomputable def laws_eqIntS.l4 (k : Nat) (p0 : (List Int)) (p1 : (List Int)) : Nat → Int → Option (Bool × Unit)
  | 0, _ => none
  | n + 1, v5_4 => laws_eqIntS.b4 k (laws_eqIntS.l4 k p0 p1 n) p0 p1 v5_4
noncomputable def laws_eqIntS.bt (k : Nat) (e4 : Int → Option (Bool × Unit)) (p0 : (List Int)) (p1 : (List Int)) : Option (Bool × Unit) :=
  if (((p0.length : Int)) != ((p1.length : Int))) = true then
    some (false, ())
  else
    e4 0
noncomputable def laws_eqIntS.f (k : Nat) (p0 : (List Int)) (p1 : (List Int)) : Option (Bool × Unit) := laws_eqIntS.bt k (laws_eqIntS.l4 k p0 p1 k) p0 p1
/-! loop.example/wholecheck/laws.markIntS -/
noncomputable def laws_markIntS.b2 (k : Nat) (e2 : (List Int) → Int → Int → Option (Int × (List Int))) (v0_2 : (List Int)) (v1_2 : Int) (v5_2 : Int) : Option (Int × (List Int)) :=
  if (decide (v5_2 < ((v0_2.length : Int)))) = true then
    gd (0 ≤ v5_2) <| gd (v5_2 < (v0_2.length : Int)) <| e2 (v0_2.set (v5_2.toNat) v1_2) (w64 (v1_2 + 1)) (w64 (v5_2 + 1))
  else
    some (v1_2, v0_2)
noncomputable def laws_markIntS.l2 (k : Nat) : Nat → (List Int) → Int → Int → Option (Int × (List Int))
  | 0, _, _, _ => none
  | n + 1, v0_2, v1_2, v5_2 => laws_markIntS.b2 k (laws_markIntS.l2 k n) v0_2 v1_2 v5_2
noncomputable def laws_markIntS.bt (k : Nat) (e2 : (List Int) → Int → Int → Option (Int × (List Int))) (p0 : (List Int)) (p1 : Int) : Option (Int × (List Int)) :=
  e2 p0 p1 0
noncomputable def laws_markIntS.f (k : Nat) (p0 : (List Int)) (p1 : Int) : Option (Int × (List Int)) := laws_markIntS.bt k (laws_markIntS.l2 k k) p0 p1
/-! loop.example/wholecheck/laws.heldIntS -/
noncomputable def laws_heldIntS.b2 (k : Nat) (e2 : Int → Int → Option (Int × Unit)) (p0 : (List Int)) (v1_2 : Int) (v5_2 : Int) : Option (Int × Unit) :=
  if (decide (v5_2 < ((p0.length : Int)))) = true then
    gd (0 ≤ v5_2) <| gd (v5_2 < (p0.length : Int)) <| if ((p0.getD (v5_2.toNat) 0) != v1_2) = true then
      some ((-1), ())
    else
      e2 (w64 (v1_2 + 1)) (w64 (v5_2 + 1))
  else
    some (v1_2, ())
noncomputable def laws_heldIntS.l2 (k : Nat) (p0 : (List Int)) : Nat → Int → Int → Option (Int × Unit)
  | 0, _, _ => none
  | n + 1, v1_2, v5_2 => laws_heldIntS.b2 k (laws_heldIntS.l2 k p0 n) p0 v1_2 v5_2
noncomputable def laws_heldIntS.bt (k : Nat) (e2 : Int → Int → Option (Int × Unit)) (p0 : (List Int)) (p1 : Int) : Option (Int × Unit) :=
  e2 p1 0
noncomputable def laws_heldIntS.f (k : Nat) (p0 : (List Int)) (p1 : Int) : Option (Int × Unit) := laws_heldIntS.bt k (laws_heldIntS.l2 k p0 k) p0 p1
/-! loop.example/wholecheck/laws.FnExactExchanged -/
noncomputable def laws_FnExactExchanged.bt (k : Nat) (p0 : (List Int)) (p1 : (List Int)) : Option (Bool × Unit) :=
  if (decide (((p0.length : Int)) > 1048576)) = true then
    some (true, ())
  else
    if (decide (((p1.length : Int)) > 1048576)) = true then
      some (true, ())
    else
      (laws_toIntS.f k p0).bind fun r1 =>
      (laws_toIntS.f k p1).bind fun r2 =>
      (spec_Exchanged.f k r1.1 r2.1).bind fun r3 =>
      (laws_toIntS.f k p0).bind fun r4 =>
      (laws_toIntS.f k p1).bind fun r5 =>
      (impl_Exchanged.f k r4.1 r5.1).bind fun r6 =>
      (laws_eqIntS.f k r6.1 r3.1).bind fun r7 =>
      if (!r7.1) = true then
        some (false, ())
      else
        (laws_toIntS.f k p0).bind fun r8 =>
        (laws_eqIntS.f k r4.1 r8.1).bind fun r9 =>
        if (!r9.1) = true then
          some (false, ())
        else
          (laws_toIntS.f k p1).bind fun r10 =>
          (laws_eqIntS.f k r5.1 r10.1).bind fun r11 =>
          if (!r11.1) = true then
            some (false, ())
          else
            (laws_markIntS.f k r4.1 1).bind fun r12 =>
            (laws_markIntS.f k r5.1 r12.1).bind fun r13 =>
            if (decide (r13.1 < 0)) = true then
              some (false, ())
            else
              (laws_eqIntS.f k r6.1 r3.1).bind fun r14 =>
              if (!r14.1) = true then
                some (false, ())
              else
                (laws_markIntS.f k r6.1 1).bind fun r15 =>
                (laws_heldIntS.f k r15.2 1).bind fun r16 =>
                if (decide (r16.1 < 0)) = true then
                  some (false, ())
                else
                  if (r16.1 != r15.1) = true then
                    some (false, ())
                  else
                    (laws_toIntS.f k p0).bind fun r17 =>
                    (laws_toIntS.f k p1).bind fun r18 =>
                    (impl_Exchanged.f k r17.1 r18.1).bind fun r19 =>
                    (laws_eqIntS.f k r19.1 r3.1).bind fun r20 =>
                    if (!r20.1) = true then
                      some (false, ())
                    else
                      (laws_heldIntS.f k r15.2 1).bind fun r21 =>
                      if (decide (r21.1 < 0)) = true then
                        some (false, ())
                      else
                        if (r21.1 != r15.1) = true then
                          some (false, ())
                        else
                          some (true, ())
noncomputable def laws_FnExactExchanged.f (k : Nat) (p0 : (List Int)) (p1 : (List Int)) : Option (Bool × Unit) := laws_FnExactExchanged.bt k p0 p1
/-! loop.example/wholecheck/spec.OrderWith -/
noncomputable def spec_OrderWith.b5 (k : Nat) (e5 : (List Int) → Int → Option ((List Int) × Unit)) (p0 : (List Int)) (p1 : (List Int)) (v5_5 : (List Int)) (v6_5 : Int) : Option ((List Int) × Unit) :=
  if (decide (v6_5 < ((p1.length : Int)))) = true then
    gd (0 ≤ v6_5) <| gd (v6_5 < (p1.length : Int)) <| gd (0 ≤ (p1.getD (v6_5.toNat) 0)) <| gd ((p1.getD (v6_5.toNat) 0) < (p0.length : Int)) <| gd ((v5_5.length : Int) + ([(p0.getD ((p1.getD (v6_5.toNat) 0).toNat) 0)].length : Int) ≤ 1099511627776) <| e5 (v5_5 ++ [(p0.getD ((p1.getD (v6_5.toNat) 0).toNat) 0)]) (w64 (v6_5 + 1))
  else
    some (v5_5, ())
noncomputable def spec_OrderWith.l5 (k : Nat) (p0 : (List Int)) (p1 : (List Int)) : Nat → (List Int) → Int → Option ((List Int) × Unit)
  | 0, _, _ => none
  | n + 1, v5_5, v6_5 => spec_OrderWith.b5 k (spec_OrderWith.l5 k p0 p1 n) p0 p1 v5_5 v6_5
noncomputable def spec_OrderWith.bt (k : Nat) (e5 : (List Int) → Int → Option ((List Int) × Unit)) (p0 : (List Int)) (p1 : (List Int)) : Option ((List Int) × Unit) :=
  (spec_OrderValid.f k p0 ((p0.length : Int))).bind fun r1 =>
  if (!r1.1) = true then
    some ([], ())
  else
    (spec_OrderValid.f k p1 ((p0.length : Int))).bind fun r2 =>
    if (!r2.1) = true then
      some ([], ())
    else
      e5 [] 0
noncomputable def spec_OrderWith.f (k : Nat) (p0 : (List Int)) (p1 : (List Int)) : Option ((List Int) × Unit) := spec_OrderWith.bt k (spec_OrderWith.l5 k p0 p1 k) p0 p1
/-! loop.example/wholecheck/impl.OrderWith -/
noncomputable def impl_OrderWith.bt (k : Nat) (p0 : (List Int)) (p1 : (List Int)) : Option ((List Int) × Unit) :=
  (impl_OrderValid.f k p0 ((p0.length : Int))).bind fun r1 =>
  if (!r1.1) = true then
    some ([], ())
  else
    (impl_OrderValid.f k p1 ((p0.length : Int))).bind fun r2 =>
    if (!r2.1) = true then
      some ([], ())
    else
      (impl_exchanged.f k p0 p1).bind fun r3 =>
      (impl_clone_int.f k r3.1).bind fun r4 =>
      some (r4.1, ())
noncomputable def impl_OrderWith.f (k : Nat) (p0 : (List Int)) (p1 : (List Int)) : Option ((List Int) × Unit) := impl_OrderWith.bt k p0 p1
/-! loop.example/wholecheck/laws.FnExactOrderWith -/
noncomputable def laws_FnExactOrderWith.bt (k : Nat) (p0 : (List Int)) (p1 : (List Int)) : Option (Bool × Unit) :=
  if (decide (((p0.length : Int)) > 1048576)) = true then
    some (true, ())
  else
    if (decide (((p1.length : Int)) > 1048576)) = true then
      some (true, ())
    else
      (laws_toIntS.f k p0).bind fun r1 =>
      (laws_toIntS.f k p1).bind fun r2 =>
      (spec_OrderWith.f k r1.1 r2.1).bind fun r3 =>
      (laws_toIntS.f k p0).bind fun r4 =>
      (laws_toIntS.f k p1).bind fun r5 =>
      (impl_OrderWith.f k r4.1 r5.1).bind fun r6 =>
      (laws_eqIntS.f k r6.1 r3.1).bind fun r7 =>
      if (!r7.1) = true then
        some (false, ())
      else
        (laws_toIntS.f k p0).bind fun r8 =>
        (laws_eqIntS.f k r4.1 r8.1).bind fun r9 =>
        if (!r9.1) = true then
          some (false, ())
        else
          (laws_toIntS.f k p1).bind fun r10 =>
          (laws_eqIntS.f k r5.1 r10.1).bind fun r11 =>
          if (!r11.1) = true then
            some (false, ())
          else
            (laws_markIntS.f k r4.1 1).bind fun r12 =>
            (laws_markIntS.f k r5.1 r12.1).bind fun r13 =>
            if (decide (r13.1 < 0)) = true then
              some (false, ())
            else
              (laws_eqIntS.f k r6.1 r3.1).bind fun r14 =>
              if (!r14.1) = true then
                some (false, ())
              else
                (laws_markIntS.f k r6.1 1).bind fun r15 =>
                (laws_heldIntS.f k r15.2 1).bind fun r16 =>
                if (decide (r16.1 < 0)) = true then
                  some (false, ())
                else
                  if (r16.1 != r15.1) = true then
                    some (false, ())
                  else
                    (laws_toIntS.f k p0).bind fun r17 =>
                    (laws_toIntS.f k p1).bind fun r18 =>
                    (impl_OrderWith.f k r17.1 r18.1).bind fun r19 =>
                    (laws_eqIntS.f k r19.1 r3.1).bind fun r20 =>
                    if (!r20.1) = true then
                      some (false, ())
                    else
                      (laws_heldIntS.f k r15.2 1).bind fun r21 =>
                      if (decide (r21.1 < 0)) = true then
                        some (false, ())
                      else
                        if (r21.1 != r15.1) = true then
                          some (false, ())
                        else
                          some (true, ())
noncomputable def laws_FnExactOrderWith.f (k : Nat) (p0 : (List Int)) (p1 : (List Int)) : Option (Bool × Unit) := laws_FnExactOrderWith.bt k p0 p1
end Go.Ev
