/- The functions of the program compute what the plain functions say. -/
import Derived.Test.YtnbanheipmginaaFn1
import Derived.Test.YtnbanheipmginaaEv4
import Derived.Test.YtnbanheipmginaaProg
import Derived.KernelRfl
noncomputable section
namespace Go.Ev
open Go.Proofs
set_option maxRecDepth 100000
set_option linter.unusedVariables false
noncomputable def tys : List (Nat × S) := [(3, I), (4, .bool), (5, (.int .u8)), (22, (.slice false I)), (27, (.slice false (.int .u8))), (31, (.slice false (.agg (.pair I (.pair I I))))), (32, (.slice false (.agg (.pair (.slice false (.agg (.pair I (.pair I (.pair I I))))) (.pair (.slice false I) (.slice false (.slice false (.agg (.pair I (.pair I (.pair I I))))))))))), (34, (.agg (.pair (.slice false (.agg (.pair I (.pair I I)))) (.slice false (.agg (.pair (.slice false (.agg (.pair I (.pair I (.pair I I))))) (.pair (.slice false I) (.slice false (.slice false (.agg (.pair I (.pair I (.pair I I))))))))))))), (36, (.agg (.slice false I))), (40, (.slice false (.agg (.pair I (.pair I I))))), (41, (.slice false (.agg (.pair (.slice false (.agg (.pair I (.pair I (.pair I I))))) (.pair (.slice false I) (.slice false (.slice false (.agg (.pair I (.pair I (.pair I I))))))))))), (43, (.agg (.pair (.slice false (.agg (.pair I (.pair I I)))) (.slice false (.agg (.pair (.slice false (.agg (.pair I (.pair I (.pair I I))))) (.pair (.slice false I) (.slice false (.slice false (.agg (.pair I (.pair I (.pair I I))))))))))))), (45, (.agg (.slice false I))), (55, (.slice false (.slice false (.agg (.pair I (.pair I (.pair I I))))))), (58, (.slice false (.slice false (.agg (.pair I (.pair I (.pair I I))))))), (64, (.ptr (.agg (.pair (.slice false (.int .u8)) I)))), (87, (.slice false (.agg (.pair I (.pair I (.pair I I)))))), (91, (.slice false (.agg (.pair I (.pair I (.pair I I)))))), (99, (.agg (.pair (.slice false (.int .u8)) I))), (104, (.agg (.pair (.slice false (.agg (.pair I (.pair I (.pair I I))))) (.pair (.slice false I) (.slice false (.slice false (.agg (.pair I (.pair I (.pair I I)))))))))), (106, (.agg (.pair I (.pair I I)))), (108, (.agg (.pair I (.pair I I)))), (110, (.agg (.pair (.slice false (.agg (.pair I (.pair I (.pair I I))))) (.pair (.slice false I) (.slice false (.slice false (.agg (.pair I (.pair I (.pair I I)))))))))), (113, (.func (.agg (.pair I (.pair I I))) .bool)), (117, (.func (.agg (.pair (.slice false (.agg (.pair I (.pair I (.pair I I))))) (.pair (.slice false I) (.slice false (.slice false (.agg (.pair I (.pair I (.pair I I))))))))) .bool)), (127, (.agg (.pair I (.pair I (.pair I I))))), (129, (.agg (.pair I (.pair I (.pair I I)))))]
theorem tys_ok : tysB Try.prog tys = true := by kernel_rfl
theorem mix : Try.prog.follows .mixedOrders = true := by kernel_rfl
/-! loop.example/wholecheck/laws.toIntS -/
noncomputable def laws_toIntS.ps : S := (.pair (.slice false I) .unit)
noncomputable def laws_toIntS.sem (k : Nat) : Sem := mkSem [.sh] 1 (.slice false I) (.ow .sh) .unit (.pair (.slice false I) .unit) fun x => laws_toIntS.f k x.1
noncomputable def laws_toIntS.C (k : Nat) : Ctx := mkC tys [] (hintOf []) (headOf [(3, [(0, none), (3, none), (4, none)])]) [] (ordOf []) (hidOf []) (jnOf [])
noncomputable def laws_toIntS.K0 (k : Nat) : Ex → List Slot → Option ((List Int) × Unit) := kRet (laws_toIntS.C k) Try.f10 1 (.slice false I) (.ow .sh) [.sh] .unit
noncomputable def laws_toIntS.L3 (k : Nat) (p0 : (List Int)) (n : Nat) (v3_3 : (List Int)) (v4_3 : Int) : Option ((List Int) × Unit) :=
  loopN ((laws_toIntS.C k).head 3) (evalCode (laws_toIntS.C k) k (codeAt [1, 1, 0, 1, 0, 0] (body Try.f10))) n (st 22 [(4, .val I .sh v4_3), (3, .val (.slice false I) (.ow .sh) v3_3), (0, .val (.slice false I) .sh p0)]) (kAt (laws_toIntS.C k) k [1, 1, 0, 1, 0] (body Try.f10) [] (laws_toIntS.K0 k))
theorem laws_toIntS.s3 (k : Nat) (p0 : (List Int)) (n : Nat) (v3_3 : (List Int)) (v4_3 : Int) : laws_toIntS.L3 k p0 (n + 1) v3_3 v4_3 = laws_toIntS.b3 k (laws_toIntS.L3 k p0 n) p0 v3_3 v4_3 := by kernel_rfl
theorem laws_toIntS.t3 (k : Nat) (p0 : (List Int)) : ∀ n, laws_toIntS.L3 k p0 n = laws_toIntS.l3 k p0 n := by
  intro n; induction n with
  | zero => rfl
  | succ n ih => funext v3_3 v4_3; rw [laws_toIntS.s3]; rw [ih]; rfl
theorem laws_toIntS.s (k : Nat) (x : El laws_toIntS.ps) : evalFn (laws_toIntS.C k) k Try.f10 1 (.slice false I) (.ow .sh) [.sh] .unit (unp laws_toIntS.ps [.sh] x) = laws_toIntS.bt k (laws_toIntS.L3 k x.1 k) x.1 := by kernel_rfl
theorem laws_toIntS.e (k : Nat) (x : El laws_toIntS.ps) : evalFn (laws_toIntS.C k) k Try.f10 1 (.slice false I) (.ow .sh) [.sh] .unit (unp laws_toIntS.ps [.sh] x) = laws_toIntS.f k x.1 := by
  rw [laws_toIntS.s]; rw [laws_toIntS.t3 k x.1 k]; rfl
theorem laws_toIntS.env (k : Nat) : EnvOk Try.prog [] := trivial
theorem laws_toIntS.ok (k : Nat) : Contract Try.prog 10 (laws_toIntS.sem k) := fn_ok (C := laws_toIntS.C k) (mkC_ok tys_ok (laws_toIntS.env k) mix) Try.func10 rfl rfl (laws_toIntS.e k)
theorem laws_toIntS.code : CallOk Try.prog 10 := ⟨_, Try.func10, rfl, by kernel_rfl⟩
/-! loop.example/wholecheck/spec.l1In -/
noncomputable def spec_l1In.ps : S := (.pair I (.pair I (.pair I .unit)))
noncomputable def spec_l1In.sem (k : Nat) : Sem := mkSem [.sh, .sh, .sh] 1 .bool .sh .unit (.pair I (.pair I (.pair I .unit))) fun x => spec_l1In.f k x.1 x.2.1 x.2.2.1
noncomputable def spec_l1In.C (k : Nat) : Ctx := mkC tys [] (hintOf []) (headOf []) [] (ordOf []) (hidOf []) (jnOf [])
noncomputable def spec_l1In.K0 (k : Nat) : Ex → List Slot → Option (Bool × Unit) := kRet (spec_l1In.C k) Try.f52 1 .bool .sh [.sh, .sh, .sh] .unit
theorem spec_l1In.s (k : Nat) (x : El spec_l1In.ps) : evalFn (spec_l1In.C k) k Try.f52 1 .bool .sh [.sh, .sh, .sh] .unit (unp spec_l1In.ps [.sh, .sh, .sh] x) = spec_l1In.bt k x.1 x.2.1 x.2.2.1 := by kernel_rfl
theorem spec_l1In.e (k : Nat) (x : El spec_l1In.ps) : evalFn (spec_l1In.C k) k Try.f52 1 .bool .sh [.sh, .sh, .sh] .unit (unp spec_l1In.ps [.sh, .sh, .sh] x) = spec_l1In.f k x.1 x.2.1 x.2.2.1 := by
  rw [spec_l1In.s]; rfl
theorem spec_l1In.env (k : Nat) : EnvOk Try.prog [] := trivial
theorem spec_l1In.ok (k : Nat) : Contract Try.prog 52 (spec_l1In.sem k) := fn_ok (C := spec_l1In.C k) (mkC_ok tys_ok (spec_l1In.env k) mix) Try.func52 rfl rfl (spec_l1In.e k)
theorem spec_l1In.code : CallOk Try.prog 52 := ⟨_, Try.func52, rfl, by kernel_rfl⟩
/-! loop.example/wholecheck/spec.l2Has -/
noncomputable def spec_l2Has.ps : S := (.pair (.slice false I) (.pair I .unit))
noncomputable def spec_l2Has.sem (k : Nat) : Sem := mkSem [.sh, .sh] 1 .bool .sh .unit (.pair (.slice false I) (.pair I .unit)) fun x => spec_l2Has.f k x.1 x.2.1
noncomputable def spec_l2Has.C (k : Nat) : Ctx := mkC tys [] (hintOf []) (headOf [(2, [(0, none), (1, none), (5, none)])]) [] (ordOf []) (hidOf []) (jnOf [])
noncomputable def spec_l2Has.K0 (k : Nat) : Ex → List Slot → Option (Bool × Unit) := kRet (spec_l2Has.C k) Try.f61 1 .bool .sh [.sh, .sh] .unit
noncomputable def spec_l2Has.L2 (k : Nat) (p0 : (List Int)) (p1 : Int) (n : Nat) (v5_2 : Int) : Option (Bool × Unit) :=
  loopN ((spec_l2Has.C k).head 2) (evalCode (spec_l2Has.C k) k (codeAt [1, 0, 1, 0, 0] (body Try.f61))) n (st 18 [(5, .val I .sh v5_2), (1, .val I .sh p1), (0, .val (.slice false I) .sh p0)]) (kAt (spec_l2Has.C k) k [1, 0, 1, 0] (body Try.f61) [] (spec_l2Has.K0 k))
theorem spec_l2Has.s2 (k : Nat) (p0 : (List Int)) (p1 : Int) (n : Nat) (v5_2 : Int) : spec_l2Has.L2 k p0 p1 (n + 1) v5_2 = spec_l2Has.b2 k (spec_l2Has.L2 k p0 p1 n) p0 p1 v5_2 := by kernel_rfl
theorem spec_l2Has.t2 (k : Nat) (p0 : (List Int)) (p1 : Int) : ∀ n, spec_l2Has.L2 k p0 p1 n = spec_l2Has.l2 k p0 p1 n := by
  intro n; induction n with
  | zero => rfl
  | succ n ih => funext v5_2; rw [spec_l2Has.s2]; rw [ih]; rfl
theorem spec_l2Has.s (k : Nat) (x : El spec_l2Has.ps) : evalFn (spec_l2Has.C k) k Try.f61 1 .bool .sh [.sh, .sh] .unit (unp spec_l2Has.ps [.sh, .sh] x) = spec_l2Has.bt k (spec_l2Has.L2 k x.1 x.2.1 k) x.1 x.2.1 := by kernel_rfl
theorem spec_l2Has.e (k : Nat) (x : El spec_l2Has.ps) : evalFn (spec_l2Has.C k) k Try.f61 1 .bool .sh [.sh, .sh] .unit (unp spec_l2Has.ps [.sh, .sh] x) = spec_l2Has.f k x.1 x.2.1 := by
  rw [spec_l2Has.s]; rw [spec_l2Has.t2 k x.1 x.2.1 k]; rfl
theorem spec_l2Has.env (k : Nat) : EnvOk Try.prog [] := trivial
theorem spec_l2Has.ok (k : Nat) : Contract Try.prog 61 (spec_l2Has.sem k) := fn_ok (C := spec_l2Has.C k) (mkC_ok tys_ok (spec_l2Has.env k) mix) Try.func61 rfl rfl (spec_l2Has.e k)
theorem spec_l2Has.code : CallOk Try.prog 61 := ⟨_, Try.func61, rfl, by kernel_rfl⟩
/-! loop.example/wholecheck/spec.OrderValid -/
noncomputable def spec_OrderValid.ps : S := (.pair (.slice false I) (.pair I .unit))
noncomputable def spec_OrderValid.sem (k : Nat) : Sem := mkSem [.sh, .sh] 1 .bool .sh .unit (.pair (.slice false I) (.pair I .unit)) fun x => spec_OrderValid.f k x.1 x.2.1
noncomputable def spec_OrderValid.C (k : Nat) : Ctx := mkC tys [(52, spec_l1In.sem k), (61, spec_l2Has.sem k)] (hintOf []) (headOf [(4, [(0, none), (1, none), (5, none)])]) [] (ordOf []) (hidOf []) (jnOf [])
noncomputable def spec_OrderValid.K0 (k : Nat) : Ex → List Slot → Option (Bool × Unit) := kRet (spec_OrderValid.C k) Try.f40 1 .bool .sh [.sh, .sh] .unit
noncomputable def spec_OrderValid.L4 (k : Nat) (p0 : (List Int)) (p1 : Int) (n : Nat) (v5_4 : Int) : Option (Bool × Unit) :=
  loopN ((spec_OrderValid.C k).head 4) (evalCode (spec_OrderValid.C k) k (codeAt [1, 1, 0, 1, 0, 0] (body Try.f40))) n (st 24 [(5, .val I .sh v5_4), (1, .val I .sh p1), (0, .val (.slice false I) .sh p0)]) (kAt (spec_OrderValid.C k) k [1, 1, 0, 1, 0] (body Try.f40) [] (spec_OrderValid.K0 k))
theorem spec_OrderValid.s4 (k : Nat) (p0 : (List Int)) (p1 : Int) (n : Nat) (v5_4 : Int) : spec_OrderValid.L4 k p0 p1 (n + 1) v5_4 = spec_OrderValid.b4 k (spec_OrderValid.L4 k p0 p1 n) p0 p1 v5_4 := by kernel_rfl
theorem spec_OrderValid.t4 (k : Nat) (p0 : (List Int)) (p1 : Int) : ∀ n, spec_OrderValid.L4 k p0 p1 n = spec_OrderValid.l4 k p0 p1 n := by
  intro n; induction n with
  | zero => rfl
  | succ n ih => funext v5_4; rw [spec_OrderValid.s4]; rw [ih]; rfl
theorem spec_OrderValid.s (k : Nat) (x : El spec_OrderValid.ps) : evalFn (spec_OrderValid.C k) k Try.f40 1 .bool .sh [.sh, .sh] .unit (unp spec_OrderValid.ps [.sh, .sh] x) = spec_OrderValid.bt k (spec_OrderValid.L4 k x.1 x.2.1 k) x.1 x.2.1 := by kernel_rfl
theorem spec_OrderValid.e (k : Nat) (x : El spec_OrderValid.ps) : evalFn (spec_OrderValid.C k) k Try.f40 1 .bool .sh [.sh, .sh] .unit (unp spec_OrderValid.ps [.sh, .sh] x) = spec_OrderValid.f k x.1 x.2.1 := by
  rw [spec_OrderValid.s]; rw [spec_OrderValid.t4 k x.1 x.2.1 k]; rfl
theorem spec_OrderValid.env (k : Nat) : EnvOk Try.prog [(52, spec_l1In.sem k), (61, spec_l2Has.sem k)] := ⟨⟨spec_l1In.ok k, spec_l1In.code⟩, ⟨spec_l2Has.ok k, spec_l2Has.code⟩, trivial⟩
theorem spec_OrderValid.ok (k : Nat) : Contract Try.prog 40 (spec_OrderValid.sem k) := fn_ok (C := spec_OrderValid.C k) (mkC_ok tys_ok (spec_OrderValid.env k) mix) Try.func40 rfl rfl (spec_OrderValid.e k)
theorem spec_OrderValid.code : CallOk Try.prog 40 := ⟨_, Try.func40, rfl, by kernel_rfl⟩
/-! loop.example/wholecheck/spec.Exchanged -/
noncomputable def spec_Exchanged.ps : S := (.pair (.slice false I) (.pair (.slice false I) .unit))
noncomputable def spec_Exchanged.sem (k : Nat) : Sem := mkSem [.sh, .sh] 1 (.slice false I) (.ow .sh) .unit (.pair (.slice false I) (.pair (.slice false I) .unit)) fun x => spec_Exchanged.f k x.1 x.2.1
noncomputable def spec_Exchanged.C (k : Nat) : Ctx := mkC tys [(40, spec_OrderValid.sem k)] (hintOf []) (headOf [(3, [(0, none), (1, none), (5, none), (6, none)])]) [] (ordOf []) (hidOf []) (jnOf [])
noncomputable def spec_Exchanged.K0 (k : Nat) : Ex → List Slot → Option ((List Int) × Unit) := kRet (spec_Exchanged.C k) Try.f9 1 (.slice false I) (.ow .sh) [.sh, .sh] .unit
noncomputable def spec_Exchanged.L3 (k : Nat) (p0 : (List Int)) (p1 : (List Int)) (n : Nat) (v5_3 : (List Int)) (v6_3 : Int) : Option ((List Int) × Unit) :=
  loopN ((spec_Exchanged.C k).head 3) (evalCode (spec_Exchanged.C k) k (codeAt [1, 1, 0, 1, 0, 0] (body Try.f9))) n (st 31 [(6, .val I .sh v6_3), (5, .val (.slice false I) (.ow .sh) v5_3), (1, .val (.slice false I) .sh p1), (0, .val (.slice false I) .sh p0)]) (kAt (spec_Exchanged.C k) k [1, 1, 0, 1, 0] (body Try.f9) [] (spec_Exchanged.K0 k))
theorem spec_Exchanged.s3 (k : Nat) (p0 : (List Int)) (p1 : (List Int)) (n : Nat) (v5_3 : (List Int)) (v6_3 : Int) : spec_Exchanged.L3 k p0 p1 (n + 1) v5_3 v6_3 = spec_Exchanged.b3 k (spec_Exchanged.L3 k p0 p1 n) p0 p1 v5_3 v6_3 := by kernel_rfl
theorem spec_Exchanged.t3 (k : Nat) (p0 : (List Int)) (p1 : (List Int)) : ∀ n, spec_Exchanged.L3 k p0 p1 n = spec_Exchanged.l3 k p0 p1 n := by
  intro n; induction n with
  | zero => rfl
  | succ n ih => funext v5_3 v6_3; rw [spec_Exchanged.s3]; rw [ih]; rfl
theorem spec_Exchanged.s (k : Nat) (x : El spec_Exchanged.ps) : evalFn (spec_Exchanged.C k) k Try.f9 1 (.slice false I) (.ow .sh) [.sh, .sh] .unit (unp spec_Exchanged.ps [.sh, .sh] x) = spec_Exchanged.bt k (spec_Exchanged.L3 k x.1 x.2.1 k) x.1 x.2.1 := by kernel_rfl
theorem spec_Exchanged.e (k : Nat) (x : El spec_Exchanged.ps) : evalFn (spec_Exchanged.C k) k Try.f9 1 (.slice false I) (.ow .sh) [.sh, .sh] .unit (unp spec_Exchanged.ps [.sh, .sh] x) = spec_Exchanged.f k x.1 x.2.1 := by
  rw [spec_Exchanged.s]; rw [spec_Exchanged.t3 k x.1 x.2.1 k]; rfl
theorem spec_Exchanged.env (k : Nat) : EnvOk Try.prog [(40, spec_OrderValid.sem k)] := ⟨⟨spec_OrderValid.ok k, spec_OrderValid.code⟩, trivial⟩
theorem spec_Exchanged.ok (k : Nat) : Contract Try.prog 9 (spec_Exchanged.sem k) := fn_ok (C := spec_Exchanged.C k) (mkC_ok tys_ok (spec_Exchanged.env k) mix) Try.func9 rfl rfl (spec_Exchanged.e k)
theorem spec_Exchanged.code : CallOk Try.prog 9 := ⟨_, Try.func9, rfl, by kernel_rfl⟩
/-! loop.example/wholecheck/impl.in -/
noncomputable def impl_in.ps : S := (.pair I (.pair I (.pair I .unit)))
noncomputable def impl_in.sem (k : Nat) : Sem := mkSem [.sh, .sh, .sh] 1 .bool .sh .unit (.pair I (.pair I (.pair I .unit))) fun x => impl_in.f k x.1 x.2.1 x.2.2.1
noncomputable def impl_in.C (k : Nat) : Ctx := mkC tys [] (hintOf []) (headOf []) [] (ordOf []) (hidOf []) (jnOf [])
noncomputable def impl_in.K0 (k : Nat) : Ex → List Slot → Option (Bool × Unit) := kRet (impl_in.C k) Try.f80 1 .bool .sh [.sh, .sh, .sh] .unit
theorem impl_in.s (k : Nat) (x : El impl_in.ps) : evalFn (impl_in.C k) k Try.f80 1 .bool .sh [.sh, .sh, .sh] .unit (unp impl_in.ps [.sh, .sh, .sh] x) = impl_in.bt k x.1 x.2.1 x.2.2.1 := by kernel_rfl
theorem impl_in.e (k : Nat) (x : El impl_in.ps) : evalFn (impl_in.C k) k Try.f80 1 .bool .sh [.sh, .sh, .sh] .unit (unp impl_in.ps [.sh, .sh, .sh] x) = impl_in.f k x.1 x.2.1 x.2.2.1 := by
  rw [impl_in.s]; rfl
theorem impl_in.env (k : Nat) : EnvOk Try.prog [] := trivial
theorem impl_in.ok (k : Nat) : Contract Try.prog 80 (impl_in.sem k) := fn_ok (C := impl_in.C k) (mkC_ok tys_ok (impl_in.env k) mix) Try.func80 rfl rfl (impl_in.e k)
theorem impl_in.code : CallOk Try.prog 80 := ⟨_, Try.func80, rfl, by kernel_rfl⟩
/-! slices.Index[[]int,int] -/
noncomputable def slices_Index_int_int.ps : S := (.pair (.slice false I) (.pair I .unit))
noncomputable def slices_Index_int_int.sem (k : Nat) : Sem := mkSem [.sh, .sh] 1 I .sh .unit (.pair (.slice false I) (.pair I .unit)) fun x => slices_Index_int_int.f k x.1 x.2.1
noncomputable def slices_Index_int_int.C (k : Nat) : Ctx := mkC tys [] (hintOf []) (headOf [(2, [(0, none), (1, none), (7, none), (8, none)])]) [] (ordOf []) (hidOf []) (jnOf [])
noncomputable def slices_Index_int_int.K0 (k : Nat) : Ex → List Slot → Option (Int × Unit) := kRet (slices_Index_int_int.C k) Try.f113 1 I .sh [.sh, .sh] .unit
noncomputable def slices_Index_int_int.L2 (k : Nat) (p0 : (List Int)) (p1 : Int) (n : Nat) (v8_2 : Int) : Option (Int × Unit) :=
  loopN ((slices_Index_int_int.C k).head 2) (evalCode (slices_Index_int_int.C k) k (codeAt [1, 0, 1, 0, 0] (body Try.f113))) n (st 19 [(8, .val I .sh v8_2), (7, .val I .sh ((p0.length : Int))), (1, .val I .sh p1), (0, .val (.slice false I) .sh p0)]) (kAt (slices_Index_int_int.C k) k [1, 0, 1, 0] (body Try.f113) [] (slices_Index_int_int.K0 k))
theorem slices_Index_int_int.s2 (k : Nat) (p0 : (List Int)) (p1 : Int) (n : Nat) (v8_2 : Int) : slices_Index_int_int.L2 k p0 p1 (n + 1) v8_2 = slices_Index_int_int.b2 k (slices_Index_int_int.L2 k p0 p1 n) p0 p1 v8_2 := by kernel_rfl
theorem slices_Index_int_int.t2 (k : Nat) (p0 : (List Int)) (p1 : Int) : ∀ n, slices_Index_int_int.L2 k p0 p1 n = slices_Index_int_int.l2 k p0 p1 n := by
  intro n; induction n with
  | zero => rfl
  | succ n ih => funext v8_2; rw [slices_Index_int_int.s2]; rw [ih]; rfl
theorem slices_Index_int_int.s (k : Nat) (x : El slices_Index_int_int.ps) : evalFn (slices_Index_int_int.C k) k Try.f113 1 I .sh [.sh, .sh] .unit (unp slices_Index_int_int.ps [.sh, .sh] x) = slices_Index_int_int.bt k (slices_Index_int_int.L2 k x.1 x.2.1 k) x.1 x.2.1 := by kernel_rfl
theorem slices_Index_int_int.e (k : Nat) (x : El slices_Index_int_int.ps) : evalFn (slices_Index_int_int.C k) k Try.f113 1 I .sh [.sh, .sh] .unit (unp slices_Index_int_int.ps [.sh, .sh] x) = slices_Index_int_int.f k x.1 x.2.1 := by
  rw [slices_Index_int_int.s]; rw [slices_Index_int_int.t2 k x.1 x.2.1 k]; rfl
theorem slices_Index_int_int.env (k : Nat) : EnvOk Try.prog [] := trivial
theorem slices_Index_int_int.ok (k : Nat) : Contract Try.prog 113 (slices_Index_int_int.sem k) := fn_ok (C := slices_Index_int_int.C k) (mkC_ok tys_ok (slices_Index_int_int.env k) mix) Try.func113 rfl rfl (slices_Index_int_int.e k)
theorem slices_Index_int_int.code : CallOk Try.prog 113 := ⟨_, Try.func113, rfl, by kernel_rfl⟩
/-! slices.Contains[[]int,int] -/
noncomputable def slices_Contains_int_int.ps : S := (.pair (.slice false I) (.pair I .unit))
noncomputable def slices_Contains_int_int.sem (k : Nat) : Sem := mkSem [.sh, .sh] 1 .bool .sh .unit (.pair (.slice false I) (.pair I .unit)) fun x => slices_Contains_int_int.f k x.1 x.2.1
noncomputable def slices_Contains_int_int.C (k : Nat) : Ctx := mkC tys [(113, slices_Index_int_int.sem k)] (hintOf []) (headOf []) [] (ordOf []) (hidOf []) (jnOf [])
noncomputable def slices_Contains_int_int.K0 (k : Nat) : Ex → List Slot → Option (Bool × Unit) := kRet (slices_Contains_int_int.C k) Try.f81 1 .bool .sh [.sh, .sh] .unit
theorem slices_Contains_int_int.s (k : Nat) (x : El slices_Contains_int_int.ps) : evalFn (slices_Contains_int_int.C k) k Try.f81 1 .bool .sh [.sh, .sh] .unit (unp slices_Contains_int_int.ps [.sh, .sh] x) = slices_Contains_int_int.bt k x.1 x.2.1 := by kernel_rfl
theorem slices_Contains_int_int.e (k : Nat) (x : El slices_Contains_int_int.ps) : evalFn (slices_Contains_int_int.C k) k Try.f81 1 .bool .sh [.sh, .sh] .unit (unp slices_Contains_int_int.ps [.sh, .sh] x) = slices_Contains_int_int.f k x.1 x.2.1 := by
  rw [slices_Contains_int_int.s]; rfl
theorem slices_Contains_int_int.env (k : Nat) : EnvOk Try.prog [(113, slices_Index_int_int.sem k)] := ⟨⟨slices_Index_int_int.ok k, slices_Index_int_int.code⟩, trivial⟩
theorem slices_Contains_int_int.ok (k : Nat) : Contract Try.prog 81 (slices_Contains_int_int.sem k) := fn_ok (C := slices_Contains_int_int.C k) (mkC_ok tys_ok (slices_Contains_int_int.env k) mix) Try.func81 rfl rfl (slices_Contains_int_int.e k)
theorem slices_Contains_int_int.code : CallOk Try.prog 81 := ⟨_, Try.func81, rfl, by kernel_rfl⟩
/-! loop.example/wholecheck/impl.OrderValid -/
noncomputable def impl_OrderValid.ps : S := (.pair (.slice false I) (.pair I .unit))
noncomputable def impl_OrderValid.sem (k : Nat) : Sem := mkSem [.sh, .sh] 1 .bool .sh .unit (.pair (.slice false I) (.pair I .unit)) fun x => impl_OrderValid.f k x.1 x.2.1
noncomputable def impl_OrderValid.C (k : Nat) : Ctx := mkC tys [(80, impl_in.sem k), (81, slices_Contains_int_int.sem k)] (hintOf []) (headOf [(4, [(0, none), (1, none), (16, none), (17, none), (18, none)])]) [] (ordOf []) (hidOf []) (jnOf [])
noncomputable def impl_OrderValid.K0 (k : Nat) : Ex → List Slot → Option (Bool × Unit) := kRet (impl_OrderValid.C k) Try.f41 1 .bool .sh [.sh, .sh] .unit
noncomputable def impl_OrderValid.L4 (k : Nat) (p0 : (List Int)) (p1 : Int) (n : Nat) (v18_4 : Int) : Option (Bool × Unit) :=
  loopN ((impl_OrderValid.C k).head 4) (evalCode (impl_OrderValid.C k) k (codeAt [1, 1, 0, 1, 0, 0] (body Try.f41))) n (st 36 [(18, .val I .sh v18_4), (17, .val I .sh ((p0.length : Int))), (16, .val (.slice false I) .sh p0), (1, .val I .sh p1), (0, .val (.slice false I) .sh p0)]) (kAt (impl_OrderValid.C k) k [1, 1, 0, 1, 0] (body Try.f41) [] (impl_OrderValid.K0 k))
theorem impl_OrderValid.s4 (k : Nat) (p0 : (List Int)) (p1 : Int) (n : Nat) (v18_4 : Int) : impl_OrderValid.L4 k p0 p1 (n + 1) v18_4 = impl_OrderValid.b4 k (impl_OrderValid.L4 k p0 p1 n) p0 p1 v18_4 := by kernel_rfl
theorem impl_OrderValid.t4 (k : Nat) (p0 : (List Int)) (p1 : Int) : ∀ n, impl_OrderValid.L4 k p0 p1 n = impl_OrderValid.l4 k p0 p1 n := by
  intro n; induction n with
  | zero => rfl
  | succ n ih => funext v18_4; rw [impl_OrderValid.s4]; rw [ih]; rfl
theorem impl_OrderValid.s (k : Nat) (x : El impl_OrderValid.ps) : evalFn (impl_OrderValid.C k) k Try.f41 1 .bool .sh [.sh, .sh] .unit (unp impl_OrderValid.ps [.sh, .sh] x) = impl_OrderValid.bt k (impl_OrderValid.L4 k x.1 x.2.1 k) x.1 x.2.1 := by kernel_rfl
theorem impl_OrderValid.e (k : Nat) (x : El impl_OrderValid.ps) : evalFn (impl_OrderValid.C k) k Try.f41 1 .bool .sh [.sh, .sh] .unit (unp impl_OrderValid.ps [.sh, .sh] x) = impl_OrderValid.f k x.1 x.2.1 := by
  rw [impl_OrderValid.s]; rw [impl_OrderValid.t4 k x.1 x.2.1 k]; rfl
theorem impl_OrderValid.env (k : Nat) : EnvOk Try.prog [(80, impl_in.sem k), (81, slices_Contains_int_int.sem k)] := ⟨⟨impl_in.ok k, impl_in.code⟩, ⟨slices_Contains_int_int.ok k, slices_Contains_int_int.code⟩, trivial⟩
theorem impl_OrderValid.ok (k : Nat) : Contract Try.prog 41 (impl_OrderValid.sem k) := fn_ok (C := impl_OrderValid.C k) (mkC_ok tys_ok (impl_OrderValid.env k) mix) Try.func41 rfl rfl (impl_OrderValid.e k)
theorem impl_OrderValid.code : CallOk Try.prog 41 := ⟨_, Try.func41, rfl, by kernel_rfl⟩
/-! loop.example/wholecheck/impl.exchanged -/
noncomputable def impl_exchanged.ps : S := (.pair (.slice false I) (.pair (.slice false I) .unit))
noncomputable def impl_exchanged.sem (k : Nat) : Sem := mkSem [.sh, .sh] 1 (.slice false I) (.ow .sh) .unit (.pair (.slice false I) (.pair (.slice false I) .unit)) fun x => impl_exchanged.f k x.1 x.2.1
noncomputable def impl_exchanged.C (k : Nat) : Ctx := mkC tys [] (hintOf []) (headOf [(3, [(0, none), (5, none), (11, none), (12, none), (13, none)])]) [] (ordOf []) (hidOf []) (jnOf [])
noncomputable def impl_exchanged.K0 (k : Nat) : Ex → List Slot → Option ((List Int) × Unit) := kRet (impl_exchanged.C k) Try.f43 1 (.slice false I) (.ow .sh) [.sh, .sh] .unit
noncomputable def impl_exchanged.L3 (k : Nat) (p0 : (List Int)) (p1 : (List Int)) (n : Nat) (v5_3 : (List Int)) (v13_3 : Int) : Option ((List Int) × Unit) :=
  loopN ((impl_exchanged.C k).head 3) (evalCode (impl_exchanged.C k) k (codeAt [1, 1, 0, 1, 0, 0] (body Try.f43))) n (st 27 [(13, .val I .sh v13_3), (12, .val I .sh ((p1.length : Int))), (11, .val (.slice false I) .sh p1), (5, .val (.slice false I) (.ow .sh) v5_3), (0, .val (.slice false I) .sh p0)]) (kAt (impl_exchanged.C k) k [1, 1, 0, 1, 0] (body Try.f43) [] (impl_exchanged.K0 k))
theorem impl_exchanged.s3 (k : Nat) (p0 : (List Int)) (p1 : (List Int)) (n : Nat) (v5_3 : (List Int)) (v13_3 : Int) : impl_exchanged.L3 k p0 p1 (n + 1) v5_3 v13_3 = impl_exchanged.b3 k (impl_exchanged.L3 k p0 p1 n) p0 p1 v5_3 v13_3 := by kernel_rfl
theorem impl_exchanged.t3 (k : Nat) (p0 : (List Int)) (p1 : (List Int)) : ∀ n, impl_exchanged.L3 k p0 p1 n = impl_exchanged.l3 k p0 p1 n := by
  intro n; induction n with
  | zero => rfl
  | succ n ih => funext v5_3 v13_3; rw [impl_exchanged.s3]; rw [ih]; rfl
theorem impl_exchanged.s (k : Nat) (x : El impl_exchanged.ps) : evalFn (impl_exchanged.C k) k Try.f43 1 (.slice false I) (.ow .sh) [.sh, .sh] .unit (unp impl_exchanged.ps [.sh, .sh] x) = impl_exchanged.bt k (impl_exchanged.L3 k x.1 x.2.1 k) x.1 x.2.1 := by kernel_rfl
theorem impl_exchanged.e (k : Nat) (x : El impl_exchanged.ps) : evalFn (impl_exchanged.C k) k Try.f43 1 (.slice false I) (.ow .sh) [.sh, .sh] .unit (unp impl_exchanged.ps [.sh, .sh] x) = impl_exchanged.f k x.1 x.2.1 := by
  rw [impl_exchanged.s]; rw [impl_exchanged.t3 k x.1 x.2.1 k]; rfl
theorem impl_exchanged.env (k : Nat) : EnvOk Try.prog [] := trivial
theorem impl_exchanged.ok (k : Nat) : Contract Try.prog 43 (impl_exchanged.sem k) := fn_ok (C := impl_exchanged.C k) (mkC_ok tys_ok (impl_exchanged.env k) mix) Try.func43 rfl rfl (impl_exchanged.e k)
theorem impl_exchanged.code : CallOk Try.prog 43 := ⟨_, Try.func43, rfl, by kernel_rfl⟩
/-! loop.example/wholecheck/impl.clone[int] -/
noncomputable def impl_clone_int.ps : S := (.pair (.slice false I) .unit)
noncomputable def impl_clone_int.sem (k : Nat) : Sem := mkSem [.sh] 1 (.slice false I) (.ow .sh) .unit (.pair (.slice false I) .unit) fun x => impl_clone_int.f k x.1
noncomputable def impl_clone_int.C (k : Nat) : Ctx := mkC tys [] (hintOf []) (headOf []) [] (ordOf []) (hidOf []) (jnOf [])
noncomputable def impl_clone_int.K0 (k : Nat) : Ex → List Slot → Option ((List Int) × Unit) := kRet (impl_clone_int.C k) Try.f42 1 (.slice false I) (.ow .sh) [.sh] .unit
theorem impl_clone_int.s (k : Nat) (x : El impl_clone_int.ps) : evalFn (impl_clone_int.C k) k Try.f42 1 (.slice false I) (.ow .sh) [.sh] .unit (unp impl_clone_int.ps [.sh] x) = impl_clone_int.bt k x.1 := by kernel_rfl
theorem impl_clone_int.e (k : Nat) (x : El impl_clone_int.ps) : evalFn (impl_clone_int.C k) k Try.f42 1 (.slice false I) (.ow .sh) [.sh] .unit (unp impl_clone_int.ps [.sh] x) = impl_clone_int.f k x.1 := by
  rw [impl_clone_int.s]; rfl
theorem impl_clone_int.env (k : Nat) : EnvOk Try.prog [] := trivial
theorem impl_clone_int.ok (k : Nat) : Contract Try.prog 42 (impl_clone_int.sem k) := fn_ok (C := impl_clone_int.C k) (mkC_ok tys_ok (impl_clone_int.env k) mix) Try.func42 rfl rfl (impl_clone_int.e k)
theorem impl_clone_int.code : CallOk Try.prog 42 := ⟨_, Try.func42, rfl, by kernel_rfl⟩
/-! loop.example/wholecheck/impl.Exchanged -/
noncomputable def impl_Exchanged.ps : S := (.pair (.slice false I) (.pair (.slice false I) .unit))
noncomputable def impl_Exchanged.sem (k : Nat) : Sem := mkSem [.sh, .sh] 1 (.slice false I) (.ow .sh) .unit (.pair (.slice false I) (.pair (.slice false I) .unit)) fun x => impl_Exchanged.f k x.1 x.2.1
noncomputable def impl_Exchanged.C (k : Nat) : Ctx := mkC tys [(41, impl_OrderValid.sem k), (43, impl_exchanged.sem k), (42, impl_clone_int.sem k)] (hintOf []) (headOf []) [] (ordOf []) (hidOf []) (jnOf [])
noncomputable def impl_Exchanged.K0 (k : Nat) : Ex → List Slot → Option ((List Int) × Unit) := kRet (impl_Exchanged.C k) Try.f11 1 (.slice false I) (.ow .sh) [.sh, .sh] .unit
theorem impl_Exchanged.s (k : Nat) (x : El impl_Exchanged.ps) : evalFn (impl_Exchanged.C k) k Try.f11 1 (.slice false I) (.ow .sh) [.sh, .sh] .unit (unp impl_Exchanged.ps [.sh, .sh] x) = impl_Exchanged.bt k x.1 x.2.1 := by kernel_rfl
theorem impl_Exchanged.e (k : Nat) (x : El impl_Exchanged.ps) : evalFn (impl_Exchanged.C k) k Try.f11 1 (.slice false I) (.ow .sh) [.sh, .sh] .unit (unp impl_Exchanged.ps [.sh, .sh] x) = impl_Exchanged.f k x.1 x.2.1 := by
  rw [impl_Exchanged.s]; rfl
theorem impl_Exchanged.env (k : Nat) : EnvOk Try.prog [(41, impl_OrderValid.sem k), (43, impl_exchanged.sem k), (42, impl_clone_int.sem k)] := ⟨⟨impl_OrderValid.ok k, impl_OrderValid.code⟩, ⟨impl_exchanged.ok k, impl_exchanged.code⟩, ⟨impl_clone_int.ok k, impl_clone_int.code⟩, trivial⟩
theorem impl_Exchanged.ok (k : Nat) : Contract Try.prog 11 (impl_Exchanged.sem k) := fn_ok (C := impl_Exchanged.C k) (mkC_ok tys_ok (impl_Exchanged.env k) mix) Try.func11 rfl rfl (impl_Exchanged.e k)
theorem impl_Exchanged.code : CallOk Try.prog 11 := ⟨_, Try.func11, rfl, by kernel_rfl⟩
/-! loop.example/wholecheck/laws.eqIntS -/
noncomputable def laws_eqIntS.ps : S := (.pair (.slice false I) (.pair (.slice false I) .unit))
noncomputable def laws_eqIntS.sem (k : Nat) : Sem := mkSem [.sh, .sh] 1 .bool .sh .unit (.pair (.slice false I) (.pair (.slice false I) .unit)) fun x => laws_eqIntS.f k x.1 x.2.1
noncomputable def laws_eqIntS.C (k : Nat) : Ctx := mkC tys [] (hintOf []) (headOf [(4, [(0, none), (1, none), (5, none)])]) [] (ordOf [(6, [0, 1, 2, 3, 4, 5, 6, 7, 8])]) (hidOf []) (jnOf [])
noncomputable def laws_eqIntS.K0 (k : Nat) : Ex → List Slot → Option (Bool × Unit) := kRet (laws_eqIntS.C k) Try.f12 1 .bool .sh [.sh, .sh] .unit
noncomputable def laws_eqIntS.L4 (k : Nat) (p0 : (List Int)) (p1 : (List Int)) (n : Nat) (v5_4 : Int) : Option (Bool × Unit) :=
  loopN ((laws_eqIntS.C k).head 4) (evalCode (laws_eqIntS.C k) k (codeAt [1, 1, 0, 1, 0, 0] (body Try.f12))) n (st 26 [(5, .val I .sh v5_4), (1, .val (.slice false I) .sh p1), (0, .val (.slice false I) .sh p0)]) (kAt (laws_eqIntS.C k) k [1, 1, 0, 1, 0] (body Try.f12) [] (laws_eqIntS.K0 k))
theorem laws_eqIntS.s4 (k : Nat) (p0 : (List Int)) (p1 : (List Int)) (n : Nat) (v5_4 : Int) : laws_eqIntS.L4 k p0 p1 (n + 1) v5_4 = laws_eqIntS.b4 k (laws_eqIntS.L4 k p0 p1 n) p0 p1 v5_4 := by kernel_rfl
theorem laws_eqIntS.t4 (k : Nat) (p0 : (List Int)) (p1 : (List Int)) : ∀ n, laws_eqIntS.L4 k p0 p1 n = laws_eqIntS.l4 k p0 p1 n := by
  intro n; induction n with
  | zero => rfl
  | succ n ih => funext v5_4; rw [laws_eqIntS.s4]; rw [ih]; rfl
theorem laws_eqIntS.s (k : Nat) (x : El laws_eqIntS.ps) : evalFn (laws_eqIntS.C k) k Try.f12 1 .bool .sh [.sh, .sh] .unit (unp laws_eqIntS.ps [.sh, .sh] x) = laws_eqIntS.bt k (laws_eqIntS.L4 k x.1 x.2.1 k) x.1 x.2.1 := by kernel_rfl
theorem laws_eqIntS.e (k : Nat) (x : El laws_eqIntS.ps) : evalFn (laws_eqIntS.C k) k Try.f12 1 .bool .sh [.sh, .sh] .unit (unp laws_eqIntS.ps [.sh, .sh] x) = laws_eqIntS.f k x.1 x.2.1 := by
  rw [laws_eqIntS.s]; rw [laws_eqIntS.t4 k x.1 x.2.1 k]; rfl
theorem laws_eqIntS.env (k : Nat) : EnvOk Try.prog [] := trivial
theorem laws_eqIntS.ok (k : Nat) : Contract Try.prog 12 (laws_eqIntS.sem k) := fn_ok (C := laws_eqIntS.C k) (mkC_ok tys_ok (laws_eqIntS.env k) mix) Try.func12 rfl rfl (laws_eqIntS.e k)
theorem laws_eqIntS.code : CallOk Try.prog 12 := ⟨_, Try.func12, rfl, by kernel_rfl⟩
/-! loop.example/wholecheck/laws.markIntS -/
noncomputable def laws_markIntS.ps : S := (.pair (.slice false I) (.pair I .unit))
noncomputable def laws_markIntS.sem (k : Nat) : Sem := mkSem [.loan (.ow .sh), .sh] 1 I .sh (.slice false I) (.pair (.slice false I) (.pair I .unit)) fun x => laws_markIntS.f k x.1 x.2.1
noncomputable def laws_markIntS.C (k : Nat) : Ctx := mkC tys [] (hintOf []) (headOf [(2, [(0, none), (1, none), (5, none)])]) [0] (ordOf []) (hidOf []) (jnOf [])
noncomputable def laws_markIntS.K0 (k : Nat) : Ex → List Slot → Option (Int × (List Int)) := kRet (laws_markIntS.C k) Try.f13 1 I .sh [.loan (.ow .sh), .sh] (.slice false I)
noncomputable def laws_markIntS.L2 (k : Nat) (n : Nat) (v0_2 : (List Int)) (v1_2 : Int) (v5_2 : Int) : Option (Int × (List Int)) :=
  loopN ((laws_markIntS.C k).head 2) (evalCode (laws_markIntS.C k) k (codeAt [1, 0, 1, 0, 0] (body Try.f13))) n (st 19 [(5, .val I .sh v5_2), (1, .val I .sh v1_2), (0, .val (.slice false I) (.ow .sh) v0_2)]) (kAt (laws_markIntS.C k) k [1, 0, 1, 0] (body Try.f13) [] (laws_markIntS.K0 k))
theorem laws_markIntS.s2 (k : Nat) (n : Nat) (v0_2 : (List Int)) (v1_2 : Int) (v5_2 : Int) : laws_markIntS.L2 k (n + 1) v0_2 v1_2 v5_2 = laws_markIntS.b2 k (laws_markIntS.L2 k n) v0_2 v1_2 v5_2 := by kernel_rfl
theorem laws_markIntS.t2 (k : Nat) : ∀ n, laws_markIntS.L2 k n = laws_markIntS.l2 k n := by
  intro n; induction n with
  | zero => rfl
  | succ n ih => funext v0_2 v1_2 v5_2; rw [laws_markIntS.s2]; rw [ih]; rfl
theorem laws_markIntS.s (k : Nat) (x : El laws_markIntS.ps) : evalFn (laws_markIntS.C k) k Try.f13 1 I .sh [.loan (.ow .sh), .sh] (.slice false I) (unp laws_markIntS.ps [.loan (.ow .sh), .sh] x) = laws_markIntS.bt k (laws_markIntS.L2 k k) x.1 x.2.1 := by kernel_rfl
theorem laws_markIntS.e (k : Nat) (x : El laws_markIntS.ps) : evalFn (laws_markIntS.C k) k Try.f13 1 I .sh [.loan (.ow .sh), .sh] (.slice false I) (unp laws_markIntS.ps [.loan (.ow .sh), .sh] x) = laws_markIntS.f k x.1 x.2.1 := by
  rw [laws_markIntS.s]; rw [laws_markIntS.t2 k k]; rfl
theorem laws_markIntS.env (k : Nat) : EnvOk Try.prog [] := trivial
theorem laws_markIntS.ok (k : Nat) : Contract Try.prog 13 (laws_markIntS.sem k) := fn_ok (C := laws_markIntS.C k) (mkC_ok tys_ok (laws_markIntS.env k) mix) Try.func13 rfl rfl (laws_markIntS.e k)
theorem laws_markIntS.code : CallOk Try.prog 13 := ⟨_, Try.func13, rfl, by kernel_rfl⟩
/-! loop.example/wholecheck/laws.heldIntS -/
noncomputable def laws_heldIntS.ps : S := (.pair (.slice false I) (.pair I .unit))
noncomputable def laws_heldIntS.sem (k : Nat) : Sem := mkSem [.sh, .sh] 1 I .sh .unit (.pair (.slice false I) (.pair I .unit)) fun x => laws_heldIntS.f k x.1 x.2.1
noncomputable def laws_heldIntS.C (k : Nat) : Ctx := mkC tys [] (hintOf []) (headOf [(2, [(0, none), (1, none), (5, none)])]) [] (ordOf []) (hidOf []) (jnOf [])
noncomputable def laws_heldIntS.K0 (k : Nat) : Ex → List Slot → Option (Int × Unit) := kRet (laws_heldIntS.C k) Try.f14 1 I .sh [.sh, .sh] .unit
noncomputable def laws_heldIntS.L2 (k : Nat) (p0 : (List Int)) (n : Nat) (v1_2 : Int) (v5_2 : Int) : Option (Int × Unit) :=
  loopN ((laws_heldIntS.C k).head 2) (evalCode (laws_heldIntS.C k) k (codeAt [1, 0, 1, 0, 0] (body Try.f14))) n (st 21 [(5, .val I .sh v5_2), (1, .val I .sh v1_2), (0, .val (.slice false I) .sh p0)]) (kAt (laws_heldIntS.C k) k [1, 0, 1, 0] (body Try.f14) [] (laws_heldIntS.K0 k))
theorem laws_heldIntS.s2 (k : Nat) (p0 : (List Int)) (n : Nat) (v1_2 : Int) (v5_2 : Int) : laws_heldIntS.L2 k p0 (n + 1) v1_2 v5_2 = laws_heldIntS.b2 k (laws_heldIntS.L2 k p0 n) p0 v1_2 v5_2 := by kernel_rfl
theorem laws_heldIntS.t2 (k : Nat) (p0 : (List Int)) : ∀ n, laws_heldIntS.L2 k p0 n = laws_heldIntS.l2 k p0 n := by
  intro n; induction n with
  | zero => rfl
  | succ n ih => funext v1_2 v5_2; rw [laws_heldIntS.s2]; rw [ih]; rfl
theorem laws_heldIntS.s (k : Nat) (x : El laws_heldIntS.ps) : evalFn (laws_heldIntS.C k) k Try.f14 1 I .sh [.sh, .sh] .unit (unp laws_heldIntS.ps [.sh, .sh] x) = laws_heldIntS.bt k (laws_heldIntS.L2 k x.1 k) x.1 x.2.1 := by kernel_rfl
theorem laws_heldIntS.e (k : Nat) (x : El laws_heldIntS.ps) : evalFn (laws_heldIntS.C k) k Try.f14 1 I .sh [.sh, .sh] .unit (unp laws_heldIntS.ps [.sh, .sh] x) = laws_heldIntS.f k x.1 x.2.1 := by
  rw [laws_heldIntS.s]; rw [laws_heldIntS.t2 k x.1 k]; rfl
theorem laws_heldIntS.env (k : Nat) : EnvOk Try.prog [] := trivial
theorem laws_heldIntS.ok (k : Nat) : Contract Try.prog 14 (laws_heldIntS.sem k) := fn_ok (C := laws_heldIntS.C k) (mkC_ok tys_ok (laws_heldIntS.env k) mix) Try.func14 rfl rfl (laws_heldIntS.e k)
theorem laws_heldIntS.code : CallOk Try.prog 14 := ⟨_, Try.func14, rfl, by kernel_rfl⟩
/-! loop.example/wholecheck/laws.FnExactExchanged -/
noncomputable def laws_FnExactExchanged.ps : S := (.pair (.slice false I) (.pair (.slice false I) .unit))
noncomputable def laws_FnExactExchanged.sem (k : Nat) : Sem := mkSem [.sh, .sh] 1 .bool .sh .unit (.pair (.slice false I) (.pair (.slice false I) .unit)) fun x => laws_FnExactExchanged.f k x.1 x.2.1
noncomputable def laws_FnExactExchanged.C (k : Nat) : Ctx := mkC tys [(10, laws_toIntS.sem k), (9, spec_Exchanged.sem k), (11, impl_Exchanged.sem k), (12, laws_eqIntS.sem k), (13, laws_markIntS.sem k), (14, laws_heldIntS.sem k)] (hintOf []) (headOf []) [] (ordOf []) (hidOf []) (jnOf [])
noncomputable def laws_FnExactExchanged.K0 (k : Nat) : Ex → List Slot → Option (Bool × Unit) := kRet (laws_FnExactExchanged.C k) Try.f3 1 .bool .sh [.sh, .sh] .unit
theorem laws_FnExactExchanged.s (k : Nat) (x : El laws_FnExactExchanged.ps) : evalFn (laws_FnExactExchanged.C k) k Try.f3 1 .bool .sh [.sh, .sh] .unit (unp laws_FnExactExchanged.ps [.sh, .sh] x) = laws_FnExactExchanged.bt k x.1 x.2.1 := by kernel_rfl
theorem laws_FnExactExchanged.e (k : Nat) (x : El laws_FnExactExchanged.ps) : evalFn (laws_FnExactExchanged.C k) k Try.f3 1 .bool .sh [.sh, .sh] .unit (unp laws_FnExactExchanged.ps [.sh, .sh] x) = laws_FnExactExchanged.f k x.1 x.2.1 := by
  rw [laws_FnExactExchanged.s]; rfl
theorem laws_FnExactExchanged.env (k : Nat) : EnvOk Try.prog [(10, laws_toIntS.sem k), (9, spec_Exchanged.sem k), (11, impl_Exchanged.sem k), (12, laws_eqIntS.sem k), (13, laws_markIntS.sem k), (14, laws_heldIntS.sem k)] := ⟨⟨laws_toIntS.ok k, laws_toIntS.code⟩, ⟨spec_Exchanged.ok k, spec_Exchanged.code⟩, ⟨impl_Exchanged.ok k, impl_Exchanged.code⟩, ⟨laws_eqIntS.ok k, laws_eqIntS.code⟩, ⟨laws_markIntS.ok k, laws_markIntS.code⟩, ⟨laws_heldIntS.ok k, laws_heldIntS.code⟩, trivial⟩
theorem laws_FnExactExchanged.ok (k : Nat) : Contract Try.prog 3 (laws_FnExactExchanged.sem k) := fn_ok (C := laws_FnExactExchanged.C k) (mkC_ok tys_ok (laws_FnExactExchanged.env k) mix) Try.func3 rfl rfl (laws_FnExactExchanged.e k)
theorem laws_FnExactExchanged.code : CallOk Try.prog 3 := ⟨_, Try.func3, rfl, by kernel_rfl⟩
/-! loop.example/wholecheck/spec.OrderWith -/
noncomputable def spec_OrderWith.ps : S := (.pair (.slice false I) (.pair (.slice false I) .unit))
noncomputable def spec_OrderWith.sem (k : Nat) : Sem := mkSem [.sh, .sh] 1 (.slice false I) (.ow .sh) .unit (.pair (.slice false I) (.pair (.slice false I) .unit)) fun x => spec_OrderWith.f k x.1 x.2.1
noncomputable def spec_OrderWith.C (k : Nat) : Ctx := mkC tys [(40, spec_OrderValid.sem k)] (hintOf []) (headOf [(5, [(0, none), (1, none), (5, none), (6, none)])]) [] (ordOf []) (hidOf []) (jnOf [])
noncomputable def spec_OrderWith.K0 (k : Nat) : Ex → List Slot → Option ((List Int) × Unit) := kRet (spec_OrderWith.C k) Try.f15 1 (.slice false I) (.ow .sh) [.sh, .sh] .unit
noncomputable def spec_OrderWith.L5 (k : Nat) (p0 : (List Int)) (p1 : (List Int)) (n : Nat) (v5_5 : (List Int)) (v6_5 : Int) : Option ((List Int) × Unit) :=
  loopN ((spec_OrderWith.C k).head 5) (evalCode (spec_OrderWith.C k) k (codeAt [1, 1, 1, 0, 1, 0, 0] (body Try.f15))) n (st 38 [(6, .val I .sh v6_5), (5, .val (.slice false I) (.ow .sh) v5_5), (1, .val (.slice false I) .sh p1), (0, .val (.slice false I) .sh p0)]) (kAt (spec_OrderWith.C k) k [1, 1, 1, 0, 1, 0] (body Try.f15) [] (spec_OrderWith.K0 k))
theorem spec_OrderWith.s5 (k : Nat) (p0 : (List Int)) (p1 : (List Int)) (n : Nat) (v5_5 : (List Int)) (v6_5 : Int) : spec_OrderWith.L5 k p0 p1 (n + 1) v5_5 v6_5 = spec_OrderWith.b5 k (spec_OrderWith.L5 k p0 p1 n) p0 p1 v5_5 v6_5 := by kernel_rfl
theorem spec_OrderWith.t5 (k : Nat) (p0 : (List Int)) (p1 : (List Int)) : ∀ n, spec_OrderWith.L5 k p0 p1 n = spec_OrderWith.l5 k p0 p1 n := by
  intro n; induction n with
  | zero => rfl
  | succ n ih => funext v5_5 v6_5; rw [spec_OrderWith.s5]; rw [ih]; rfl
theorem spec_OrderWith.s (k : Nat) (x : El spec_OrderWith.ps) : evalFn (spec_OrderWith.C k) k Try.f15 1 (.slice false I) (.ow .sh) [.sh, .sh] .unit (unp spec_OrderWith.ps [.sh, .sh] x) = spec_OrderWith.bt k (spec_OrderWith.L5 k x.1 x.2.1 k) x.1 x.2.1 := by kernel_rfl
theorem spec_OrderWith.e (k : Nat) (x : El spec_OrderWith.ps) : evalFn (spec_OrderWith.C k) k Try.f15 1 (.slice false I) (.ow .sh) [.sh, .sh] .unit (unp spec_OrderWith.ps [.sh, .sh] x) = spec_OrderWith.f k x.1 x.2.1 := by
  rw [spec_OrderWith.s]; rw [spec_OrderWith.t5 k x.1 x.2.1 k]; rfl
theorem spec_OrderWith.env (k : Nat) : EnvOk Try.prog [(40, spec_OrderValid.sem k)] := ⟨⟨spec_OrderValid.ok k, spec_OrderValid.code⟩, trivial⟩
theorem spec_OrderWith.ok (k : Nat) : Contract Try.prog 15 (spec_OrderWith.sem k) := fn_ok (C := spec_OrderWith.C k) (mkC_ok tys_ok (spec_OrderWith.env k) mix) Try.func15 rfl rfl (spec_OrderWith.e k)
theorem spec_OrderWith.code : CallOk Try.prog 15 := ⟨_, Try.func15, rfl, by kernel_rfl⟩
/-! loop.example/wholecheck/impl.OrderWith -/
noncomputable def impl_OrderWith.ps : S := (.pair (.slice false I) (.pair (.slice false I) .unit))
noncomputable def impl_OrderWith.sem (k : Nat) : Sem := mkSem [.sh, .sh] 1 (.slice false I) (.ow .sh) .unit (.pair (.slice false I) (.pair (.slice false I) .unit)) fun x => impl_OrderWith.f k x.1 x.2.1
noncomputable def impl_OrderWith.C (k : Nat) : Ctx := mkC tys [(41, impl_OrderValid.sem k), (43, impl_exchanged.sem k), (42, impl_clone_int.sem k)] (hintOf []) (headOf []) [] (ordOf []) (hidOf []) (jnOf [])
noncomputable def impl_OrderWith.K0 (k : Nat) : Ex → List Slot → Option ((List Int) × Unit) := kRet (impl_OrderWith.C k) Try.f16 1 (.slice false I) (.ow .sh) [.sh, .sh] .unit
theorem impl_OrderWith.s (k : Nat) (x : El impl_OrderWith.ps) : evalFn (impl_OrderWith.C k) k Try.f16 1 (.slice false I) (.ow .sh) [.sh, .sh] .unit (unp impl_OrderWith.ps [.sh, .sh] x) = impl_OrderWith.bt k x.1 x.2.1 := by kernel_rfl
theorem impl_OrderWith.e (k : Nat) (x : El impl_OrderWith.ps) : evalFn (impl_OrderWith.C k) k Try.f16 1 (.slice false I) (.ow .sh) [.sh, .sh] .unit (unp impl_OrderWith.ps [.sh, .sh] x) = impl_OrderWith.f k x.1 x.2.1 := by
  rw [impl_OrderWith.s]; rfl
theorem impl_OrderWith.env (k : Nat) : EnvOk Try.prog [(41, impl_OrderValid.sem k), (43, impl_exchanged.sem k), (42, impl_clone_int.sem k)] := ⟨⟨impl_OrderValid.ok k, impl_OrderValid.code⟩, ⟨impl_exchanged.ok k, impl_exchanged.code⟩, ⟨impl_clone_int.ok k, impl_clone_int.code⟩, trivial⟩
theorem impl_OrderWith.ok (k : Nat) : Contract Try.prog 16 (impl_OrderWith.sem k) := fn_ok (C := impl_OrderWith.C k) (mkC_ok tys_ok (impl_OrderWith.env k) mix) Try.func16 rfl rfl (impl_OrderWith.e k)
theorem impl_OrderWith.code : CallOk Try.prog 16 := ⟨_, Try.func16, rfl, by kernel_rfl⟩
/-! loop.example/wholecheck/laws.FnExactOrderWith -/
noncomputable def laws_FnExactOrderWith.ps : S := (.pair (.slice false I) (.pair (.slice false I) .unit))
noncomputable def laws_FnExactOrderWith.sem (k : Nat) : Sem := mkSem [.sh, .sh] 1 .bool .sh .unit (.pair (.slice false I) (.pair (.slice false I) .unit)) fun x => laws_FnExactOrderWith.f k x.1 x.2.1
noncomputable def laws_FnExactOrderWith.C (k : Nat) : Ctx := mkC tys [(10, laws_toIntS.sem k), (15, spec_OrderWith.sem k), (16, impl_OrderWith.sem k), (12, laws_eqIntS.sem k), (13, laws_markIntS.sem k), (14, laws_heldIntS.sem k)] (hintOf []) (headOf []) [] (ordOf []) (hidOf []) (jnOf [])
noncomputable def laws_FnExactOrderWith.K0 (k : Nat) : Ex → List Slot → Option (Bool × Unit) := kRet (laws_FnExactOrderWith.C k) Try.f4 1 .bool .sh [.sh, .sh] .unit
theorem laws_FnExactOrderWith.s (k : Nat) (x : El laws_FnExactOrderWith.ps) : evalFn (laws_FnExactOrderWith.C k) k Try.f4 1 .bool .sh [.sh, .sh] .unit (unp laws_FnExactOrderWith.ps [.sh, .sh] x) = laws_FnExactOrderWith.bt k x.1 x.2.1 := by kernel_rfl
theorem laws_FnExactOrderWith.e (k : Nat) (x : El laws_FnExactOrderWith.ps) : evalFn (laws_FnExactOrderWith.C k) k Try.f4 1 .bool .sh [.sh, .sh] .unit (unp laws_FnExactOrderWith.ps [.sh, .sh] x) = laws_FnExactOrderWith.f k x.1 x.2.1 := by
  rw [laws_FnExactOrderWith.s]; rfl
theorem laws_FnExactOrderWith.env (k : Nat) : EnvOk Try.prog [(10, laws_toIntS.sem k), (15, spec_OrderWith.sem k), (16, impl_OrderWith.sem k), (12, laws_eqIntS.sem k), (13, laws_markIntS.sem k), (14, laws_heldIntS.sem k)] := ⟨⟨laws_toIntS.ok k, laws_toIntS.code⟩, ⟨spec_OrderWith.ok k, spec_OrderWith.code⟩, ⟨impl_OrderWith.ok k, impl_OrderWith.code⟩, ⟨laws_eqIntS.ok k, laws_eqIntS.code⟩, ⟨laws_markIntS.ok k, laws_markIntS.code⟩, ⟨laws_heldIntS.ok k, laws_heldIntS.code⟩, trivial⟩
theorem laws_FnExactOrderWith.ok (k : Nat) : Contract Try.prog 4 (laws_FnExactOrderWith.sem k) := fn_ok (C := laws_FnExactOrderWith.C k) (mkC_ok tys_ok (laws_FnExactOrderWith.env k) mix) Try.func4 rfl rfl (laws_FnExactOrderWith.e k)
theorem laws_FnExactOrderWith.code : CallOk Try.prog 4 := ⟨_, Try.func4, rfl, by kernel_rfl⟩
/-! loop.example/wholecheck/spec.l40Open -/
noncomputable def spec_l40Open.ps : S := (.pair (.slice false (.int .u8)) .unit)
noncomputable def spec_l40Open.sem (k : Nat) : Sem := mkSem [.sh] 1 (.ptr (.agg (.pair (.slice false (.int .u8)) I))) (.ow (.ag (.pr .sh .sh))) .unit (.pair (.slice false (.int .u8)) .unit) fun x => spec_l40Open.f k x.1
noncomputable def spec_l40Open.C (k : Nat) : Ctx := mkC tys [] (hintOf []) (headOf []) [] (ordOf []) (hidOf []) (jnOf [])
noncomputable def spec_l40Open.K0 (k : Nat) : Ex → List Slot → Option (((List Int) × Int) × Unit) := kRet (spec_l40Open.C k) Try.f44 1 (.ptr (.agg (.pair (.slice false (.int .u8)) I))) (.ow (.ag (.pr .sh .sh))) [.sh] .unit
theorem spec_l40Open.s (k : Nat) (x : El spec_l40Open.ps) : evalFn (spec_l40Open.C k) k Try.f44 1 (.ptr (.agg (.pair (.slice false (.int .u8)) I))) (.ow (.ag (.pr .sh .sh))) [.sh] .unit (unp spec_l40Open.ps [.sh] x) = spec_l40Open.bt k x.1 := by kernel_rfl
theorem spec_l40Open.e (k : Nat) (x : El spec_l40Open.ps) : evalFn (spec_l40Open.C k) k Try.f44 1 (.ptr (.agg (.pair (.slice false (.int .u8)) I))) (.ow (.ag (.pr .sh .sh))) [.sh] .unit (unp spec_l40Open.ps [.sh] x) = spec_l40Open.f k x.1 := by
  rw [spec_l40Open.s]; rfl
theorem spec_l40Open.env (k : Nat) : EnvOk Try.prog [] := trivial
theorem spec_l40Open.ok (k : Nat) : Contract Try.prog 44 (spec_l40Open.sem k) := fn_ok (C := spec_l40Open.C k) (mkC_ok tys_ok (spec_l40Open.env k) mix) Try.func44 rfl rfl (spec_l40Open.e k)
theorem spec_l40Open.code : CallOk Try.prog 44 := ⟨_, Try.func44, rfl, by kernel_rfl⟩
/-! (*loop.example/wholecheck/spec.l40Rd).pick -/
noncomputable def spec_l40Rd_pick.ps : S := (.pair (.ptr (.agg (.pair (.slice false (.int .u8)) I))) (.pair I .unit))
noncomputable def spec_l40Rd_pick.sem (k : Nat) : Sem := mkSem [.loan (.ow (.ag (.pr .sh .sh))), .sh] 1 I .sh (.ptr (.agg (.pair (.slice false (.int .u8)) I))) (.pair (.ptr (.agg (.pair (.slice false (.int .u8)) I))) (.pair I .unit)) fun x => spec_l40Rd_pick.f k x.1 x.2.1
noncomputable def spec_l40Rd_pick.C (k : Nat) : Ctx := mkC tys [] (hintOf []) (headOf []) [0] (ordOf [(7, [0, 1, 2, 3, 4, 5, 6, 7, 8, 9, 10, 11, 12, 13, 14, 15, 16, 17, 18, 19, 20, 21, 22, 23, 24, 25, 26, 27, 28, 29, 30, 31, 32, 33, 34, 35, 36, 37, 38, 39, 40, 41, 42, 43, 44, 45])]) (hidOf []) (jnOf [])
noncomputable def spec_l40Rd_pick.K0 (k : Nat) : Ex → List Slot → Option (Int × ((List Int) × Int)) := kRet (spec_l40Rd_pick.C k) Try.f82 1 I .sh [.loan (.ow (.ag (.pr .sh .sh))), .sh] (.ptr (.agg (.pair (.slice false (.int .u8)) I)))
theorem spec_l40Rd_pick.s (k : Nat) (x : El spec_l40Rd_pick.ps) : evalFn (spec_l40Rd_pick.C k) k Try.f82 1 I .sh [.loan (.ow (.ag (.pr .sh .sh))), .sh] (.ptr (.agg (.pair (.slice false (.int .u8)) I))) (unp spec_l40Rd_pick.ps [.loan (.ow (.ag (.pr .sh .sh))), .sh] x) = spec_l40Rd_pick.bt k x.1 x.2.1 := by kernel_rfl
theorem spec_l40Rd_pick.e (k : Nat) (x : El spec_l40Rd_pick.ps) : evalFn (spec_l40Rd_pick.C k) k Try.f82 1 I .sh [.loan (.ow (.ag (.pr .sh .sh))), .sh] (.ptr (.agg (.pair (.slice false (.int .u8)) I))) (unp spec_l40Rd_pick.ps [.loan (.ow (.ag (.pr .sh .sh))), .sh] x) = spec_l40Rd_pick.f k x.1 x.2.1 := by
  rw [spec_l40Rd_pick.s]; rfl
theorem spec_l40Rd_pick.env (k : Nat) : EnvOk Try.prog [] := trivial
theorem spec_l40Rd_pick.ok (k : Nat) : Contract Try.prog 82 (spec_l40Rd_pick.sem k) := fn_ok (C := spec_l40Rd_pick.C k) (mkC_ok tys_ok (spec_l40Rd_pick.env k) mix) Try.func82 rfl rfl (spec_l40Rd_pick.e k)
theorem spec_l40Rd_pick.code : CallOk Try.prog 82 := ⟨_, Try.func82, rfl, by kernel_rfl⟩
/-! (*loop.example/wholecheck/spec.l40Rd).num -/
noncomputable def spec_l40Rd_num.ps : S := (.pair (.ptr (.agg (.pair (.slice false (.int .u8)) I))) (.pair (.slice false I) .unit))
noncomputable def spec_l40Rd_num.sem (k : Nat) : Sem := mkSem [.loan (.ow (.ag (.pr .sh .sh))), .sh] 1 I .sh (.ptr (.agg (.pair (.slice false (.int .u8)) I))) (.pair (.ptr (.agg (.pair (.slice false (.int .u8)) I))) (.pair (.slice false I) .unit)) fun x => spec_l40Rd_num.f k x.1 x.2.1
noncomputable def spec_l40Rd_num.C (k : Nat) : Ctx := mkC tys [(82, spec_l40Rd_pick.sem k)] (hintOf []) (headOf []) [0] (ordOf []) (hidOf []) (jnOf [])
noncomputable def spec_l40Rd_num.K0 (k : Nat) : Ex → List Slot → Option (Int × ((List Int) × Int)) := kRet (spec_l40Rd_num.C k) Try.f45 1 I .sh [.loan (.ow (.ag (.pr .sh .sh))), .sh] (.ptr (.agg (.pair (.slice false (.int .u8)) I)))
theorem spec_l40Rd_num.s (k : Nat) (x : El spec_l40Rd_num.ps) : evalFn (spec_l40Rd_num.C k) k Try.f45 1 I .sh [.loan (.ow (.ag (.pr .sh .sh))), .sh] (.ptr (.agg (.pair (.slice false (.int .u8)) I))) (unp spec_l40Rd_num.ps [.loan (.ow (.ag (.pr .sh .sh))), .sh] x) = spec_l40Rd_num.bt k x.1 x.2.1 := by kernel_rfl
theorem spec_l40Rd_num.e (k : Nat) (x : El spec_l40Rd_num.ps) : evalFn (spec_l40Rd_num.C k) k Try.f45 1 I .sh [.loan (.ow (.ag (.pr .sh .sh))), .sh] (.ptr (.agg (.pair (.slice false (.int .u8)) I))) (unp spec_l40Rd_num.ps [.loan (.ow (.ag (.pr .sh .sh))), .sh] x) = spec_l40Rd_num.f k x.1 x.2.1 := by
  rw [spec_l40Rd_num.s]; rfl
theorem spec_l40Rd_num.env (k : Nat) : EnvOk Try.prog [(82, spec_l40Rd_pick.sem k)] := ⟨⟨spec_l40Rd_pick.ok k, spec_l40Rd_pick.code⟩, trivial⟩
theorem spec_l40Rd_num.ok (k : Nat) : Contract Try.prog 45 (spec_l40Rd_num.sem k) := fn_ok (C := spec_l40Rd_num.C k) (mkC_ok tys_ok (spec_l40Rd_num.env k) mix) Try.func45 rfl rfl (spec_l40Rd_num.e k)
theorem spec_l40Rd_num.code : CallOk Try.prog 45 := ⟨_, Try.func45, rfl, by kernel_rfl⟩
/-! loop.example/wholecheck/spec.l1Number -/
noncomputable def spec_l1Number.ps : S := (.pair (.ptr (.agg (.pair (.slice false (.int .u8)) I))) .unit)
noncomputable def spec_l1Number.sem (k : Nat) : Sem := mkSem [.loan (.ow (.ag (.pr .sh .sh)))] 1 I .sh (.ptr (.agg (.pair (.slice false (.int .u8)) I))) (.pair (.ptr (.agg (.pair (.slice false (.int .u8)) I))) .unit) fun x => spec_l1Number.f k x.1
noncomputable def spec_l1Number.C (k : Nat) : Ctx := mkC tys [(82, spec_l40Rd_pick.sem k), (45, spec_l40Rd_num.sem k)] (hintOf []) (headOf []) [0] (ordOf []) (hidOf []) (jnOf [])
noncomputable def spec_l1Number.K0 (k : Nat) : Ex → List Slot → Option (Int × ((List Int) × Int)) := kRet (spec_l1Number.C k) Try.f83 1 I .sh [.loan (.ow (.ag (.pr .sh .sh)))] (.ptr (.agg (.pair (.slice false (.int .u8)) I)))
theorem spec_l1Number.s (k : Nat) (x : El spec_l1Number.ps) : evalFn (spec_l1Number.C k) k Try.f83 1 I .sh [.loan (.ow (.ag (.pr .sh .sh)))] (.ptr (.agg (.pair (.slice false (.int .u8)) I))) (unp spec_l1Number.ps [.loan (.ow (.ag (.pr .sh .sh)))] x) = spec_l1Number.bt k x.1 := by kernel_rfl
theorem spec_l1Number.e (k : Nat) (x : El spec_l1Number.ps) : evalFn (spec_l1Number.C k) k Try.f83 1 I .sh [.loan (.ow (.ag (.pr .sh .sh)))] (.ptr (.agg (.pair (.slice false (.int .u8)) I))) (unp spec_l1Number.ps [.loan (.ow (.ag (.pr .sh .sh)))] x) = spec_l1Number.f k x.1 := by
  rw [spec_l1Number.s]; rfl
theorem spec_l1Number.env (k : Nat) : EnvOk Try.prog [(82, spec_l40Rd_pick.sem k), (45, spec_l40Rd_num.sem k)] := ⟨⟨spec_l40Rd_pick.ok k, spec_l40Rd_pick.code⟩, ⟨spec_l40Rd_num.ok k, spec_l40Rd_num.code⟩, trivial⟩
theorem spec_l1Number.ok (k : Nat) : Contract Try.prog 83 (spec_l1Number.sem k) := fn_ok (C := spec_l1Number.C k) (mkC_ok tys_ok (spec_l1Number.env k) mix) Try.func83 rfl rfl (spec_l1Number.e k)
theorem spec_l1Number.code : CallOk Try.prog 83 := ⟨_, Try.func83, rfl, by kernel_rfl⟩
/-! loop.example/wholecheck/spec.l1Numbers -/
noncomputable def spec_l1Numbers.ps : S := (.pair (.ptr (.agg (.pair (.slice false (.int .u8)) I))) (.pair I .unit))
noncomputable def spec_l1Numbers.sem (k : Nat) : Sem := mkSem [.loan (.ow (.ag (.pr .sh .sh))), .sh] 1 (.slice false I) (.ow .sh) (.ptr (.agg (.pair (.slice false (.int .u8)) I))) (.pair (.ptr (.agg (.pair (.slice false (.int .u8)) I))) (.pair I .unit)) fun x => spec_l1Numbers.f k x.1 x.2.1
noncomputable def spec_l1Numbers.C (k : Nat) : Ctx := mkC tys [(83, spec_l1Number.sem k), (82, spec_l40Rd_pick.sem k), (45, spec_l40Rd_num.sem k)] (hintOf []) (headOf [(3, [(0, none), (1, none), (5, none), (6, none)])]) [0] (ordOf []) (hidOf []) (jnOf [])
noncomputable def spec_l1Numbers.K0 (k : Nat) : Ex → List Slot → Option ((List Int) × ((List Int) × Int)) := kRet (spec_l1Numbers.C k) Try.f46 1 (.slice false I) (.ow .sh) [.loan (.ow (.ag (.pr .sh .sh))), .sh] (.ptr (.agg (.pair (.slice false (.int .u8)) I)))
noncomputable def spec_l1Numbers.L3 (k : Nat) (p1 : Int) (n : Nat) (v0_3 : ((List Int) × Int)) (v5_3 : (List Int)) (v6_3 : Int) : Option ((List Int) × ((List Int) × Int)) :=
  loopN ((spec_l1Numbers.C k).head 3) (evalCode (spec_l1Numbers.C k) k (codeAt [1, 1, 0, 1, 0, 0] (body Try.f46))) n (st 31 [(6, .val I .sh v6_3), (5, .val (.slice false I) (.ow .sh) v5_3), (1, .val I .sh p1), (0, .val (.ptr (.agg (.pair (.slice false (.int .u8)) I))) (.ow (.ag (.pr .sh .sh))) v0_3)]) (kAt (spec_l1Numbers.C k) k [1, 1, 0, 1, 0] (body Try.f46) [] (spec_l1Numbers.K0 k))
theorem spec_l1Numbers.s3 (k : Nat) (p1 : Int) (n : Nat) (v0_3 : ((List Int) × Int)) (v5_3 : (List Int)) (v6_3 : Int) : spec_l1Numbers.L3 k p1 (n + 1) v0_3 v5_3 v6_3 = spec_l1Numbers.b3 k (spec_l1Numbers.L3 k p1 n) p1 v0_3 v5_3 v6_3 := by kernel_rfl
theorem spec_l1Numbers.t3 (k : Nat) (p1 : Int) : ∀ n, spec_l1Numbers.L3 k p1 n = spec_l1Numbers.l3 k p1 n := by
  intro n; induction n with
  | zero => rfl
  | succ n ih => funext v0_3 v5_3 v6_3; rw [spec_l1Numbers.s3]; rw [ih]; rfl
theorem spec_l1Numbers.s (k : Nat) (x : El spec_l1Numbers.ps) : evalFn (spec_l1Numbers.C k) k Try.f46 1 (.slice false I) (.ow .sh) [.loan (.ow (.ag (.pr .sh .sh))), .sh] (.ptr (.agg (.pair (.slice false (.int .u8)) I))) (unp spec_l1Numbers.ps [.loan (.ow (.ag (.pr .sh .sh))), .sh] x) = spec_l1Numbers.bt k (spec_l1Numbers.L3 k x.2.1 k) x.1 x.2.1 := by kernel_rfl
theorem spec_l1Numbers.e (k : Nat) (x : El spec_l1Numbers.ps) : evalFn (spec_l1Numbers.C k) k Try.f46 1 (.slice false I) (.ow .sh) [.loan (.ow (.ag (.pr .sh .sh))), .sh] (.ptr (.agg (.pair (.slice false (.int .u8)) I))) (unp spec_l1Numbers.ps [.loan (.ow (.ag (.pr .sh .sh))), .sh] x) = spec_l1Numbers.f k x.1 x.2.1 := by
  rw [spec_l1Numbers.s]; rw [spec_l1Numbers.t3 k x.2.1 k]; rfl
theorem spec_l1Numbers.env (k : Nat) : EnvOk Try.prog [(83, spec_l1Number.sem k), (82, spec_l40Rd_pick.sem k), (45, spec_l40Rd_num.sem k)] := ⟨⟨spec_l1Number.ok k, spec_l1Number.code⟩, ⟨spec_l40Rd_pick.ok k, spec_l40Rd_pick.code⟩, ⟨spec_l40Rd_num.ok k, spec_l40Rd_num.code⟩, trivial⟩
theorem spec_l1Numbers.ok (k : Nat) : Contract Try.prog 46 (spec_l1Numbers.sem k) := fn_ok (C := spec_l1Numbers.C k) (mkC_ok tys_ok (spec_l1Numbers.env k) mix) Try.func46 rfl rfl (spec_l1Numbers.e k)
theorem spec_l1Numbers.code : CallOk Try.prog 46 := ⟨_, Try.func46, rfl, by kernel_rfl⟩
/-! loop.example/wholecheck/spec.l9Plain -/
noncomputable def spec_l9Plain.ps : S := (.pair I .unit)
noncomputable def spec_l9Plain.sem (k : Nat) : Sem := mkSem [.sh] 1 (.slice false I) (.ow .sh) .unit (.pair I .unit) fun x => spec_l9Plain.f k x.1
noncomputable def spec_l9Plain.C (k : Nat) : Ctx := mkC tys [] (hintOf []) (headOf [(3, [(0, none), (3, none), (4, none)])]) [] (ordOf []) (hidOf []) (jnOf [])
noncomputable def spec_l9Plain.K0 (k : Nat) : Ex → List Slot → Option ((List Int) × Unit) := kRet (spec_l9Plain.C k) Try.f84 1 (.slice false I) (.ow .sh) [.sh] .unit
noncomputable def spec_l9Plain.L3 (k : Nat) (p0 : Int) (n : Nat) (v3_3 : (List Int)) (v4_3 : Int) : Option ((List Int) × Unit) :=
  loopN ((spec_l9Plain.C k).head 3) (evalCode (spec_l9Plain.C k) k (codeAt [1, 1, 0, 1, 0, 0] (body Try.f84))) n (st 16 [(4, .val I .sh v4_3), (3, .val (.slice false I) (.ow .sh) v3_3), (0, .val I .sh p0)]) (kAt (spec_l9Plain.C k) k [1, 1, 0, 1, 0] (body Try.f84) [] (spec_l9Plain.K0 k))
theorem spec_l9Plain.s3 (k : Nat) (p0 : Int) (n : Nat) (v3_3 : (List Int)) (v4_3 : Int) : spec_l9Plain.L3 k p0 (n + 1) v3_3 v4_3 = spec_l9Plain.b3 k (spec_l9Plain.L3 k p0 n) p0 v3_3 v4_3 := by kernel_rfl
theorem spec_l9Plain.t3 (k : Nat) (p0 : Int) : ∀ n, spec_l9Plain.L3 k p0 n = spec_l9Plain.l3 k p0 n := by
  intro n; induction n with
  | zero => rfl
  | succ n ih => funext v3_3 v4_3; rw [spec_l9Plain.s3]; rw [ih]; rfl
theorem spec_l9Plain.s (k : Nat) (x : El spec_l9Plain.ps) : evalFn (spec_l9Plain.C k) k Try.f84 1 (.slice false I) (.ow .sh) [.sh] .unit (unp spec_l9Plain.ps [.sh] x) = spec_l9Plain.bt k (spec_l9Plain.L3 k x.1 k) x.1 := by kernel_rfl
theorem spec_l9Plain.e (k : Nat) (x : El spec_l9Plain.ps) : evalFn (spec_l9Plain.C k) k Try.f84 1 (.slice false I) (.ow .sh) [.sh] .unit (unp spec_l9Plain.ps [.sh] x) = spec_l9Plain.f k x.1 := by
  rw [spec_l9Plain.s]; rw [spec_l9Plain.t3 k x.1 k]; rfl
theorem spec_l9Plain.env (k : Nat) : EnvOk Try.prog [] := trivial
theorem spec_l9Plain.ok (k : Nat) : Contract Try.prog 84 (spec_l9Plain.sem k) := fn_ok (C := spec_l9Plain.C k) (mkC_ok tys_ok (spec_l9Plain.env k) mix) Try.func84 rfl rfl (spec_l9Plain.e k)
theorem spec_l9Plain.code : CallOk Try.prog 84 := ⟨_, Try.func84, rfl, by kernel_rfl⟩
/-! loop.example/wholecheck/spec.l9Order -/
noncomputable def spec_l9Order.ps : S := (.pair (.ptr (.agg (.pair (.slice false (.int .u8)) I))) (.pair I .unit))
noncomputable def spec_l9Order.sem (k : Nat) : Sem := mkSem [.loan (.ow (.ag (.pr .sh .sh))), .sh] 1 (.slice false I) (.ow .sh) (.ptr (.agg (.pair (.slice false (.int .u8)) I))) (.pair (.ptr (.agg (.pair (.slice false (.int .u8)) I))) (.pair I .unit)) fun x => spec_l9Order.f k x.1 x.2.1
noncomputable def spec_l9Order.C (k : Nat) : Ctx := mkC tys [(84, spec_l9Plain.sem k), (82, spec_l40Rd_pick.sem k), (45, spec_l40Rd_num.sem k)] (hintOf []) (headOf [(3, [(0, none), (1, none), (5, none), (6, none)])]) [0] (ordOf []) (hidOf []) (jnOf [])
noncomputable def spec_l9Order.K0 (k : Nat) : Ex → List Slot → Option ((List Int) × ((List Int) × Int)) := kRet (spec_l9Order.C k) Try.f47 1 (.slice false I) (.ow .sh) [.loan (.ow (.ag (.pr .sh .sh))), .sh] (.ptr (.agg (.pair (.slice false (.int .u8)) I)))
noncomputable def spec_l9Order.L3 (k : Nat) (p1 : Int) (n : Nat) (v0_3 : ((List Int) × Int)) (v5_3 : (List Int)) (v6_3 : Int) : Option ((List Int) × ((List Int) × Int)) :=
  loopN ((spec_l9Order.C k).head 3) (evalCode (spec_l9Order.C k) k (codeAt [1, 1, 0, 1, 0, 0] (body Try.f47))) n (st 59 [(6, .val I .sh v6_3), (5, .val (.slice false I) (.ow .sh) v5_3), (1, .val I .sh p1), (0, .val (.ptr (.agg (.pair (.slice false (.int .u8)) I))) (.ow (.ag (.pr .sh .sh))) v0_3)]) (kAt (spec_l9Order.C k) k [1, 1, 0, 1, 0] (body Try.f47) [] (spec_l9Order.K0 k))
theorem spec_l9Order.s3 (k : Nat) (p1 : Int) (n : Nat) (v0_3 : ((List Int) × Int)) (v5_3 : (List Int)) (v6_3 : Int) : spec_l9Order.L3 k p1 (n + 1) v0_3 v5_3 v6_3 = spec_l9Order.b3 k (spec_l9Order.L3 k p1 n) p1 v0_3 v5_3 v6_3 := by kernel_rfl
theorem spec_l9Order.t3 (k : Nat) (p1 : Int) : ∀ n, spec_l9Order.L3 k p1 n = spec_l9Order.l3 k p1 n := by
  intro n; induction n with
  | zero => rfl
  | succ n ih => funext v0_3 v5_3 v6_3; rw [spec_l9Order.s3]; rw [ih]; rfl
theorem spec_l9Order.s (k : Nat) (x : El spec_l9Order.ps) : evalFn (spec_l9Order.C k) k Try.f47 1 (.slice false I) (.ow .sh) [.loan (.ow (.ag (.pr .sh .sh))), .sh] (.ptr (.agg (.pair (.slice false (.int .u8)) I))) (unp spec_l9Order.ps [.loan (.ow (.ag (.pr .sh .sh))), .sh] x) = spec_l9Order.bt k (spec_l9Order.L3 k x.2.1 k) x.1 x.2.1 := by kernel_rfl
theorem spec_l9Order.e (k : Nat) (x : El spec_l9Order.ps) : evalFn (spec_l9Order.C k) k Try.f47 1 (.slice false I) (.ow .sh) [.loan (.ow (.ag (.pr .sh .sh))), .sh] (.ptr (.agg (.pair (.slice false (.int .u8)) I))) (unp spec_l9Order.ps [.loan (.ow (.ag (.pr .sh .sh))), .sh] x) = spec_l9Order.f k x.1 x.2.1 := by
  rw [spec_l9Order.s]; rw [spec_l9Order.t3 k x.2.1 k]; rfl
theorem spec_l9Order.env (k : Nat) : EnvOk Try.prog [(84, spec_l9Plain.sem k), (82, spec_l40Rd_pick.sem k), (45, spec_l40Rd_num.sem k)] := ⟨⟨spec_l9Plain.ok k, spec_l9Plain.code⟩, ⟨spec_l40Rd_pick.ok k, spec_l40Rd_pick.code⟩, ⟨spec_l40Rd_num.ok k, spec_l40Rd_num.code⟩, trivial⟩
theorem spec_l9Order.ok (k : Nat) : Contract Try.prog 47 (spec_l9Order.sem k) := fn_ok (C := spec_l9Order.C k) (mkC_ok tys_ok (spec_l9Order.env k) mix) Try.func47 rfl rfl (spec_l9Order.e k)
theorem spec_l9Order.code : CallOk Try.prog 47 := ⟨_, Try.func47, rfl, by kernel_rfl⟩
/-! loop.example/wholecheck/spec.DrawExchanged -/
noncomputable def spec_DrawExchanged.ps : S := (.pair (.slice false (.int .u8)) .unit)
noncomputable def spec_DrawExchanged.sem (k : Nat) : Sem := mkSem [.sh] 2 (.pair (.slice false I) (.slice false I)) (.pr (.ow .sh) (.ow .sh)) .unit (.pair (.slice false (.int .u8)) .unit) fun x => spec_DrawExchanged.f k x.1
noncomputable def spec_DrawExchanged.C (k : Nat) : Ctx := mkC tys [(44, spec_l40Open.sem k), (45, spec_l40Rd_num.sem k), (46, spec_l1Numbers.sem k), (47, spec_l9Order.sem k)] (hintOf []) (headOf []) [] (ordOf []) (hidOf []) (jnOf [])
noncomputable def spec_DrawExchanged.K0 (k : Nat) : Ex → List Slot → Option (((List Int) × (List Int)) × Unit) := kRet (spec_DrawExchanged.C k) Try.f17 2 (.pair (.slice false I) (.slice false I)) (.pr (.ow .sh) (.ow .sh)) [.sh] .unit
theorem spec_DrawExchanged.s (k : Nat) (x : El spec_DrawExchanged.ps) : evalFn (spec_DrawExchanged.C k) k Try.f17 2 (.pair (.slice false I) (.slice false I)) (.pr (.ow .sh) (.ow .sh)) [.sh] .unit (unp spec_DrawExchanged.ps [.sh] x) = spec_DrawExchanged.bt k x.1 := by kernel_rfl
theorem spec_DrawExchanged.e (k : Nat) (x : El spec_DrawExchanged.ps) : evalFn (spec_DrawExchanged.C k) k Try.f17 2 (.pair (.slice false I) (.slice false I)) (.pr (.ow .sh) (.ow .sh)) [.sh] .unit (unp spec_DrawExchanged.ps [.sh] x) = spec_DrawExchanged.f k x.1 := by
  rw [spec_DrawExchanged.s]; rfl
theorem spec_DrawExchanged.env (k : Nat) : EnvOk Try.prog [(44, spec_l40Open.sem k), (45, spec_l40Rd_num.sem k), (46, spec_l1Numbers.sem k), (47, spec_l9Order.sem k)] := ⟨⟨spec_l40Open.ok k, spec_l40Open.code⟩, ⟨spec_l40Rd_num.ok k, spec_l40Rd_num.code⟩, ⟨spec_l1Numbers.ok k, spec_l1Numbers.code⟩, ⟨spec_l9Order.ok k, spec_l9Order.code⟩, trivial⟩
theorem spec_DrawExchanged.ok (k : Nat) : Contract Try.prog 17 (spec_DrawExchanged.sem k) := fn_ok (C := spec_DrawExchanged.C k) (mkC_ok tys_ok (spec_DrawExchanged.env k) mix) Try.func17 rfl rfl (spec_DrawExchanged.e k)
theorem spec_DrawExchanged.code : CallOk Try.prog 17 := ⟨_, Try.func17, rfl, by kernel_rfl⟩
/-! loop.example/wholecheck/spec.DrawOrderWith -/
noncomputable def spec_DrawOrderWith.ps : S := (.pair (.slice false (.int .u8)) .unit)
noncomputable def spec_DrawOrderWith.sem (k : Nat) : Sem := mkSem [.sh] 2 (.pair (.slice false I) (.slice false I)) (.pr (.ow .sh) (.ow .sh)) .unit (.pair (.slice false (.int .u8)) .unit) fun x => spec_DrawOrderWith.f k x.1
noncomputable def spec_DrawOrderWith.C (k : Nat) : Ctx := mkC tys [(44, spec_l40Open.sem k), (45, spec_l40Rd_num.sem k), (47, spec_l9Order.sem k)] (hintOf []) (headOf []) [] (ordOf []) (hidOf []) (jnOf [])
noncomputable def spec_DrawOrderWith.K0 (k : Nat) : Ex → List Slot → Option (((List Int) × (List Int)) × Unit) := kRet (spec_DrawOrderWith.C k) Try.f18 2 (.pair (.slice false I) (.slice false I)) (.pr (.ow .sh) (.ow .sh)) [.sh] .unit
theorem spec_DrawOrderWith.s (k : Nat) (x : El spec_DrawOrderWith.ps) : evalFn (spec_DrawOrderWith.C k) k Try.f18 2 (.pair (.slice false I) (.slice false I)) (.pr (.ow .sh) (.ow .sh)) [.sh] .unit (unp spec_DrawOrderWith.ps [.sh] x) = spec_DrawOrderWith.bt k x.1 := by kernel_rfl
theorem spec_DrawOrderWith.e (k : Nat) (x : El spec_DrawOrderWith.ps) : evalFn (spec_DrawOrderWith.C k) k Try.f18 2 (.pair (.slice false I) (.slice false I)) (.pr (.ow .sh) (.ow .sh)) [.sh] .unit (unp spec_DrawOrderWith.ps [.sh] x) = spec_DrawOrderWith.f k x.1 := by
  rw [spec_DrawOrderWith.s]; rfl
theorem spec_DrawOrderWith.env (k : Nat) : EnvOk Try.prog [(44, spec_l40Open.sem k), (45, spec_l40Rd_num.sem k), (47, spec_l9Order.sem k)] := ⟨⟨spec_l40Open.ok k, spec_l40Open.code⟩, ⟨spec_l40Rd_num.ok k, spec_l40Rd_num.code⟩, ⟨spec_l9Order.ok k, spec_l9Order.code⟩, trivial⟩
theorem spec_DrawOrderWith.ok (k : Nat) : Contract Try.prog 18 (spec_DrawOrderWith.sem k) := fn_ok (C := spec_DrawOrderWith.C k) (mkC_ok tys_ok (spec_DrawOrderWith.env k) mix) Try.func18 rfl rfl (spec_DrawOrderWith.e k)
theorem spec_DrawOrderWith.code : CallOk Try.prog 18 := ⟨_, Try.func18, rfl, by kernel_rfl⟩
/-! loop.example/wholecheck/laws.wcInts -/
noncomputable def laws_wcInts.ps : S := (.pair (.slice false I) (.pair (.slice false I) .unit))
noncomputable def laws_wcInts.sem (k : Nat) : Sem := mkSem [.sh, .sh] 1 .bool .sh .unit (.pair (.slice false I) (.pair (.slice false I) .unit)) fun x => laws_wcInts.f k x.1 x.2.1
noncomputable def laws_wcInts.C (k : Nat) : Ctx := mkC tys [] (hintOf []) (headOf [(4, [(1, none), (12, none), (13, none), (14, none)])]) [] (ordOf []) (hidOf []) (jnOf [])
noncomputable def laws_wcInts.K0 (k : Nat) : Ex → List Slot → Option (Bool × Unit) := kRet (laws_wcInts.C k) Try.f19 1 .bool .sh [.sh, .sh] .unit
noncomputable def laws_wcInts.L4 (k : Nat) (p0 : (List Int)) (p1 : (List Int)) (n : Nat) (v14_4 : Int) : Option (Bool × Unit) :=
  loopN ((laws_wcInts.C k).head 4) (evalCode (laws_wcInts.C k) k (codeAt [1, 1, 0, 1, 0, 0] (body Try.f19))) n (st 26 [(14, .val I .sh v14_4), (13, .val I .sh ((p0.length : Int))), (12, .val (.slice false I) .sh p0), (1, .val (.slice false I) .sh p1)]) (kAt (laws_wcInts.C k) k [1, 1, 0, 1, 0] (body Try.f19) [] (laws_wcInts.K0 k))
theorem laws_wcInts.s4 (k : Nat) (p0 : (List Int)) (p1 : (List Int)) (n : Nat) (v14_4 : Int) : laws_wcInts.L4 k p0 p1 (n + 1) v14_4 = laws_wcInts.b4 k (laws_wcInts.L4 k p0 p1 n) p0 p1 v14_4 := by kernel_rfl
theorem laws_wcInts.t4 (k : Nat) (p0 : (List Int)) (p1 : (List Int)) : ∀ n, laws_wcInts.L4 k p0 p1 n = laws_wcInts.l4 k p0 p1 n := by
  intro n; induction n with
  | zero => rfl
  | succ n ih => funext v14_4; rw [laws_wcInts.s4]; rw [ih]; rfl
theorem laws_wcInts.s (k : Nat) (x : El laws_wcInts.ps) : evalFn (laws_wcInts.C k) k Try.f19 1 .bool .sh [.sh, .sh] .unit (unp laws_wcInts.ps [.sh, .sh] x) = laws_wcInts.bt k (laws_wcInts.L4 k x.1 x.2.1 k) x.1 x.2.1 := by kernel_rfl
theorem laws_wcInts.e (k : Nat) (x : El laws_wcInts.ps) : evalFn (laws_wcInts.C k) k Try.f19 1 .bool .sh [.sh, .sh] .unit (unp laws_wcInts.ps [.sh, .sh] x) = laws_wcInts.f k x.1 x.2.1 := by
  rw [laws_wcInts.s]; rw [laws_wcInts.t4 k x.1 x.2.1 k]; rfl
theorem laws_wcInts.env (k : Nat) : EnvOk Try.prog [] := trivial
theorem laws_wcInts.ok (k : Nat) : Contract Try.prog 19 (laws_wcInts.sem k) := fn_ok (C := laws_wcInts.C k) (mkC_ok tys_ok (laws_wcInts.env k) mix) Try.func19 rfl rfl (laws_wcInts.e k)
theorem laws_wcInts.code : CallOk Try.prog 19 := ⟨_, Try.func19, rfl, by kernel_rfl⟩
/-! loop.example/wholecheck/impl.OrderBack -/
noncomputable def impl_OrderBack.ps : S := (.pair (.slice false I) .unit)
noncomputable def impl_OrderBack.sem (k : Nat) : Sem := mkSem [.sh] 1 (.slice false I) (.ow .sh) .unit (.pair (.slice false I) .unit) fun x => impl_OrderBack.f k x.1
noncomputable def impl_OrderBack.C (k : Nat) : Ctx := mkC tys [(41, impl_OrderValid.sem k), (42, impl_clone_int.sem k)] (hintOf []) (headOf [(5, [(3, none), (14, none), (15, none), (16, none)])]) [] (ordOf []) (hidOf []) (jnOf [])
noncomputable def impl_OrderBack.K0 (k : Nat) : Ex → List Slot → Option ((List Int) × Unit) := kRet (impl_OrderBack.C k) Try.f20 1 (.slice false I) (.ow .sh) [.sh] .unit
noncomputable def impl_OrderBack.L5 (k : Nat) (p0 : (List Int)) (n : Nat) (v3_5 : (List Int)) (v16_5 : Int) : Option ((List Int) × Unit) :=
  loopN ((impl_OrderBack.C k).head 5) (evalCode (impl_OrderBack.C k) k (codeAt [1, 1, 1, 0, 1, 0, 0] (body Try.f20))) n (st 28 [(16, .val I .sh v16_5), (15, .val I .sh ((p0.length : Int))), (14, .val (.slice false I) .sh p0), (3, .val (.slice false I) (.ow .sh) v3_5)]) (kAt (impl_OrderBack.C k) k [1, 1, 1, 0, 1, 0] (body Try.f20) [] (impl_OrderBack.K0 k))
theorem impl_OrderBack.s5 (k : Nat) (p0 : (List Int)) (n : Nat) (v3_5 : (List Int)) (v16_5 : Int) : impl_OrderBack.L5 k p0 (n + 1) v3_5 v16_5 = impl_OrderBack.b5 k (impl_OrderBack.L5 k p0 n) p0 v3_5 v16_5 := by kernel_rfl
theorem impl_OrderBack.t5 (k : Nat) (p0 : (List Int)) : ∀ n, impl_OrderBack.L5 k p0 n = impl_OrderBack.l5 k p0 n := by
  intro n; induction n with
  | zero => rfl
  | succ n ih => funext v3_5 v16_5; rw [impl_OrderBack.s5]; rw [ih]; rfl
theorem impl_OrderBack.s (k : Nat) (x : El impl_OrderBack.ps) : evalFn (impl_OrderBack.C k) k Try.f20 1 (.slice false I) (.ow .sh) [.sh] .unit (unp impl_OrderBack.ps [.sh] x) = impl_OrderBack.bt k (impl_OrderBack.L5 k x.1 k) x.1 := by kernel_rfl
theorem impl_OrderBack.e (k : Nat) (x : El impl_OrderBack.ps) : evalFn (impl_OrderBack.C k) k Try.f20 1 (.slice false I) (.ow .sh) [.sh] .unit (unp impl_OrderBack.ps [.sh] x) = impl_OrderBack.f k x.1 := by
  rw [impl_OrderBack.s]; rw [impl_OrderBack.t5 k x.1 k]; rfl
theorem impl_OrderBack.env (k : Nat) : EnvOk Try.prog [(41, impl_OrderValid.sem k), (42, impl_clone_int.sem k)] := ⟨⟨impl_OrderValid.ok k, impl_OrderValid.code⟩, ⟨impl_clone_int.ok k, impl_clone_int.code⟩, trivial⟩
theorem impl_OrderBack.ok (k : Nat) : Contract Try.prog 20 (impl_OrderBack.sem k) := fn_ok (C := impl_OrderBack.C k) (mkC_ok tys_ok (impl_OrderBack.env k) mix) Try.func20 rfl rfl (impl_OrderBack.e k)
theorem impl_OrderBack.code : CallOk Try.prog 20 := ⟨_, Try.func20, rfl, by kernel_rfl⟩
/-! loop.example/wholecheck/laws.FnExchanged -/
noncomputable def laws_FnExchanged.ps : S := (.pair (.slice false (.int .u8)) .unit)
noncomputable def laws_FnExchanged.sem (k : Nat) : Sem := mkSem [.sh] 1 .bool .sh .unit (.pair (.slice false (.int .u8)) .unit) fun x => laws_FnExchanged.f k x.1
noncomputable def laws_FnExchanged.C (k : Nat) : Ctx := mkC tys [(17, spec_DrawExchanged.sem k), (18, spec_DrawOrderWith.sem k), (11, impl_Exchanged.sem k), (16, impl_OrderWith.sem k), (9, spec_Exchanged.sem k), (19, laws_wcInts.sem k), (15, spec_OrderWith.sem k), (20, impl_OrderBack.sem k)] (hintOf [((10, 3), 2)]) (headOf []) [] (ordOf []) (hidOf []) (jnOf [(13, [(3, none), (4, none), (7, none)])])
noncomputable def laws_FnExchanged.K0 (k : Nat) : Ex → List Slot → Option (Bool × Unit) := kRet (laws_FnExchanged.C k) Try.f5 1 .bool .sh [.sh] .unit
noncomputable def laws_FnExchanged.Lj13 (k : Nat) (n : Nat) (v3_j13 : (List Int)) (v4_j13 : (List Int)) (v7_j13 : (List Int)) : Option (Bool × Unit) :=
  loopN ([(3, none), (4, none), (7, none)]) (fun σ _ => evalCode (laws_FnExchanged.C k) k (codeAt [1, 1, 1, 1, 1, 1, 1, 1] (body Try.f5)) σ (kAt (laws_FnExchanged.C k) k [1, 1, 1, 1, 1, 1, 1] (body Try.f5) [] (laws_FnExchanged.K0 k))) n (st 71 [(7, .val (.slice false I) (.ow .sh) v7_j13), (4, .val (.slice false I) (.ow .sh) v4_j13), (3, .val (.slice false I) (.ow .sh) v3_j13)]) (kAt (laws_FnExchanged.C k) k [1, 1, 1, 1, 1, 1, 1] (body Try.f5) [] (laws_FnExchanged.K0 k))
theorem laws_FnExchanged.sj13 (k : Nat) (n : Nat) (v3_j13 : (List Int)) (v4_j13 : (List Int)) (v7_j13 : (List Int)) : laws_FnExchanged.Lj13 k (n + 1) v3_j13 v4_j13 v7_j13 = laws_FnExchanged.bj13 k v3_j13 v4_j13 v7_j13 := by kernel_rfl
theorem laws_FnExchanged.tj13 (k : Nat) : ∀ n, laws_FnExchanged.Lj13 k n = laws_FnExchanged.lj13 k n := by
  intro n; induction n with
  | zero => rfl
  | succ n ih => funext v3_j13 v4_j13 v7_j13; rw [laws_FnExchanged.sj13]; rfl
theorem laws_FnExchanged.s (k : Nat) (x : El laws_FnExchanged.ps) : evalFn (laws_FnExchanged.C k) k Try.f5 1 .bool .sh [.sh] .unit (unp laws_FnExchanged.ps [.sh] x) = laws_FnExchanged.bt k (laws_FnExchanged.Lj13 k k) x.1 := by kernel_rfl
theorem laws_FnExchanged.e (k : Nat) (x : El laws_FnExchanged.ps) : evalFn (laws_FnExchanged.C k) k Try.f5 1 .bool .sh [.sh] .unit (unp laws_FnExchanged.ps [.sh] x) = laws_FnExchanged.f k x.1 := by
  rw [laws_FnExchanged.s]; rw [laws_FnExchanged.tj13 k k]; rfl
theorem laws_FnExchanged.env (k : Nat) : EnvOk Try.prog [(17, spec_DrawExchanged.sem k), (18, spec_DrawOrderWith.sem k), (11, impl_Exchanged.sem k), (16, impl_OrderWith.sem k), (9, spec_Exchanged.sem k), (19, laws_wcInts.sem k), (15, spec_OrderWith.sem k), (20, impl_OrderBack.sem k)] := ⟨⟨spec_DrawExchanged.ok k, spec_DrawExchanged.code⟩, ⟨spec_DrawOrderWith.ok k, spec_DrawOrderWith.code⟩, ⟨impl_Exchanged.ok k, impl_Exchanged.code⟩, ⟨impl_OrderWith.ok k, impl_OrderWith.code⟩, ⟨spec_Exchanged.ok k, spec_Exchanged.code⟩, ⟨laws_wcInts.ok k, laws_wcInts.code⟩, ⟨spec_OrderWith.ok k, spec_OrderWith.code⟩, ⟨impl_OrderBack.ok k, impl_OrderBack.code⟩, trivial⟩
theorem laws_FnExchanged.ok (k : Nat) : Contract Try.prog 5 (laws_FnExchanged.sem k) := fn_ok (C := laws_FnExchanged.C k) (mkC_ok tys_ok (laws_FnExchanged.env k) mix) Try.func5 rfl rfl (laws_FnExchanged.e k)
theorem laws_FnExchanged.code : CallOk Try.prog 5 := ⟨_, Try.func5, rfl, by kernel_rfl⟩
/-! loop.example/wholecheck/laws.szVarS -/
noncomputable def laws_szVarS.ps : S := (.pair (.slice false (.agg (.pair I (.pair I I)))) (.pair I .unit))
noncomputable def laws_szVarS.sem (k : Nat) : Sem := mkSem [.sh, .sh] 1 I .sh .unit (.pair (.slice false (.agg (.pair I (.pair I I)))) (.pair I .unit)) fun x => laws_szVarS.f k x.1 x.2.1
noncomputable def laws_szVarS.C (k : Nat) : Ctx := mkC tys [] (hintOf []) (headOf []) [] (ordOf []) (hidOf []) (jnOf [])
noncomputable def laws_szVarS.K0 (k : Nat) : Ex → List Slot → Option (Int × Unit) := kRet (laws_szVarS.C k) Try.f48 1 I .sh [.sh, .sh] .unit
theorem laws_szVarS.s (k : Nat) (x : El laws_szVarS.ps) : evalFn (laws_szVarS.C k) k Try.f48 1 I .sh [.sh, .sh] .unit (unp laws_szVarS.ps [.sh, .sh] x) = laws_szVarS.bt k x.1 x.2.1 := by kernel_rfl
theorem laws_szVarS.e (k : Nat) (x : El laws_szVarS.ps) : evalFn (laws_szVarS.C k) k Try.f48 1 I .sh [.sh, .sh] .unit (unp laws_szVarS.ps [.sh, .sh] x) = laws_szVarS.f k x.1 x.2.1 := by
  rw [laws_szVarS.s]; rfl
theorem laws_szVarS.env (k : Nat) : EnvOk Try.prog [] := trivial
theorem laws_szVarS.ok (k : Nat) : Contract Try.prog 48 (laws_szVarS.sem k) := fn_ok (C := laws_szVarS.C k) (mkC_ok tys_ok (laws_szVarS.env k) mix) Try.func48 rfl rfl (laws_szVarS.e k)
theorem laws_szVarS.code : CallOk Try.prog 48 := ⟨_, Try.func48, rfl, by kernel_rfl⟩
/-! loop.example/wholecheck/laws.szTermS -/
noncomputable def laws_szTermS.ps : S := (.pair (.slice false (.agg (.pair I (.pair I (.pair I I))))) (.pair I .unit))
noncomputable def laws_szTermS.sem (k : Nat) : Sem := mkSem [.sh, .sh] 1 I .sh .unit (.pair (.slice false (.agg (.pair I (.pair I (.pair I I))))) (.pair I .unit)) fun x => laws_szTermS.f k x.1 x.2.1
noncomputable def laws_szTermS.C (k : Nat) : Ctx := mkC tys [] (hintOf []) (headOf []) [] (ordOf []) (hidOf []) (jnOf [])
noncomputable def laws_szTermS.K0 (k : Nat) : Ex → List Slot → Option (Int × Unit) := kRet (laws_szTermS.C k) Try.f68 1 I .sh [.sh, .sh] .unit
theorem laws_szTermS.s (k : Nat) (x : El laws_szTermS.ps) : evalFn (laws_szTermS.C k) k Try.f68 1 I .sh [.sh, .sh] .unit (unp laws_szTermS.ps [.sh, .sh] x) = laws_szTermS.bt k x.1 x.2.1 := by kernel_rfl
theorem laws_szTermS.e (k : Nat) (x : El laws_szTermS.ps) : evalFn (laws_szTermS.C k) k Try.f68 1 I .sh [.sh, .sh] .unit (unp laws_szTermS.ps [.sh, .sh] x) = laws_szTermS.f k x.1 x.2.1 := by
  rw [laws_szTermS.s]; rfl
theorem laws_szTermS.env (k : Nat) : EnvOk Try.prog [] := trivial
theorem laws_szTermS.ok (k : Nat) : Contract Try.prog 68 (laws_szTermS.sem k) := fn_ok (C := laws_szTermS.C k) (mkC_ok tys_ok (laws_szTermS.env k) mix) Try.func68 rfl rfl (laws_szTermS.e k)
theorem laws_szTermS.code : CallOk Try.prog 68 := ⟨_, Try.func68, rfl, by kernel_rfl⟩
/-! loop.example/wholecheck/laws.szIntS -/
noncomputable def laws_szIntS.ps : S := (.pair (.slice false I) (.pair I .unit))
noncomputable def laws_szIntS.sem (k : Nat) : Sem := mkSem [.sh, .sh] 1 I .sh .unit (.pair (.slice false I) (.pair I .unit)) fun x => laws_szIntS.f k x.1 x.2.1
noncomputable def laws_szIntS.C (k : Nat) : Ctx := mkC tys [] (hintOf []) (headOf []) [] (ordOf []) (hidOf []) (jnOf [])
noncomputable def laws_szIntS.K0 (k : Nat) : Ex → List Slot → Option (Int × Unit) := kRet (laws_szIntS.C k) Try.f50 1 I .sh [.sh, .sh] .unit
theorem laws_szIntS.s (k : Nat) (x : El laws_szIntS.ps) : evalFn (laws_szIntS.C k) k Try.f50 1 I .sh [.sh, .sh] .unit (unp laws_szIntS.ps [.sh, .sh] x) = laws_szIntS.bt k x.1 x.2.1 := by kernel_rfl
theorem laws_szIntS.e (k : Nat) (x : El laws_szIntS.ps) : evalFn (laws_szIntS.C k) k Try.f50 1 I .sh [.sh, .sh] .unit (unp laws_szIntS.ps [.sh, .sh] x) = laws_szIntS.f k x.1 x.2.1 := by
  rw [laws_szIntS.s]; rfl
theorem laws_szIntS.env (k : Nat) : EnvOk Try.prog [] := trivial
theorem laws_szIntS.ok (k : Nat) : Contract Try.prog 50 (laws_szIntS.sem k) := fn_ok (C := laws_szIntS.C k) (mkC_ok tys_ok (laws_szIntS.env k) mix) Try.func50 rfl rfl (laws_szIntS.e k)
theorem laws_szIntS.code : CallOk Try.prog 50 := ⟨_, Try.func50, rfl, by kernel_rfl⟩
/-! loop.example/wholecheck/laws.szTermSS -/
noncomputable def laws_szTermSS.ps : S := (.pair (.slice false (.slice false (.agg (.pair I (.pair I (.pair I I)))))) (.pair I .unit))
noncomputable def laws_szTermSS.sem (k : Nat) : Sem := mkSem [.sh, .sh] 1 I .sh .unit (.pair (.slice false (.slice false (.agg (.pair I (.pair I (.pair I I)))))) (.pair I .unit)) fun x => laws_szTermSS.f k x.1 x.2.1
noncomputable def laws_szTermSS.C (k : Nat) : Ctx := mkC tys [(68, laws_szTermS.sem k)] (hintOf []) (headOf [(5, [(0, none), (1, none), (5, none)])]) [] (ordOf []) (hidOf []) (jnOf [])
noncomputable def laws_szTermSS.K0 (k : Nat) : Ex → List Slot → Option (Int × Unit) := kRet (laws_szTermSS.C k) Try.f34 1 I .sh [.sh, .sh] .unit
noncomputable def laws_szTermSS.L5 (k : Nat) (p0 : (List (List (Int × (Int × (Int × Int)))))) (n : Nat) (v1_5 : Int) (v5_5 : Int) : Option (Int × Unit) :=
  loopN ((laws_szTermSS.C k).head 5) (evalCode (laws_szTermSS.C k) k (codeAt [1, 1, 1, 0, 1, 0, 0] (body Try.f34))) n (st 27 [(5, .val I .sh v5_5), (1, .val I .sh v1_5), (0, .val (.slice false (.slice false (.agg (.pair I (.pair I (.pair I I)))))) .sh p0)]) (kAt (laws_szTermSS.C k) k [1, 1, 1, 0, 1, 0] (body Try.f34) [] (laws_szTermSS.K0 k))
theorem laws_szTermSS.s5 (k : Nat) (p0 : (List (List (Int × (Int × (Int × Int)))))) (n : Nat) (v1_5 : Int) (v5_5 : Int) : laws_szTermSS.L5 k p0 (n + 1) v1_5 v5_5 = laws_szTermSS.b5 k (laws_szTermSS.L5 k p0 n) p0 v1_5 v5_5 := by kernel_rfl
theorem laws_szTermSS.t5 (k : Nat) (p0 : (List (List (Int × (Int × (Int × Int)))))) : ∀ n, laws_szTermSS.L5 k p0 n = laws_szTermSS.l5 k p0 n := by
  intro n; induction n with
  | zero => rfl
  | succ n ih => funext v1_5 v5_5; rw [laws_szTermSS.s5]; rw [ih]; rfl
theorem laws_szTermSS.s (k : Nat) (x : El laws_szTermSS.ps) : evalFn (laws_szTermSS.C k) k Try.f34 1 I .sh [.sh, .sh] .unit (unp laws_szTermSS.ps [.sh, .sh] x) = laws_szTermSS.bt k (laws_szTermSS.L5 k x.1 k) x.1 x.2.1 := by kernel_rfl
theorem laws_szTermSS.e (k : Nat) (x : El laws_szTermSS.ps) : evalFn (laws_szTermSS.C k) k Try.f34 1 I .sh [.sh, .sh] .unit (unp laws_szTermSS.ps [.sh, .sh] x) = laws_szTermSS.f k x.1 x.2.1 := by
  rw [laws_szTermSS.s]; rw [laws_szTermSS.t5 k x.1 k]; rfl
theorem laws_szTermSS.env (k : Nat) : EnvOk Try.prog [(68, laws_szTermS.sem k)] := ⟨⟨laws_szTermS.ok k, laws_szTermS.code⟩, trivial⟩
theorem laws_szTermSS.ok (k : Nat) : Contract Try.prog 34 (laws_szTermSS.sem k) := fn_ok (C := laws_szTermSS.C k) (mkC_ok tys_ok (laws_szTermSS.env k) mix) Try.func34 rfl rfl (laws_szTermSS.e k)
theorem laws_szTermSS.code : CallOk Try.prog 34 := ⟨_, Try.func34, rfl, by kernel_rfl⟩
/-! loop.example/wholecheck/laws.szRule -/
noncomputable def laws_szRule.ps : S := (.pair (.agg (.pair (.slice false (.agg (.pair I (.pair I (.pair I I))))) (.pair (.slice false I) (.slice false (.slice false (.agg (.pair I (.pair I (.pair I I))))))))) (.pair I .unit))
noncomputable def laws_szRule.sem (k : Nat) : Sem := mkSem [.sh, .sh] 1 I .sh .unit (.pair (.agg (.pair (.slice false (.agg (.pair I (.pair I (.pair I I))))) (.pair (.slice false I) (.slice false (.slice false (.agg (.pair I (.pair I (.pair I I))))))))) (.pair I .unit)) fun x => laws_szRule.f k x.1 x.2.1
noncomputable def laws_szRule.C (k : Nat) : Ctx := mkC tys [(68, laws_szTermS.sem k), (50, laws_szIntS.sem k), (34, laws_szTermSS.sem k)] (hintOf []) (headOf []) [] (ordOf []) (hidOf []) (jnOf [])
noncomputable def laws_szRule.K0 (k : Nat) : Ex → List Slot → Option (Int × Unit) := kRet (laws_szRule.C k) Try.f85 1 I .sh [.sh, .sh] .unit
theorem laws_szRule.s (k : Nat) (x : El laws_szRule.ps) : evalFn (laws_szRule.C k) k Try.f85 1 I .sh [.sh, .sh] .unit (unp laws_szRule.ps [.sh, .sh] x) = laws_szRule.bt k x.1 x.2.1 := by kernel_rfl
theorem laws_szRule.e (k : Nat) (x : El laws_szRule.ps) : evalFn (laws_szRule.C k) k Try.f85 1 I .sh [.sh, .sh] .unit (unp laws_szRule.ps [.sh, .sh] x) = laws_szRule.f k x.1 x.2.1 := by
  rw [laws_szRule.s]; rfl
theorem laws_szRule.env (k : Nat) : EnvOk Try.prog [(68, laws_szTermS.sem k), (50, laws_szIntS.sem k), (34, laws_szTermSS.sem k)] := ⟨⟨laws_szTermS.ok k, laws_szTermS.code⟩, ⟨laws_szIntS.ok k, laws_szIntS.code⟩, ⟨laws_szTermSS.ok k, laws_szTermSS.code⟩, trivial⟩
theorem laws_szRule.ok (k : Nat) : Contract Try.prog 85 (laws_szRule.sem k) := fn_ok (C := laws_szRule.C k) (mkC_ok tys_ok (laws_szRule.env k) mix) Try.func85 rfl rfl (laws_szRule.e k)
theorem laws_szRule.code : CallOk Try.prog 85 := ⟨_, Try.func85, rfl, by kernel_rfl⟩
/-! loop.example/wholecheck/laws.szRuleS -/
noncomputable def laws_szRuleS.ps : S := (.pair (.slice false (.agg (.pair (.slice false (.agg (.pair I (.pair I (.pair I I))))) (.pair (.slice false I) (.slice false (.slice false (.agg (.pair I (.pair I (.pair I I)))))))))) (.pair I .unit))
noncomputable def laws_szRuleS.sem (k : Nat) : Sem := mkSem [.sh, .sh] 1 I .sh .unit (.pair (.slice false (.agg (.pair (.slice false (.agg (.pair I (.pair I (.pair I I))))) (.pair (.slice false I) (.slice false (.slice false (.agg (.pair I (.pair I (.pair I I)))))))))) (.pair I .unit)) fun x => laws_szRuleS.f k x.1 x.2.1
noncomputable def laws_szRuleS.C (k : Nat) : Ctx := mkC tys [(85, laws_szRule.sem k)] (hintOf []) (headOf [(5, [(0, none), (1, none), (5, none)])]) [] (ordOf []) (hidOf []) (jnOf [])
noncomputable def laws_szRuleS.K0 (k : Nat) : Ex → List Slot → Option (Int × Unit) := kRet (laws_szRuleS.C k) Try.f49 1 I .sh [.sh, .sh] .unit
noncomputable def laws_szRuleS.L5 (k : Nat) (p0 : (List ((List (Int × (Int × (Int × Int)))) × ((List Int) × (List (List (Int × (Int × (Int × Int))))))))) (n : Nat) (v1_5 : Int) (v5_5 : Int) : Option (Int × Unit) :=
  loopN ((laws_szRuleS.C k).head 5) (evalCode (laws_szRuleS.C k) k (codeAt [1, 1, 1, 0, 1, 0, 0] (body Try.f49))) n (st 27 [(5, .val I .sh v5_5), (1, .val I .sh v1_5), (0, .val (.slice false (.agg (.pair (.slice false (.agg (.pair I (.pair I (.pair I I))))) (.pair (.slice false I) (.slice false (.slice false (.agg (.pair I (.pair I (.pair I I)))))))))) .sh p0)]) (kAt (laws_szRuleS.C k) k [1, 1, 1, 0, 1, 0] (body Try.f49) [] (laws_szRuleS.K0 k))
theorem laws_szRuleS.s5 (k : Nat) (p0 : (List ((List (Int × (Int × (Int × Int)))) × ((List Int) × (List (List (Int × (Int × (Int × Int))))))))) (n : Nat) (v1_5 : Int) (v5_5 : Int) : laws_szRuleS.L5 k p0 (n + 1) v1_5 v5_5 = laws_szRuleS.b5 k (laws_szRuleS.L5 k p0 n) p0 v1_5 v5_5 := by kernel_rfl
theorem laws_szRuleS.t5 (k : Nat) (p0 : (List ((List (Int × (Int × (Int × Int)))) × ((List Int) × (List (List (Int × (Int × (Int × Int))))))))) : ∀ n, laws_szRuleS.L5 k p0 n = laws_szRuleS.l5 k p0 n := by
  intro n; induction n with
  | zero => rfl
  | succ n ih => funext v1_5 v5_5; rw [laws_szRuleS.s5]; rw [ih]; rfl
theorem laws_szRuleS.s (k : Nat) (x : El laws_szRuleS.ps) : evalFn (laws_szRuleS.C k) k Try.f49 1 I .sh [.sh, .sh] .unit (unp laws_szRuleS.ps [.sh, .sh] x) = laws_szRuleS.bt k (laws_szRuleS.L5 k x.1 k) x.1 x.2.1 := by kernel_rfl
theorem laws_szRuleS.e (k : Nat) (x : El laws_szRuleS.ps) : evalFn (laws_szRuleS.C k) k Try.f49 1 I .sh [.sh, .sh] .unit (unp laws_szRuleS.ps [.sh, .sh] x) = laws_szRuleS.f k x.1 x.2.1 := by
  rw [laws_szRuleS.s]; rw [laws_szRuleS.t5 k x.1 k]; rfl
theorem laws_szRuleS.env (k : Nat) : EnvOk Try.prog [(85, laws_szRule.sem k)] := ⟨⟨laws_szRule.ok k, laws_szRule.code⟩, trivial⟩
theorem laws_szRuleS.ok (k : Nat) : Contract Try.prog 49 (laws_szRuleS.sem k) := fn_ok (C := laws_szRuleS.C k) (mkC_ok tys_ok (laws_szRuleS.env k) mix) Try.func49 rfl rfl (laws_szRuleS.e k)
theorem laws_szRuleS.code : CallOk Try.prog 49 := ⟨_, Try.func49, rfl, by kernel_rfl⟩
/-! loop.example/wholecheck/laws.szSystem -/
noncomputable def laws_szSystem.ps : S := (.pair (.agg (.pair (.slice false (.agg (.pair I (.pair I I)))) (.slice false (.agg (.pair (.slice false (.agg (.pair I (.pair I (.pair I I))))) (.pair (.slice false I) (.slice false (.slice false (.agg (.pair I (.pair I (.pair I I)))))))))))) (.pair I .unit))
noncomputable def laws_szSystem.sem (k : Nat) : Sem := mkSem [.sh, .sh] 1 I .sh .unit (.pair (.agg (.pair (.slice false (.agg (.pair I (.pair I I)))) (.slice false (.agg (.pair (.slice false (.agg (.pair I (.pair I (.pair I I))))) (.pair (.slice false I) (.slice false (.slice false (.agg (.pair I (.pair I (.pair I I)))))))))))) (.pair I .unit)) fun x => laws_szSystem.f k x.1 x.2.1
noncomputable def laws_szSystem.C (k : Nat) : Ctx := mkC tys [(48, laws_szVarS.sem k), (49, laws_szRuleS.sem k)] (hintOf []) (headOf []) [] (ordOf []) (hidOf []) (jnOf [])
noncomputable def laws_szSystem.K0 (k : Nat) : Ex → List Slot → Option (Int × Unit) := kRet (laws_szSystem.C k) Try.f21 1 I .sh [.sh, .sh] .unit
theorem laws_szSystem.s (k : Nat) (x : El laws_szSystem.ps) : evalFn (laws_szSystem.C k) k Try.f21 1 I .sh [.sh, .sh] .unit (unp laws_szSystem.ps [.sh, .sh] x) = laws_szSystem.bt k x.1 x.2.1 := by kernel_rfl
theorem laws_szSystem.e (k : Nat) (x : El laws_szSystem.ps) : evalFn (laws_szSystem.C k) k Try.f21 1 I .sh [.sh, .sh] .unit (unp laws_szSystem.ps [.sh, .sh] x) = laws_szSystem.f k x.1 x.2.1 := by
  rw [laws_szSystem.s]; rfl
theorem laws_szSystem.env (k : Nat) : EnvOk Try.prog [(48, laws_szVarS.sem k), (49, laws_szRuleS.sem k)] := ⟨⟨laws_szVarS.ok k, laws_szVarS.code⟩, ⟨laws_szRuleS.ok k, laws_szRuleS.code⟩, trivial⟩
theorem laws_szSystem.ok (k : Nat) : Contract Try.prog 21 (laws_szSystem.sem k) := fn_ok (C := laws_szSystem.C k) (mkC_ok tys_ok (laws_szSystem.env k) mix) Try.func21 rfl rfl (laws_szSystem.e k)
theorem laws_szSystem.code : CallOk Try.prog 21 := ⟨_, Try.func21, rfl, by kernel_rfl⟩
/-! loop.example/wholecheck/laws.szBlocks -/
noncomputable def laws_szBlocks.ps : S := (.pair (.agg (.slice false I)) (.pair I .unit))
noncomputable def laws_szBlocks.sem (k : Nat) : Sem := mkSem [.sh, .sh] 1 I .sh .unit (.pair (.agg (.slice false I)) (.pair I .unit)) fun x => laws_szBlocks.f k x.1 x.2.1
noncomputable def laws_szBlocks.C (k : Nat) : Ctx := mkC tys [(50, laws_szIntS.sem k)] (hintOf []) (headOf []) [] (ordOf []) (hidOf []) (jnOf [])
noncomputable def laws_szBlocks.K0 (k : Nat) : Ex → List Slot → Option (Int × Unit) := kRet (laws_szBlocks.C k) Try.f22 1 I .sh [.sh, .sh] .unit
theorem laws_szBlocks.s (k : Nat) (x : El laws_szBlocks.ps) : evalFn (laws_szBlocks.C k) k Try.f22 1 I .sh [.sh, .sh] .unit (unp laws_szBlocks.ps [.sh, .sh] x) = laws_szBlocks.bt k x.1 x.2.1 := by kernel_rfl
theorem laws_szBlocks.e (k : Nat) (x : El laws_szBlocks.ps) : evalFn (laws_szBlocks.C k) k Try.f22 1 I .sh [.sh, .sh] .unit (unp laws_szBlocks.ps [.sh, .sh] x) = laws_szBlocks.f k x.1 x.2.1 := by
  rw [laws_szBlocks.s]; rfl
theorem laws_szBlocks.env (k : Nat) : EnvOk Try.prog [(50, laws_szIntS.sem k)] := ⟨⟨laws_szIntS.ok k, laws_szIntS.code⟩, trivial⟩
theorem laws_szBlocks.ok (k : Nat) : Contract Try.prog 22 (laws_szBlocks.sem k) := fn_ok (C := laws_szBlocks.C k) (mkC_ok tys_ok (laws_szBlocks.env k) mix) Try.func22 rfl rfl (laws_szBlocks.e k)
theorem laws_szBlocks.code : CallOk Try.prog 22 := ⟨_, Try.func22, rfl, by kernel_rfl⟩
/-! loop.example/wholecheck/laws.toVar -/
noncomputable def laws_toVar.ps : S := (.pair (.agg (.pair I (.pair I I))) .unit)
noncomputable def laws_toVar.sem (k : Nat) : Sem := mkSem [.sh] 1 (.agg (.pair I (.pair I I))) .sh .unit (.pair (.agg (.pair I (.pair I I))) .unit) fun x => laws_toVar.f k x.1
noncomputable def laws_toVar.C (k : Nat) : Ctx := mkC tys [] (hintOf []) (headOf []) [] (ordOf []) (hidOf []) (jnOf [])
noncomputable def laws_toVar.K0 (k : Nat) : Ex → List Slot → Option ((Int × (Int × Int)) × Unit) := kRet (laws_toVar.C k) Try.f87 1 (.agg (.pair I (.pair I I))) .sh [.sh] .unit
theorem laws_toVar.s (k : Nat) (x : El laws_toVar.ps) : evalFn (laws_toVar.C k) k Try.f87 1 (.agg (.pair I (.pair I I))) .sh [.sh] .unit (unp laws_toVar.ps [.sh] x) = laws_toVar.bt k x.1 := by kernel_rfl
theorem laws_toVar.e (k : Nat) (x : El laws_toVar.ps) : evalFn (laws_toVar.C k) k Try.f87 1 (.agg (.pair I (.pair I I))) .sh [.sh] .unit (unp laws_toVar.ps [.sh] x) = laws_toVar.f k x.1 := by
  rw [laws_toVar.s]; rfl
theorem laws_toVar.env (k : Nat) : EnvOk Try.prog [] := trivial
theorem laws_toVar.ok (k : Nat) : Contract Try.prog 87 (laws_toVar.sem k) := fn_ok (C := laws_toVar.C k) (mkC_ok tys_ok (laws_toVar.env k) mix) Try.func87 rfl rfl (laws_toVar.e k)
theorem laws_toVar.code : CallOk Try.prog 87 := ⟨_, Try.func87, rfl, by kernel_rfl⟩
/-! loop.example/wholecheck/laws.toVarS -/
noncomputable def laws_toVarS.ps : S := (.pair (.slice false (.agg (.pair I (.pair I I)))) .unit)
noncomputable def laws_toVarS.sem (k : Nat) : Sem := mkSem [.sh] 1 (.slice false (.agg (.pair I (.pair I I)))) (.ow (.ag (.pr .sh (.pr .sh .sh)))) .unit (.pair (.slice false (.agg (.pair I (.pair I I)))) .unit) fun x => laws_toVarS.f k x.1
noncomputable def laws_toVarS.C (k : Nat) : Ctx := mkC tys [(87, laws_toVar.sem k)] (hintOf []) (headOf [(3, [(0, none), (3, some ((.slice false (.agg (.pair I (.pair I I)))), (.ow (.ag (.pr .sh (.pr .sh .sh)))))), (4, none)])]) [] (ordOf []) (hidOf []) (jnOf [])
noncomputable def laws_toVarS.K0 (k : Nat) : Ex → List Slot → Option ((List (Int × (Int × Int))) × Unit) := kRet (laws_toVarS.C k) Try.f53 1 (.slice false (.agg (.pair I (.pair I I)))) (.ow (.ag (.pr .sh (.pr .sh .sh)))) [.sh] .unit
noncomputable def laws_toVarS.L3 (k : Nat) (p0 : (List (Int × (Int × Int)))) (n : Nat) (v3_3 : (List (Int × (Int × Int)))) (v4_3 : Int) : Option ((List (Int × (Int × Int))) × Unit) :=
  loopN ((laws_toVarS.C k).head 3) (evalCode (laws_toVarS.C k) k (codeAt [1, 1, 0, 1, 0, 0] (body Try.f53))) n (st 23 [(4, .val I .sh v4_3), (3, .val (.slice false (.agg (.pair I (.pair I I)))) (.ow (.ag (.pr .sh (.pr .sh .sh)))) v3_3), (0, .val (.slice false (.agg (.pair I (.pair I I)))) .sh p0)]) (kAt (laws_toVarS.C k) k [1, 1, 0, 1, 0] (body Try.f53) [] (laws_toVarS.K0 k))
theorem laws_toVarS.s3 (k : Nat) (p0 : (List (Int × (Int × Int)))) (n : Nat) (v3_3 : (List (Int × (Int × Int)))) (v4_3 : Int) : laws_toVarS.L3 k p0 (n + 1) v3_3 v4_3 = laws_toVarS.b3 k (laws_toVarS.L3 k p0 n) p0 v3_3 v4_3 := by kernel_rfl
theorem laws_toVarS.t3 (k : Nat) (p0 : (List (Int × (Int × Int)))) : ∀ n, laws_toVarS.L3 k p0 n = laws_toVarS.l3 k p0 n := by
  intro n; induction n with
  | zero => rfl
  | succ n ih => funext v3_3 v4_3; rw [laws_toVarS.s3]; rw [ih]; rfl
theorem laws_toVarS.s (k : Nat) (x : El laws_toVarS.ps) : evalFn (laws_toVarS.C k) k Try.f53 1 (.slice false (.agg (.pair I (.pair I I)))) (.ow (.ag (.pr .sh (.pr .sh .sh)))) [.sh] .unit (unp laws_toVarS.ps [.sh] x) = laws_toVarS.bt k (laws_toVarS.L3 k x.1 k) x.1 := by kernel_rfl
theorem laws_toVarS.e (k : Nat) (x : El laws_toVarS.ps) : evalFn (laws_toVarS.C k) k Try.f53 1 (.slice false (.agg (.pair I (.pair I I)))) (.ow (.ag (.pr .sh (.pr .sh .sh)))) [.sh] .unit (unp laws_toVarS.ps [.sh] x) = laws_toVarS.f k x.1 := by
  rw [laws_toVarS.s]; rw [laws_toVarS.t3 k x.1 k]; rfl
theorem laws_toVarS.env (k : Nat) : EnvOk Try.prog [(87, laws_toVar.sem k)] := ⟨⟨laws_toVar.ok k, laws_toVar.code⟩, trivial⟩
theorem laws_toVarS.ok (k : Nat) : Contract Try.prog 53 (laws_toVarS.sem k) := fn_ok (C := laws_toVarS.C k) (mkC_ok tys_ok (laws_toVarS.env k) mix) Try.func53 rfl rfl (laws_toVarS.e k)
theorem laws_toVarS.code : CallOk Try.prog 53 := ⟨_, Try.func53, rfl, by kernel_rfl⟩
/-! loop.example/wholecheck/laws.toTerm -/
noncomputable def laws_toTerm.ps : S := (.pair (.agg (.pair I (.pair I (.pair I I)))) .unit)
noncomputable def laws_toTerm.sem (k : Nat) : Sem := mkSem [.sh] 1 (.agg (.pair I (.pair I (.pair I I)))) .sh .unit (.pair (.agg (.pair I (.pair I (.pair I I)))) .unit) fun x => laws_toTerm.f k x.1
noncomputable def laws_toTerm.C (k : Nat) : Ctx := mkC tys [] (hintOf []) (headOf []) [] (ordOf []) (hidOf []) (jnOf [])
noncomputable def laws_toTerm.K0 (k : Nat) : Ex → List Slot → Option ((Int × (Int × (Int × Int))) × Unit) := kRet (laws_toTerm.C k) Try.f106 1 (.agg (.pair I (.pair I (.pair I I)))) .sh [.sh] .unit
theorem laws_toTerm.s (k : Nat) (x : El laws_toTerm.ps) : evalFn (laws_toTerm.C k) k Try.f106 1 (.agg (.pair I (.pair I (.pair I I)))) .sh [.sh] .unit (unp laws_toTerm.ps [.sh] x) = laws_toTerm.bt k x.1 := by kernel_rfl
theorem laws_toTerm.e (k : Nat) (x : El laws_toTerm.ps) : evalFn (laws_toTerm.C k) k Try.f106 1 (.agg (.pair I (.pair I (.pair I I)))) .sh [.sh] .unit (unp laws_toTerm.ps [.sh] x) = laws_toTerm.f k x.1 := by
  rw [laws_toTerm.s]; rfl
theorem laws_toTerm.env (k : Nat) : EnvOk Try.prog [] := trivial
theorem laws_toTerm.ok (k : Nat) : Contract Try.prog 106 (laws_toTerm.sem k) := fn_ok (C := laws_toTerm.C k) (mkC_ok tys_ok (laws_toTerm.env k) mix) Try.func106 rfl rfl (laws_toTerm.e k)
theorem laws_toTerm.code : CallOk Try.prog 106 := ⟨_, Try.func106, rfl, by kernel_rfl⟩
/-! loop.example/wholecheck/laws.toTermS -/
noncomputable def laws_toTermS.ps : S := (.pair (.slice false (.agg (.pair I (.pair I (.pair I I))))) .unit)
noncomputable def laws_toTermS.sem (k : Nat) : Sem := mkSem [.sh] 1 (.slice false (.agg (.pair I (.pair I (.pair I I))))) (.ow (.ag (.pr .sh (.pr .sh (.pr .sh .sh))))) .unit (.pair (.slice false (.agg (.pair I (.pair I (.pair I I))))) .unit) fun x => laws_toTermS.f k x.1
noncomputable def laws_toTermS.C (k : Nat) : Ctx := mkC tys [(106, laws_toTerm.sem k)] (hintOf []) (headOf [(3, [(0, none), (3, some ((.slice false (.agg (.pair I (.pair I (.pair I I))))), (.ow (.ag (.pr .sh (.pr .sh (.pr .sh .sh))))))), (4, none)])]) [] (ordOf []) (hidOf []) (jnOf [])
noncomputable def laws_toTermS.K0 (k : Nat) : Ex → List Slot → Option ((List (Int × (Int × (Int × Int)))) × Unit) := kRet (laws_toTermS.C k) Try.f72 1 (.slice false (.agg (.pair I (.pair I (.pair I I))))) (.ow (.ag (.pr .sh (.pr .sh (.pr .sh .sh))))) [.sh] .unit
noncomputable def laws_toTermS.L3 (k : Nat) (p0 : (List (Int × (Int × (Int × Int))))) (n : Nat) (v3_3 : (List (Int × (Int × (Int × Int))))) (v4_3 : Int) : Option ((List (Int × (Int × (Int × Int)))) × Unit) :=
  loopN ((laws_toTermS.C k).head 3) (evalCode (laws_toTermS.C k) k (codeAt [1, 1, 0, 1, 0, 0] (body Try.f72))) n (st 23 [(4, .val I .sh v4_3), (3, .val (.slice false (.agg (.pair I (.pair I (.pair I I))))) (.ow (.ag (.pr .sh (.pr .sh (.pr .sh .sh))))) v3_3), (0, .val (.slice false (.agg (.pair I (.pair I (.pair I I))))) .sh p0)]) (kAt (laws_toTermS.C k) k [1, 1, 0, 1, 0] (body Try.f72) [] (laws_toTermS.K0 k))
theorem laws_toTermS.s3 (k : Nat) (p0 : (List (Int × (Int × (Int × Int))))) (n : Nat) (v3_3 : (List (Int × (Int × (Int × Int))))) (v4_3 : Int) : laws_toTermS.L3 k p0 (n + 1) v3_3 v4_3 = laws_toTermS.b3 k (laws_toTermS.L3 k p0 n) p0 v3_3 v4_3 := by kernel_rfl
theorem laws_toTermS.t3 (k : Nat) (p0 : (List (Int × (Int × (Int × Int))))) : ∀ n, laws_toTermS.L3 k p0 n = laws_toTermS.l3 k p0 n := by
  intro n; induction n with
  | zero => rfl
  | succ n ih => funext v3_3 v4_3; rw [laws_toTermS.s3]; rw [ih]; rfl
theorem laws_toTermS.s (k : Nat) (x : El laws_toTermS.ps) : evalFn (laws_toTermS.C k) k Try.f72 1 (.slice false (.agg (.pair I (.pair I (.pair I I))))) (.ow (.ag (.pr .sh (.pr .sh (.pr .sh .sh))))) [.sh] .unit (unp laws_toTermS.ps [.sh] x) = laws_toTermS.bt k (laws_toTermS.L3 k x.1 k) x.1 := by kernel_rfl
theorem laws_toTermS.e (k : Nat) (x : El laws_toTermS.ps) : evalFn (laws_toTermS.C k) k Try.f72 1 (.slice false (.agg (.pair I (.pair I (.pair I I))))) (.ow (.ag (.pr .sh (.pr .sh (.pr .sh .sh))))) [.sh] .unit (unp laws_toTermS.ps [.sh] x) = laws_toTermS.f k x.1 := by
  rw [laws_toTermS.s]; rw [laws_toTermS.t3 k x.1 k]; rfl
theorem laws_toTermS.env (k : Nat) : EnvOk Try.prog [(106, laws_toTerm.sem k)] := ⟨⟨laws_toTerm.ok k, laws_toTerm.code⟩, trivial⟩
theorem laws_toTermS.ok (k : Nat) : Contract Try.prog 72 (laws_toTermS.sem k) := fn_ok (C := laws_toTermS.C k) (mkC_ok tys_ok (laws_toTermS.env k) mix) Try.func72 rfl rfl (laws_toTermS.e k)
theorem laws_toTermS.code : CallOk Try.prog 72 := ⟨_, Try.func72, rfl, by kernel_rfl⟩
/-! loop.example/wholecheck/laws.toTermSS -/
noncomputable def laws_toTermSS.ps : S := (.pair (.slice false (.slice false (.agg (.pair I (.pair I (.pair I I)))))) .unit)
noncomputable def laws_toTermSS.sem (k : Nat) : Sem := mkSem [.sh] 1 (.slice false (.slice false (.agg (.pair I (.pair I (.pair I I)))))) (.ow (.ow (.ag (.pr .sh (.pr .sh (.pr .sh .sh)))))) .unit (.pair (.slice false (.slice false (.agg (.pair I (.pair I (.pair I I)))))) .unit) fun x => laws_toTermSS.f k x.1
noncomputable def laws_toTermSS.C (k : Nat) : Ctx := mkC tys [(72, laws_toTermS.sem k)] (hintOf []) (headOf [(3, [(0, none), (3, none), (4, none)])]) [] (ordOf []) (hidOf []) (jnOf [])
noncomputable def laws_toTermSS.K0 (k : Nat) : Ex → List Slot → Option ((List (List (Int × (Int × (Int × Int))))) × Unit) := kRet (laws_toTermSS.C k) Try.f36 1 (.slice false (.slice false (.agg (.pair I (.pair I (.pair I I)))))) (.ow (.ow (.ag (.pr .sh (.pr .sh (.pr .sh .sh)))))) [.sh] .unit
noncomputable def laws_toTermSS.L3 (k : Nat) (p0 : (List (List (Int × (Int × (Int × Int)))))) (n : Nat) (v3_3 : (List (List (Int × (Int × (Int × Int)))))) (v4_3 : Int) : Option ((List (List (Int × (Int × (Int × Int))))) × Unit) :=
  loopN ((laws_toTermSS.C k).head 3) (evalCode (laws_toTermSS.C k) k (codeAt [1, 1, 0, 1, 0, 0] (body Try.f36))) n (st 23 [(4, .val I .sh v4_3), (3, .val (.slice false (.slice false (.agg (.pair I (.pair I (.pair I I)))))) (.ow (.ow (.ag (.pr .sh (.pr .sh (.pr .sh .sh)))))) v3_3), (0, .val (.slice false (.slice false (.agg (.pair I (.pair I (.pair I I)))))) .sh p0)]) (kAt (laws_toTermSS.C k) k [1, 1, 0, 1, 0] (body Try.f36) [] (laws_toTermSS.K0 k))
theorem laws_toTermSS.s3 (k : Nat) (p0 : (List (List (Int × (Int × (Int × Int)))))) (n : Nat) (v3_3 : (List (List (Int × (Int × (Int × Int)))))) (v4_3 : Int) : laws_toTermSS.L3 k p0 (n + 1) v3_3 v4_3 = laws_toTermSS.b3 k (laws_toTermSS.L3 k p0 n) p0 v3_3 v4_3 := by kernel_rfl
theorem laws_toTermSS.t3 (k : Nat) (p0 : (List (List (Int × (Int × (Int × Int)))))) : ∀ n, laws_toTermSS.L3 k p0 n = laws_toTermSS.l3 k p0 n := by
  intro n; induction n with
  | zero => rfl
  | succ n ih => funext v3_3 v4_3; rw [laws_toTermSS.s3]; rw [ih]; rfl
theorem laws_toTermSS.s (k : Nat) (x : El laws_toTermSS.ps) : evalFn (laws_toTermSS.C k) k Try.f36 1 (.slice false (.slice false (.agg (.pair I (.pair I (.pair I I)))))) (.ow (.ow (.ag (.pr .sh (.pr .sh (.pr .sh .sh)))))) [.sh] .unit (unp laws_toTermSS.ps [.sh] x) = laws_toTermSS.bt k (laws_toTermSS.L3 k x.1 k) x.1 := by kernel_rfl
theorem laws_toTermSS.e (k : Nat) (x : El laws_toTermSS.ps) : evalFn (laws_toTermSS.C k) k Try.f36 1 (.slice false (.slice false (.agg (.pair I (.pair I (.pair I I)))))) (.ow (.ow (.ag (.pr .sh (.pr .sh (.pr .sh .sh)))))) [.sh] .unit (unp laws_toTermSS.ps [.sh] x) = laws_toTermSS.f k x.1 := by
  rw [laws_toTermSS.s]; rw [laws_toTermSS.t3 k x.1 k]; rfl
theorem laws_toTermSS.env (k : Nat) : EnvOk Try.prog [(72, laws_toTermS.sem k)] := ⟨⟨laws_toTermS.ok k, laws_toTermS.code⟩, trivial⟩
theorem laws_toTermSS.ok (k : Nat) : Contract Try.prog 36 (laws_toTermSS.sem k) := fn_ok (C := laws_toTermSS.C k) (mkC_ok tys_ok (laws_toTermSS.env k) mix) Try.func36 rfl rfl (laws_toTermSS.e k)
theorem laws_toTermSS.code : CallOk Try.prog 36 := ⟨_, Try.func36, rfl, by kernel_rfl⟩
/-! loop.example/wholecheck/laws.toRule -/
noncomputable def laws_toRule.ps : S := (.pair (.agg (.pair (.slice false (.agg (.pair I (.pair I (.pair I I))))) (.pair (.slice false I) (.slice false (.slice false (.agg (.pair I (.pair I (.pair I I))))))))) .unit)
noncomputable def laws_toRule.sem (k : Nat) : Sem := mkSem [.sh] 1 (.agg (.pair (.slice false (.agg (.pair I (.pair I (.pair I I))))) (.pair (.slice false I) (.slice false (.slice false (.agg (.pair I (.pair I (.pair I I))))))))) .sh .unit (.pair (.agg (.pair (.slice false (.agg (.pair I (.pair I (.pair I I))))) (.pair (.slice false I) (.slice false (.slice false (.agg (.pair I (.pair I (.pair I I))))))))) .unit) fun x => laws_toRule.f k x.1
noncomputable def laws_toRule.C (k : Nat) : Ctx := mkC tys [(72, laws_toTermS.sem k), (10, laws_toIntS.sem k), (36, laws_toTermSS.sem k)] (hintOf []) (headOf []) [] (ordOf []) (hidOf []) (jnOf [])
noncomputable def laws_toRule.K0 (k : Nat) : Ex → List Slot → Option (((List (Int × (Int × (Int × Int)))) × ((List Int) × (List (List (Int × (Int × (Int × Int))))))) × Unit) := kRet (laws_toRule.C k) Try.f88 1 (.agg (.pair (.slice false (.agg (.pair I (.pair I (.pair I I))))) (.pair (.slice false I) (.slice false (.slice false (.agg (.pair I (.pair I (.pair I I))))))))) .sh [.sh] .unit
theorem laws_toRule.s (k : Nat) (x : El laws_toRule.ps) : evalFn (laws_toRule.C k) k Try.f88 1 (.agg (.pair (.slice false (.agg (.pair I (.pair I (.pair I I))))) (.pair (.slice false I) (.slice false (.slice false (.agg (.pair I (.pair I (.pair I I))))))))) .sh [.sh] .unit (unp laws_toRule.ps [.sh] x) = laws_toRule.bt k x.1 := by kernel_rfl
theorem laws_toRule.e (k : Nat) (x : El laws_toRule.ps) : evalFn (laws_toRule.C k) k Try.f88 1 (.agg (.pair (.slice false (.agg (.pair I (.pair I (.pair I I))))) (.pair (.slice false I) (.slice false (.slice false (.agg (.pair I (.pair I (.pair I I))))))))) .sh [.sh] .unit (unp laws_toRule.ps [.sh] x) = laws_toRule.f k x.1 := by
  rw [laws_toRule.s]; rfl
theorem laws_toRule.env (k : Nat) : EnvOk Try.prog [(72, laws_toTermS.sem k), (10, laws_toIntS.sem k), (36, laws_toTermSS.sem k)] := ⟨⟨laws_toTermS.ok k, laws_toTermS.code⟩, ⟨laws_toIntS.ok k, laws_toIntS.code⟩, ⟨laws_toTermSS.ok k, laws_toTermSS.code⟩, trivial⟩
theorem laws_toRule.ok (k : Nat) : Contract Try.prog 88 (laws_toRule.sem k) := fn_ok (C := laws_toRule.C k) (mkC_ok tys_ok (laws_toRule.env k) mix) Try.func88 rfl rfl (laws_toRule.e k)
theorem laws_toRule.code : CallOk Try.prog 88 := ⟨_, Try.func88, rfl, by kernel_rfl⟩
/-! loop.example/wholecheck/laws.toRuleS -/
noncomputable def laws_toRuleS.ps : S := (.pair (.slice false (.agg (.pair (.slice false (.agg (.pair I (.pair I (.pair I I))))) (.pair (.slice false I) (.slice false (.slice false (.agg (.pair I (.pair I (.pair I I)))))))))) .unit)
noncomputable def laws_toRuleS.sem (k : Nat) : Sem := mkSem [.sh] 1 (.slice false (.agg (.pair (.slice false (.agg (.pair I (.pair I (.pair I I))))) (.pair (.slice false I) (.slice false (.slice false (.agg (.pair I (.pair I (.pair I I)))))))))) (.ow .sh) .unit (.pair (.slice false (.agg (.pair (.slice false (.agg (.pair I (.pair I (.pair I I))))) (.pair (.slice false I) (.slice false (.slice false (.agg (.pair I (.pair I (.pair I I)))))))))) .unit) fun x => laws_toRuleS.f k x.1
noncomputable def laws_toRuleS.C (k : Nat) : Ctx := mkC tys [(88, laws_toRule.sem k)] (hintOf []) (headOf [(3, [(0, none), (3, some ((.slice false (.agg (.pair (.slice false (.agg (.pair I (.pair I (.pair I I))))) (.pair (.slice false I) (.slice false (.slice false (.agg (.pair I (.pair I (.pair I I)))))))))), (.ow .sh))), (4, none)])]) [] (ordOf []) (hidOf []) (jnOf [])
noncomputable def laws_toRuleS.K0 (k : Nat) : Ex → List Slot → Option ((List ((List (Int × (Int × (Int × Int)))) × ((List Int) × (List (List (Int × (Int × (Int × Int)))))))) × Unit) := kRet (laws_toRuleS.C k) Try.f54 1 (.slice false (.agg (.pair (.slice false (.agg (.pair I (.pair I (.pair I I))))) (.pair (.slice false I) (.slice false (.slice false (.agg (.pair I (.pair I (.pair I I)))))))))) (.ow .sh) [.sh] .unit
noncomputable def laws_toRuleS.L3 (k : Nat) (p0 : (List ((List (Int × (Int × (Int × Int)))) × ((List Int) × (List (List (Int × (Int × (Int × Int))))))))) (n : Nat) (v3_3 : (List ((List (Int × (Int × (Int × Int)))) × ((List Int) × (List (List (Int × (Int × (Int × Int))))))))) (v4_3 : Int) : Option ((List ((List (Int × (Int × (Int × Int)))) × ((List Int) × (List (List (Int × (Int × (Int × Int)))))))) × Unit) :=
  loopN ((laws_toRuleS.C k).head 3) (evalCode (laws_toRuleS.C k) k (codeAt [1, 1, 0, 1, 0, 0] (body Try.f54))) n (st 23 [(4, .val I .sh v4_3), (3, .val (.slice false (.agg (.pair (.slice false (.agg (.pair I (.pair I (.pair I I))))) (.pair (.slice false I) (.slice false (.slice false (.agg (.pair I (.pair I (.pair I I)))))))))) (.ow .sh) v3_3), (0, .val (.slice false (.agg (.pair (.slice false (.agg (.pair I (.pair I (.pair I I))))) (.pair (.slice false I) (.slice false (.slice false (.agg (.pair I (.pair I (.pair I I)))))))))) .sh p0)]) (kAt (laws_toRuleS.C k) k [1, 1, 0, 1, 0] (body Try.f54) [] (laws_toRuleS.K0 k))
theorem laws_toRuleS.s3 (k : Nat) (p0 : (List ((List (Int × (Int × (Int × Int)))) × ((List Int) × (List (List (Int × (Int × (Int × Int))))))))) (n : Nat) (v3_3 : (List ((List (Int × (Int × (Int × Int)))) × ((List Int) × (List (List (Int × (Int × (Int × Int))))))))) (v4_3 : Int) : laws_toRuleS.L3 k p0 (n + 1) v3_3 v4_3 = laws_toRuleS.b3 k (laws_toRuleS.L3 k p0 n) p0 v3_3 v4_3 := by kernel_rfl
theorem laws_toRuleS.t3 (k : Nat) (p0 : (List ((List (Int × (Int × (Int × Int)))) × ((List Int) × (List (List (Int × (Int × (Int × Int))))))))) : ∀ n, laws_toRuleS.L3 k p0 n = laws_toRuleS.l3 k p0 n := by
  intro n; induction n with
  | zero => rfl
  | succ n ih => funext v3_3 v4_3; rw [laws_toRuleS.s3]; rw [ih]; rfl
theorem laws_toRuleS.s (k : Nat) (x : El laws_toRuleS.ps) : evalFn (laws_toRuleS.C k) k Try.f54 1 (.slice false (.agg (.pair (.slice false (.agg (.pair I (.pair I (.pair I I))))) (.pair (.slice false I) (.slice false (.slice false (.agg (.pair I (.pair I (.pair I I)))))))))) (.ow .sh) [.sh] .unit (unp laws_toRuleS.ps [.sh] x) = laws_toRuleS.bt k (laws_toRuleS.L3 k x.1 k) x.1 := by kernel_rfl
theorem laws_toRuleS.e (k : Nat) (x : El laws_toRuleS.ps) : evalFn (laws_toRuleS.C k) k Try.f54 1 (.slice false (.agg (.pair (.slice false (.agg (.pair I (.pair I (.pair I I))))) (.pair (.slice false I) (.slice false (.slice false (.agg (.pair I (.pair I (.pair I I)))))))))) (.ow .sh) [.sh] .unit (unp laws_toRuleS.ps [.sh] x) = laws_toRuleS.f k x.1 := by
  rw [laws_toRuleS.s]; rw [laws_toRuleS.t3 k x.1 k]; rfl
theorem laws_toRuleS.env (k : Nat) : EnvOk Try.prog [(88, laws_toRule.sem k)] := ⟨⟨laws_toRule.ok k, laws_toRule.code⟩, trivial⟩
theorem laws_toRuleS.ok (k : Nat) : Contract Try.prog 54 (laws_toRuleS.sem k) := fn_ok (C := laws_toRuleS.C k) (mkC_ok tys_ok (laws_toRuleS.env k) mix) Try.func54 rfl rfl (laws_toRuleS.e k)
theorem laws_toRuleS.code : CallOk Try.prog 54 := ⟨_, Try.func54, rfl, by kernel_rfl⟩
/-! loop.example/wholecheck/laws.toSystem -/
noncomputable def laws_toSystem.ps : S := (.pair (.agg (.pair (.slice false (.agg (.pair I (.pair I I)))) (.slice false (.agg (.pair (.slice false (.agg (.pair I (.pair I (.pair I I))))) (.pair (.slice false I) (.slice false (.slice false (.agg (.pair I (.pair I (.pair I I)))))))))))) .unit)
noncomputable def laws_toSystem.sem (k : Nat) : Sem := mkSem [.sh] 1 (.agg (.pair (.slice false (.agg (.pair I (.pair I I)))) (.slice false (.agg (.pair (.slice false (.agg (.pair I (.pair I (.pair I I))))) (.pair (.slice false I) (.slice false (.slice false (.agg (.pair I (.pair I (.pair I I)))))))))))) .sh .unit (.pair (.agg (.pair (.slice false (.agg (.pair I (.pair I I)))) (.slice false (.agg (.pair (.slice false (.agg (.pair I (.pair I (.pair I I))))) (.pair (.slice false I) (.slice false (.slice false (.agg (.pair I (.pair I (.pair I I)))))))))))) .unit) fun x => laws_toSystem.f k x.1
noncomputable def laws_toSystem.C (k : Nat) : Ctx := mkC tys [(53, laws_toVarS.sem k), (54, laws_toRuleS.sem k)] (hintOf []) (headOf []) [] (ordOf []) (hidOf []) (jnOf [])
noncomputable def laws_toSystem.K0 (k : Nat) : Ex → List Slot → Option (((List (Int × (Int × Int))) × (List ((List (Int × (Int × (Int × Int)))) × ((List Int) × (List (List (Int × (Int × (Int × Int))))))))) × Unit) := kRet (laws_toSystem.C k) Try.f24 1 (.agg (.pair (.slice false (.agg (.pair I (.pair I I)))) (.slice false (.agg (.pair (.slice false (.agg (.pair I (.pair I (.pair I I))))) (.pair (.slice false I) (.slice false (.slice false (.agg (.pair I (.pair I (.pair I I)))))))))))) .sh [.sh] .unit
theorem laws_toSystem.s (k : Nat) (x : El laws_toSystem.ps) : evalFn (laws_toSystem.C k) k Try.f24 1 (.agg (.pair (.slice false (.agg (.pair I (.pair I I)))) (.slice false (.agg (.pair (.slice false (.agg (.pair I (.pair I (.pair I I))))) (.pair (.slice false I) (.slice false (.slice false (.agg (.pair I (.pair I (.pair I I)))))))))))) .sh [.sh] .unit (unp laws_toSystem.ps [.sh] x) = laws_toSystem.bt k x.1 := by kernel_rfl
theorem laws_toSystem.e (k : Nat) (x : El laws_toSystem.ps) : evalFn (laws_toSystem.C k) k Try.f24 1 (.agg (.pair (.slice false (.agg (.pair I (.pair I I)))) (.slice false (.agg (.pair (.slice false (.agg (.pair I (.pair I (.pair I I))))) (.pair (.slice false I) (.slice false (.slice false (.agg (.pair I (.pair I (.pair I I)))))))))))) .sh [.sh] .unit (unp laws_toSystem.ps [.sh] x) = laws_toSystem.f k x.1 := by
  rw [laws_toSystem.s]; rfl
theorem laws_toSystem.env (k : Nat) : EnvOk Try.prog [(53, laws_toVarS.sem k), (54, laws_toRuleS.sem k)] := ⟨⟨laws_toVarS.ok k, laws_toVarS.code⟩, ⟨laws_toRuleS.ok k, laws_toRuleS.code⟩, trivial⟩
theorem laws_toSystem.ok (k : Nat) : Contract Try.prog 24 (laws_toSystem.sem k) := fn_ok (C := laws_toSystem.C k) (mkC_ok tys_ok (laws_toSystem.env k) mix) Try.func24 rfl rfl (laws_toSystem.e k)
theorem laws_toSystem.code : CallOk Try.prog 24 := ⟨_, Try.func24, rfl, by kernel_rfl⟩
/-! loop.example/wholecheck/laws.toBlocks -/
noncomputable def laws_toBlocks.ps : S := (.pair (.agg (.slice false I)) .unit)
noncomputable def laws_toBlocks.sem (k : Nat) : Sem := mkSem [.sh] 1 (.agg (.slice false I)) .sh .unit (.pair (.agg (.slice false I)) .unit) fun x => laws_toBlocks.f k x.1
noncomputable def laws_toBlocks.C (k : Nat) : Ctx := mkC tys [(10, laws_toIntS.sem k)] (hintOf []) (headOf []) [] (ordOf []) (hidOf []) (jnOf [])
noncomputable def laws_toBlocks.K0 (k : Nat) : Ex → List Slot → Option ((List Int) × Unit) := kRet (laws_toBlocks.C k) Try.f25 1 (.agg (.slice false I)) .sh [.sh] .unit
theorem laws_toBlocks.s (k : Nat) (x : El laws_toBlocks.ps) : evalFn (laws_toBlocks.C k) k Try.f25 1 (.agg (.slice false I)) .sh [.sh] .unit (unp laws_toBlocks.ps [.sh] x) = laws_toBlocks.bt k x.1 := by kernel_rfl
theorem laws_toBlocks.e (k : Nat) (x : El laws_toBlocks.ps) : evalFn (laws_toBlocks.C k) k Try.f25 1 (.agg (.slice false I)) .sh [.sh] .unit (unp laws_toBlocks.ps [.sh] x) = laws_toBlocks.f k x.1 := by
  rw [laws_toBlocks.s]; rfl
theorem laws_toBlocks.env (k : Nat) : EnvOk Try.prog [(10, laws_toIntS.sem k)] := ⟨⟨laws_toIntS.ok k, laws_toIntS.code⟩, trivial⟩
theorem laws_toBlocks.ok (k : Nat) : Contract Try.prog 25 (laws_toBlocks.sem k) := fn_ok (C := laws_toBlocks.C k) (mkC_ok tys_ok (laws_toBlocks.env k) mix) Try.func25 rfl rfl (laws_toBlocks.e k)
theorem laws_toBlocks.code : CallOk Try.prog 25 := ⟨_, Try.func25, rfl, by kernel_rfl⟩
/-! loop.example/wholecheck/spec.l2Var -/
noncomputable def spec_l2Var.ps : S := (.pair (.agg (.pair I (.pair I I))) .unit)
noncomputable def spec_l2Var.sem (k : Nat) : Sem := mkSem [.sh] 1 .bool .sh .unit (.pair (.agg (.pair I (.pair I I))) .unit) fun x => spec_l2Var.f k x.1
noncomputable def spec_l2Var.C (k : Nat) : Ctx := mkC tys [(52, spec_l1In.sem k)] (hintOf []) (headOf []) [] (ordOf []) (hidOf []) (jnOf [])
noncomputable def spec_l2Var.K0 (k : Nat) : Ex → List Slot → Option (Bool × Unit) := kRet (spec_l2Var.C k) Try.f114 1 .bool .sh [.sh] .unit
theorem spec_l2Var.s (k : Nat) (x : El spec_l2Var.ps) : evalFn (spec_l2Var.C k) k Try.f114 1 .bool .sh [.sh] .unit (unp spec_l2Var.ps [.sh] x) = spec_l2Var.bt k x.1 := by kernel_rfl
theorem spec_l2Var.e (k : Nat) (x : El spec_l2Var.ps) : evalFn (spec_l2Var.C k) k Try.f114 1 .bool .sh [.sh] .unit (unp spec_l2Var.ps [.sh] x) = spec_l2Var.f k x.1 := by
  rw [spec_l2Var.s]; rfl
theorem spec_l2Var.env (k : Nat) : EnvOk Try.prog [(52, spec_l1In.sem k)] := ⟨⟨spec_l1In.ok k, spec_l1In.code⟩, trivial⟩
theorem spec_l2Var.ok (k : Nat) : Contract Try.prog 114 (spec_l2Var.sem k) := fn_ok (C := spec_l2Var.C k) (mkC_ok tys_ok (spec_l2Var.env k) mix) Try.func114 rfl rfl (spec_l2Var.e k)
theorem spec_l2Var.code : CallOk Try.prog 114 := ⟨_, Try.func114, rfl, by kernel_rfl⟩
/-! loop.example/wholecheck/spec.l1One -/
noncomputable def spec_l1One.ps : S := (.pair I .unit)
noncomputable def spec_l1One.sem (k : Nat) : Sem := mkSem [.sh] 1 .bool .sh .unit (.pair I .unit) fun x => spec_l1One.f k x.1
noncomputable def spec_l1One.C (k : Nat) : Ctx := mkC tys [] (hintOf []) (headOf []) [] (ordOf []) (hidOf []) (jnOf [])
noncomputable def spec_l1One.K0 (k : Nat) : Ex → List Slot → Option (Bool × Unit) := kRet (spec_l1One.C k) Try.f127 1 .bool .sh [.sh] .unit
theorem spec_l1One.s (k : Nat) (x : El spec_l1One.ps) : evalFn (spec_l1One.C k) k Try.f127 1 .bool .sh [.sh] .unit (unp spec_l1One.ps [.sh] x) = spec_l1One.bt k x.1 := by kernel_rfl
theorem spec_l1One.e (k : Nat) (x : El spec_l1One.ps) : evalFn (spec_l1One.C k) k Try.f127 1 .bool .sh [.sh] .unit (unp spec_l1One.ps [.sh] x) = spec_l1One.f k x.1 := by
  rw [spec_l1One.s]; rfl
theorem spec_l1One.env (k : Nat) : EnvOk Try.prog [] := trivial
theorem spec_l1One.ok (k : Nat) : Contract Try.prog 127 (spec_l1One.sem k) := fn_ok (C := spec_l1One.C k) (mkC_ok tys_ok (spec_l1One.env k) mix) Try.func127 rfl rfl (spec_l1One.e k)
theorem spec_l1One.code : CallOk Try.prog 127 := ⟨_, Try.func127, rfl, by kernel_rfl⟩
/-! loop.example/wholecheck/spec.l1Kind -/
noncomputable def spec_l1Kind.ps : S := (.pair (.agg (.pair I (.pair I (.pair I I)))) (.pair (.slice false I) (.pair I .unit)))
noncomputable def spec_l1Kind.sem (k : Nat) : Sem := mkSem [.sh, .sh, .sh] 1 I .sh .unit (.pair (.agg (.pair I (.pair I (.pair I I)))) (.pair (.slice false I) (.pair I .unit))) fun x => spec_l1Kind.f k x.1 x.2.1 x.2.2.1
noncomputable def spec_l1Kind.C (k : Nat) : Ctx := mkC tys [(52, spec_l1In.sem k), (127, spec_l1One.sem k)] (hintOf []) (headOf []) [] (ordOf []) (hidOf []) (jnOf [(3, [(1, none), (2, none), (3, none)]), (5, [(1, none), (3, none)]), (10, [(1, none), (3, none), (7, none)])])
noncomputable def spec_l1Kind.K0 (k : Nat) : Ex → List Slot → Option (Int × Unit) := kRet (spec_l1Kind.C k) Try.f123 1 I .sh [.sh, .sh, .sh] .unit
noncomputable def spec_l1Kind.Lj3 (k : Nat) (p0 : (Int × (Int × (Int × Int)))) (p1 : (List Int)) (p2 : Int) (n : Nat) : Option (Int × Unit) :=
  loopN ([(1, none), (2, none), (3, none)]) (fun σ _ => evalCode (spec_l1Kind.C k) k (codeAt [1, 1] (body Try.f123)) σ (kAt (spec_l1Kind.C k) k [1] (body Try.f123) [] (spec_l1Kind.K0 k))) n (st 107 [(3, .val (.ptr (.agg (.pair I (.pair I (.pair I I))))) (.ow .sh) p0), (2, .val I .sh p2), (1, .val (.slice false I) .sh p1)]) (kAt (spec_l1Kind.C k) k [1] (body Try.f123) [] (spec_l1Kind.K0 k))
noncomputable def spec_l1Kind.Lj5 (k : Nat) (p0 : (Int × (Int × (Int × Int)))) (p1 : (List Int)) (n : Nat) : Option (Int × Unit) :=
  loopN ([(1, none), (3, none)]) (fun σ _ => evalCode (spec_l1Kind.C k) k (codeAt [1, 1, 1] (body Try.f123)) σ (kAt (spec_l1Kind.C k) k [1, 1] (body Try.f123) [] (spec_l1Kind.K0 k))) n (st 107 [(3, .val (.ptr (.agg (.pair I (.pair I (.pair I I))))) (.ow .sh) p0), (1, .val (.slice false I) .sh p1)]) (kAt (spec_l1Kind.C k) k [1, 1] (body Try.f123) [] (spec_l1Kind.K0 k))
noncomputable def spec_l1Kind.Lj10 (k : Nat) (p0 : (Int × (Int × (Int × Int)))) (p1 : (List Int)) (n : Nat) (v7_j10 : Int) : Option (Int × Unit) :=
  loopN ([(1, none), (3, none), (7, none)]) (fun σ _ => evalCode (spec_l1Kind.C k) k (codeAt [1, 1, 1, 1, 1, 1] (body Try.f123)) σ (kAt (spec_l1Kind.C k) k [1, 1, 1, 1, 1] (body Try.f123) [] (spec_l1Kind.K0 k))) n (st 107 [(7, .val I .sh v7_j10), (3, .val (.ptr (.agg (.pair I (.pair I (.pair I I))))) (.ow .sh) p0), (1, .val (.slice false I) .sh p1)]) (kAt (spec_l1Kind.C k) k [1, 1, 1, 1, 1] (body Try.f123) [] (spec_l1Kind.K0 k))
theorem spec_l1Kind.sj10 (k : Nat) (p0 : (Int × (Int × (Int × Int)))) (p1 : (List Int)) (n : Nat) (v7_j10 : Int) : spec_l1Kind.Lj10 k p0 p1 (n + 1) v7_j10 = spec_l1Kind.bj10 k p0 p1 v7_j10 := by kernel_rfl
theorem spec_l1Kind.tj10 (k : Nat) (p0 : (Int × (Int × (Int × Int)))) (p1 : (List Int)) : ∀ n, spec_l1Kind.Lj10 k p0 p1 n = spec_l1Kind.lj10 k p0 p1 n := by
  intro n; induction n with
  | zero => rfl
  | succ n ih => funext v7_j10; rw [spec_l1Kind.sj10]; rfl
theorem spec_l1Kind.sj5 (k : Nat) (p0 : (Int × (Int × (Int × Int)))) (p1 : (List Int)) (n : Nat) : spec_l1Kind.Lj5 k p0 p1 (n + 1) = spec_l1Kind.bj5 k (spec_l1Kind.Lj10 k p0 p1 k) p0 p1 := by kernel_rfl
theorem spec_l1Kind.tj5 (k : Nat) (p0 : (Int × (Int × (Int × Int)))) (p1 : (List Int)) : ∀ n, spec_l1Kind.Lj5 k p0 p1 n = spec_l1Kind.lj5 k p0 p1 n := by
  intro n; induction n with
  | zero => rfl
  | succ n ih => rw [spec_l1Kind.sj5]; rw [spec_l1Kind.tj10 k p0 p1 k]; rfl
theorem spec_l1Kind.sj3 (k : Nat) (p0 : (Int × (Int × (Int × Int)))) (p1 : (List Int)) (p2 : Int) (n : Nat) : spec_l1Kind.Lj3 k p0 p1 p2 (n + 1) = spec_l1Kind.bj3 k (spec_l1Kind.Lj5 k p0 p1 k) p0 p2 := by kernel_rfl
theorem spec_l1Kind.tj3 (k : Nat) (p0 : (Int × (Int × (Int × Int)))) (p1 : (List Int)) (p2 : Int) : ∀ n, spec_l1Kind.Lj3 k p0 p1 p2 n = spec_l1Kind.lj3 k p0 p1 p2 n := by
  intro n; induction n with
  | zero => rfl
  | succ n ih => rw [spec_l1Kind.sj3]; rw [spec_l1Kind.tj5 k p0 p1 k]; rfl
theorem spec_l1Kind.s (k : Nat) (x : El spec_l1Kind.ps) : evalFn (spec_l1Kind.C k) k Try.f123 1 I .sh [.sh, .sh, .sh] .unit (unp spec_l1Kind.ps [.sh, .sh, .sh] x) = spec_l1Kind.bt k (spec_l1Kind.Lj3 k x.1 x.2.1 x.2.2.1 k) x.1 x.2.1 x.2.2.1 := by kernel_rfl
theorem spec_l1Kind.e (k : Nat) (x : El spec_l1Kind.ps) : evalFn (spec_l1Kind.C k) k Try.f123 1 I .sh [.sh, .sh, .sh] .unit (unp spec_l1Kind.ps [.sh, .sh, .sh] x) = spec_l1Kind.f k x.1 x.2.1 x.2.2.1 := by
  rw [spec_l1Kind.s]; rw [spec_l1Kind.tj3 k x.1 x.2.1 x.2.2.1 k]; rfl
theorem spec_l1Kind.env (k : Nat) : EnvOk Try.prog [(52, spec_l1In.sem k), (127, spec_l1One.sem k)] := ⟨⟨spec_l1In.ok k, spec_l1In.code⟩, ⟨spec_l1One.ok k, spec_l1One.code⟩, trivial⟩
theorem spec_l1Kind.ok (k : Nat) : Contract Try.prog 123 (spec_l1Kind.sem k) := fn_ok (C := spec_l1Kind.C k) (mkC_ok tys_ok (spec_l1Kind.env k) mix) Try.func123 rfl rfl (spec_l1Kind.e k)
theorem spec_l1Kind.code : CallOk Try.prog 123 := ⟨_, Try.func123, rfl, by kernel_rfl⟩
/-! loop.example/wholecheck/spec.KindsOf -/
noncomputable def spec_KindsOf.ps : S := (.pair (.slice false (.agg (.pair I (.pair I (.pair I I))))) (.pair I .unit))
noncomputable def spec_KindsOf.sem (k : Nat) : Sem := mkSem [.sh, .sh] 1 (.slice false I) (.ow .sh) .unit (.pair (.slice false (.agg (.pair I (.pair I (.pair I I))))) (.pair I .unit)) fun x => spec_KindsOf.f k x.1 x.2.1
noncomputable def spec_KindsOf.C (k : Nat) : Ctx := mkC tys [(52, spec_l1In.sem k), (123, spec_l1Kind.sem k)] (hintOf []) (headOf [(5, [(0, none), (1, none), (5, none), (6, none)])]) [] (ordOf []) (hidOf []) (jnOf [])
noncomputable def spec_KindsOf.K0 (k : Nat) : Ex → List Slot → Option ((List Int) × Unit) := kRet (spec_KindsOf.C k) Try.f118 1 (.slice false I) (.ow .sh) [.sh, .sh] .unit
noncomputable def spec_KindsOf.L5 (k : Nat) (p0 : (List (Int × (Int × (Int × Int))))) (p1 : Int) (n : Nat) (v5_5 : (List Int)) (v6_5 : Int) : Option ((List Int) × Unit) :=
  loopN ((spec_KindsOf.C k).head 5) (evalCode (spec_KindsOf.C k) k (codeAt [1, 1, 1, 0, 1, 0, 0] (body Try.f118))) n (st 38 [(6, .val I .sh v6_5), (5, .val (.slice false I) (.ow .sh) v5_5), (1, .val I .sh p1), (0, .val (.slice false (.agg (.pair I (.pair I (.pair I I))))) .sh p0)]) (kAt (spec_KindsOf.C k) k [1, 1, 1, 0, 1, 0] (body Try.f118) [] (spec_KindsOf.K0 k))
theorem spec_KindsOf.s5 (k : Nat) (p0 : (List (Int × (Int × (Int × Int))))) (p1 : Int) (n : Nat) (v5_5 : (List Int)) (v6_5 : Int) : spec_KindsOf.L5 k p0 p1 (n + 1) v5_5 v6_5 = spec_KindsOf.b5 k (spec_KindsOf.L5 k p0 p1 n) p0 p1 v5_5 v6_5 := by kernel_rfl
theorem spec_KindsOf.t5 (k : Nat) (p0 : (List (Int × (Int × (Int × Int))))) (p1 : Int) : ∀ n, spec_KindsOf.L5 k p0 p1 n = spec_KindsOf.l5 k p0 p1 n := by
  intro n; induction n with
  | zero => rfl
  | succ n ih => funext v5_5 v6_5; rw [spec_KindsOf.s5]; rw [ih]; rfl
theorem spec_KindsOf.s (k : Nat) (x : El spec_KindsOf.ps) : evalFn (spec_KindsOf.C k) k Try.f118 1 (.slice false I) (.ow .sh) [.sh, .sh] .unit (unp spec_KindsOf.ps [.sh, .sh] x) = spec_KindsOf.bt k (spec_KindsOf.L5 k x.1 x.2.1 k) x.1 x.2.1 := by kernel_rfl
theorem spec_KindsOf.e (k : Nat) (x : El spec_KindsOf.ps) : evalFn (spec_KindsOf.C k) k Try.f118 1 (.slice false I) (.ow .sh) [.sh, .sh] .unit (unp spec_KindsOf.ps [.sh, .sh] x) = spec_KindsOf.f k x.1 x.2.1 := by
  rw [spec_KindsOf.s]; rw [spec_KindsOf.t5 k x.1 x.2.1 k]; rfl
theorem spec_KindsOf.env (k : Nat) : EnvOk Try.prog [(52, spec_l1In.sem k), (123, spec_l1Kind.sem k)] := ⟨⟨spec_l1In.ok k, spec_l1In.code⟩, ⟨spec_l1Kind.ok k, spec_l1Kind.code⟩, trivial⟩
theorem spec_KindsOf.ok (k : Nat) : Contract Try.prog 118 (spec_KindsOf.sem k) := fn_ok (C := spec_KindsOf.C k) (mkC_ok tys_ok (spec_KindsOf.env k) mix) Try.func118 rfl rfl (spec_KindsOf.e k)
theorem spec_KindsOf.code : CallOk Try.prog 118 := ⟨_, Try.func118, rfl, by kernel_rfl⟩
/-! loop.example/wholecheck/spec.l2Is -/
noncomputable def spec_l2Is.ps : S := (.pair (.slice false (.agg (.pair I (.pair I (.pair I I))))) (.pair I (.pair I .unit)))
noncomputable def spec_l2Is.sem (k : Nat) : Sem := mkSem [.sh, .sh, .sh] 1 .bool .sh .unit (.pair (.slice false (.agg (.pair I (.pair I (.pair I I))))) (.pair I (.pair I .unit))) fun x => spec_l2Is.f k x.1 x.2.1 x.2.2.1
noncomputable def spec_l2Is.C (k : Nat) : Ctx := mkC tys [(118, spec_KindsOf.sem k)] (hintOf []) (headOf []) [] (ordOf []) (hidOf []) (jnOf [])
noncomputable def spec_l2Is.K0 (k : Nat) : Ex → List Slot → Option (Bool × Unit) := kRet (spec_l2Is.C k) Try.f102 1 .bool .sh [.sh, .sh, .sh] .unit
theorem spec_l2Is.s (k : Nat) (x : El spec_l2Is.ps) : evalFn (spec_l2Is.C k) k Try.f102 1 .bool .sh [.sh, .sh, .sh] .unit (unp spec_l2Is.ps [.sh, .sh, .sh] x) = spec_l2Is.bt k x.1 x.2.1 x.2.2.1 := by kernel_rfl
theorem spec_l2Is.e (k : Nat) (x : El spec_l2Is.ps) : evalFn (spec_l2Is.C k) k Try.f102 1 .bool .sh [.sh, .sh, .sh] .unit (unp spec_l2Is.ps [.sh, .sh, .sh] x) = spec_l2Is.f k x.1 x.2.1 x.2.2.1 := by
  rw [spec_l2Is.s]; rfl
theorem spec_l2Is.env (k : Nat) : EnvOk Try.prog [(118, spec_KindsOf.sem k)] := ⟨⟨spec_KindsOf.ok k, spec_KindsOf.code⟩, trivial⟩
theorem spec_l2Is.ok (k : Nat) : Contract Try.prog 102 (spec_l2Is.sem k) := fn_ok (C := spec_l2Is.C k) (mkC_ok tys_ok (spec_l2Is.env k) mix) Try.func102 rfl rfl (spec_l2Is.e k)
theorem spec_l2Is.code : CallOk Try.prog 102 := ⟨_, Try.func102, rfl, by kernel_rfl⟩
/-! loop.example/wholecheck/spec.l2Rule -/
noncomputable def spec_l2Rule.ps : S := (.pair (.agg (.pair (.slice false (.agg (.pair I (.pair I (.pair I I))))) (.pair (.slice false I) (.slice false (.slice false (.agg (.pair I (.pair I (.pair I I))))))))) (.pair I .unit))
noncomputable def spec_l2Rule.sem (k : Nat) : Sem := mkSem [.sh, .sh] 1 .bool .sh .unit (.pair (.agg (.pair (.slice false (.agg (.pair I (.pair I (.pair I I))))) (.pair (.slice false I) (.slice false (.slice false (.agg (.pair I (.pair I (.pair I I))))))))) (.pair I .unit)) fun x => spec_l2Rule.f k x.1 x.2.1
noncomputable def spec_l2Rule.C (k : Nat) : Ctx := mkC tys [(102, spec_l2Is.sem k), (52, spec_l1In.sem k)] (hintOf []) (headOf [(4, [(1, none), (2, none), (5, none)])]) [] (ordOf [(6, [0, 1, 2, 3, 4, 5, 6, 7, 8, 9, 10, 11, 12, 13, 14, 15, 16, 17, 18, 19, 20, 21, 22, 23, 24, 25, 26, 27, 28, 29, 30, 31, 32, 33, 34, 35, 36])]) (hidOf [((6, 7), [2]), ((6, 34), [2])]) (jnOf [])
noncomputable def spec_l2Rule.K0 (k : Nat) : Ex → List Slot → Option (Bool × Unit) := kRet (spec_l2Rule.C k) Try.f115 1 .bool .sh [.sh, .sh] .unit
noncomputable def spec_l2Rule.L4 (k : Nat) (p0 : ((List (Int × (Int × (Int × Int)))) × ((List Int) × (List (List (Int × (Int × (Int × Int)))))))) (p1 : Int) (n : Nat) (v5_4 : Int) : Option (Bool × Unit) :=
  loopN ((spec_l2Rule.C k).head 4) (evalCode (spec_l2Rule.C k) k (codeAt [1, 1, 0, 1, 0, 0] (body Try.f115))) n (st 71 [(5, .val I .sh v5_4), (2, .val (.ptr (.agg (.pair (.slice false (.agg (.pair I (.pair I (.pair I I))))) (.pair (.slice false I) (.slice false (.slice false (.agg (.pair I (.pair I (.pair I I)))))))))) (.ow .sh) p0), (1, .val I .sh p1)]) (kAt (spec_l2Rule.C k) k [1, 1, 0, 1, 0] (body Try.f115) [] (spec_l2Rule.K0 k))
theorem spec_l2Rule.s4 (k : Nat) (p0 : ((List (Int × (Int × (Int × Int)))) × ((List Int) × (List (List (Int × (Int × (Int × Int)))))))) (p1 : Int) (n : Nat) (v5_4 : Int) : spec_l2Rule.L4 k p0 p1 (n + 1) v5_4 = spec_l2Rule.b4 k (spec_l2Rule.L4 k p0 p1 n) p0 p1 v5_4 := by kernel_rfl
theorem spec_l2Rule.t4 (k : Nat) (p0 : ((List (Int × (Int × (Int × Int)))) × ((List Int) × (List (List (Int × (Int × (Int × Int)))))))) (p1 : Int) : ∀ n, spec_l2Rule.L4 k p0 p1 n = spec_l2Rule.l4 k p0 p1 n := by
  intro n; induction n with
  | zero => rfl
  | succ n ih => funext v5_4; rw [spec_l2Rule.s4]; rw [ih]; rfl
theorem spec_l2Rule.s (k : Nat) (x : El spec_l2Rule.ps) : evalFn (spec_l2Rule.C k) k Try.f115 1 .bool .sh [.sh, .sh] .unit (unp spec_l2Rule.ps [.sh, .sh] x) = spec_l2Rule.bt k (spec_l2Rule.L4 k x.1 x.2.1 k) x.1 x.2.1 := by kernel_rfl
theorem spec_l2Rule.e (k : Nat) (x : El spec_l2Rule.ps) : evalFn (spec_l2Rule.C k) k Try.f115 1 .bool .sh [.sh, .sh] .unit (unp spec_l2Rule.ps [.sh, .sh] x) = spec_l2Rule.f k x.1 x.2.1 := by
  rw [spec_l2Rule.s]; rw [spec_l2Rule.t4 k x.1 x.2.1 k]; rfl
theorem spec_l2Rule.env (k : Nat) : EnvOk Try.prog [(102, spec_l2Is.sem k), (52, spec_l1In.sem k)] := ⟨⟨spec_l2Is.ok k, spec_l2Is.code⟩, ⟨spec_l1In.ok k, spec_l1In.code⟩, trivial⟩
theorem spec_l2Rule.ok (k : Nat) : Contract Try.prog 115 (spec_l2Rule.sem k) := fn_ok (C := spec_l2Rule.C k) (mkC_ok tys_ok (spec_l2Rule.env k) mix) Try.func115 rfl rfl (spec_l2Rule.e k)
theorem spec_l2Rule.code : CallOk Try.prog 115 := ⟨_, Try.func115, rfl, by kernel_rfl⟩
/-! loop.example/wholecheck/spec.SystemValid -/
noncomputable def spec_SystemValid.ps : S := (.pair (.agg (.pair (.slice false (.agg (.pair I (.pair I I)))) (.slice false (.agg (.pair (.slice false (.agg (.pair I (.pair I (.pair I I))))) (.pair (.slice false I) (.slice false (.slice false (.agg (.pair I (.pair I (.pair I I)))))))))))) .unit)
noncomputable def spec_SystemValid.sem (k : Nat) : Sem := mkSem [.sh] 1 .bool .sh .unit (.pair (.agg (.pair (.slice false (.agg (.pair I (.pair I I)))) (.slice false (.agg (.pair (.slice false (.agg (.pair I (.pair I (.pair I I))))) (.pair (.slice false I) (.slice false (.slice false (.agg (.pair I (.pair I (.pair I I)))))))))))) .unit) fun x => spec_SystemValid.f k x.1
noncomputable def spec_SystemValid.C (k : Nat) : Ctx := mkC tys [(52, spec_l1In.sem k), (114, spec_l2Var.sem k), (115, spec_l2Rule.sem k)] (hintOf [((9, 16), 3)]) (headOf [(5, [(1, none), (3, none), (4, none)]), (11, [(1, none), (3, none), (5, none)])]) [] (ordOf [(9, [0, 1, 2, 3, 4, 5, 6, 7, 8, 9, 10, 11, 12, 13, 14, 15, 16]), (13, [0, 1, 2, 3, 4, 5, 6, 7, 8, 9])]) (hidOf [((13, 8), [1])]) (jnOf [])
noncomputable def spec_SystemValid.K0 (k : Nat) : Ex → List Slot → Option (Bool × Unit) := kRet (spec_SystemValid.C k) Try.f86 1 .bool .sh [.sh] .unit
noncomputable def spec_SystemValid.L5 (k : Nat) (p0 : ((List (Int × (Int × Int))) × (List ((List (Int × (Int × (Int × Int)))) × ((List Int) × (List (List (Int × (Int × (Int × Int)))))))))) (n : Nat) (v3_5 : Int) (v4_5 : Int) : Option (Bool × Unit) :=
  loopN ((spec_SystemValid.C k).head 5) (evalCode (spec_SystemValid.C k) k (codeAt [1, 1, 1, 0, 1, 0, 0] (body Try.f86))) n (st 66 [(4, .val I .sh v4_5), (3, .val I .sh v3_5), (1, .val (.ptr (.agg (.pair (.slice false (.agg (.pair I (.pair I I)))) (.slice false (.agg (.pair (.slice false (.agg (.pair I (.pair I (.pair I I))))) (.pair (.slice false I) (.slice false (.slice false (.agg (.pair I (.pair I (.pair I I))))))))))))) (.ow .sh) p0)]) (kAt (spec_SystemValid.C k) k [1, 1, 1, 0, 1, 0] (body Try.f86) [] (spec_SystemValid.K0 k))
noncomputable def spec_SystemValid.L11 (k : Nat) (p0 : ((List (Int × (Int × Int))) × (List ((List (Int × (Int × (Int × Int)))) × ((List Int) × (List (List (Int × (Int × (Int × Int)))))))))) (v3_5 : Int) (n : Nat) (v5_11 : Int) : Option (Bool × Unit) :=
  loopN ((spec_SystemValid.C k).head 11) (evalCode (spec_SystemValid.C k) k (codeAt [1, 1, 1, 1, 0, 1, 0, 0] (body Try.f86))) n (st 66 [(5, .val I .sh v5_11), (3, .val I .sh v3_5), (1, .val (.ptr (.agg (.pair (.slice false (.agg (.pair I (.pair I I)))) (.slice false (.agg (.pair (.slice false (.agg (.pair I (.pair I (.pair I I))))) (.pair (.slice false I) (.slice false (.slice false (.agg (.pair I (.pair I (.pair I I))))))))))))) (.ow .sh) p0)]) (kAt (spec_SystemValid.C k) k [1, 1, 1, 1, 0, 1, 0] (body Try.f86) [] (spec_SystemValid.K0 k))
theorem spec_SystemValid.s11 (k : Nat) (p0 : ((List (Int × (Int × Int))) × (List ((List (Int × (Int × (Int × Int)))) × ((List Int) × (List (List (Int × (Int × (Int × Int)))))))))) (v3_5 : Int) (n : Nat) (v5_11 : Int) : spec_SystemValid.L11 k p0 v3_5 (n + 1) v5_11 = spec_SystemValid.b11 k (spec_SystemValid.L11 k p0 v3_5 n) p0 v3_5 v5_11 := by kernel_rfl
theorem spec_SystemValid.t11 (k : Nat) (p0 : ((List (Int × (Int × Int))) × (List ((List (Int × (Int × (Int × Int)))) × ((List Int) × (List (List (Int × (Int × (Int × Int)))))))))) (v3_5 : Int) : ∀ n, spec_SystemValid.L11 k p0 v3_5 n = spec_SystemValid.l11 k p0 v3_5 n := by
  intro n; induction n with
  | zero => rfl
  | succ n ih => funext v5_11; rw [spec_SystemValid.s11]; rw [ih]; rfl
theorem spec_SystemValid.s5 (k : Nat) (p0 : ((List (Int × (Int × Int))) × (List ((List (Int × (Int × (Int × Int)))) × ((List Int) × (List (List (Int × (Int × (Int × Int)))))))))) (n : Nat) (v3_5 : Int) (v4_5 : Int) : spec_SystemValid.L5 k p0 (n + 1) v3_5 v4_5 = spec_SystemValid.b5 k (spec_SystemValid.L5 k p0 n) (spec_SystemValid.L11 k p0 v3_5 k) p0 v3_5 v4_5 := by kernel_rfl
theorem spec_SystemValid.t5 (k : Nat) (p0 : ((List (Int × (Int × Int))) × (List ((List (Int × (Int × (Int × Int)))) × ((List Int) × (List (List (Int × (Int × (Int × Int)))))))))) : ∀ n, spec_SystemValid.L5 k p0 n = spec_SystemValid.l5 k p0 n := by
  intro n; induction n with
  | zero => rfl
  | succ n ih => funext v3_5 v4_5; rw [spec_SystemValid.s5]; rw [spec_SystemValid.t11 k p0 v3_5 k, ih]; rfl
theorem spec_SystemValid.s (k : Nat) (x : El spec_SystemValid.ps) : evalFn (spec_SystemValid.C k) k Try.f86 1 .bool .sh [.sh] .unit (unp spec_SystemValid.ps [.sh] x) = spec_SystemValid.bt k (spec_SystemValid.L5 k x.1 k) x.1 := by kernel_rfl
theorem spec_SystemValid.e (k : Nat) (x : El spec_SystemValid.ps) : evalFn (spec_SystemValid.C k) k Try.f86 1 .bool .sh [.sh] .unit (unp spec_SystemValid.ps [.sh] x) = spec_SystemValid.f k x.1 := by
  rw [spec_SystemValid.s]; rw [spec_SystemValid.t5 k x.1 k]; rfl
theorem spec_SystemValid.env (k : Nat) : EnvOk Try.prog [(52, spec_l1In.sem k), (114, spec_l2Var.sem k), (115, spec_l2Rule.sem k)] := ⟨⟨spec_l1In.ok k, spec_l1In.code⟩, ⟨spec_l2Var.ok k, spec_l2Var.code⟩, ⟨spec_l2Rule.ok k, spec_l2Rule.code⟩, trivial⟩
theorem spec_SystemValid.ok (k : Nat) : Contract Try.prog 86 (spec_SystemValid.sem k) := fn_ok (C := spec_SystemValid.C k) (mkC_ok tys_ok (spec_SystemValid.env k) mix) Try.func86 rfl rfl (spec_SystemValid.e k)
theorem spec_SystemValid.code : CallOk Try.prog 86 := ⟨_, Try.func86, rfl, by kernel_rfl⟩
/-! loop.example/wholecheck/spec.SizeOf -/
noncomputable def spec_SizeOf.ps : S := (.pair (.agg (.pair (.slice false (.agg (.pair I (.pair I I)))) (.slice false (.agg (.pair (.slice false (.agg (.pair I (.pair I (.pair I I))))) (.pair (.slice false I) (.slice false (.slice false (.agg (.pair I (.pair I (.pair I I)))))))))))) .unit)
noncomputable def spec_SizeOf.sem (k : Nat) : Sem := mkSem [.sh] 1 I .sh .unit (.pair (.agg (.pair (.slice false (.agg (.pair I (.pair I I)))) (.slice false (.agg (.pair (.slice false (.agg (.pair I (.pair I (.pair I I))))) (.pair (.slice false I) (.slice false (.slice false (.agg (.pair I (.pair I (.pair I I)))))))))))) .unit) fun x => spec_SizeOf.f k x.1
noncomputable def spec_SizeOf.C (k : Nat) : Ctx := mkC tys [(86, spec_SystemValid.sem k)] (hintOf [((7, 16), 3)]) (headOf [(5, [(1, none), (3, none), (4, none)])]) [] (ordOf [(7, [0, 1, 2, 3, 4, 5, 6, 7, 8, 9, 10, 11, 12, 13, 14, 15, 16])]) (hidOf []) (jnOf [])
noncomputable def spec_SizeOf.K0 (k : Nat) : Ex → List Slot → Option (Int × Unit) := kRet (spec_SizeOf.C k) Try.f51 1 I .sh [.sh] .unit
noncomputable def spec_SizeOf.L5 (k : Nat) (p0 : ((List (Int × (Int × Int))) × (List ((List (Int × (Int × (Int × Int)))) × ((List Int) × (List (List (Int × (Int × (Int × Int)))))))))) (n : Nat) (v3_5 : Int) (v4_5 : Int) : Option (Int × Unit) :=
  loopN ((spec_SizeOf.C k).head 5) (evalCode (spec_SizeOf.C k) k (codeAt [1, 1, 1, 0, 1, 0, 0] (body Try.f51))) n (st 32 [(4, .val I .sh v4_5), (3, .val I .sh v3_5), (1, .val (.ptr (.agg (.pair (.slice false (.agg (.pair I (.pair I I)))) (.slice false (.agg (.pair (.slice false (.agg (.pair I (.pair I (.pair I I))))) (.pair (.slice false I) (.slice false (.slice false (.agg (.pair I (.pair I (.pair I I))))))))))))) (.ow .sh) p0)]) (kAt (spec_SizeOf.C k) k [1, 1, 1, 0, 1, 0] (body Try.f51) [] (spec_SizeOf.K0 k))
theorem spec_SizeOf.s5 (k : Nat) (p0 : ((List (Int × (Int × Int))) × (List ((List (Int × (Int × (Int × Int)))) × ((List Int) × (List (List (Int × (Int × (Int × Int)))))))))) (n : Nat) (v3_5 : Int) (v4_5 : Int) : spec_SizeOf.L5 k p0 (n + 1) v3_5 v4_5 = spec_SizeOf.b5 k (spec_SizeOf.L5 k p0 n) p0 v3_5 v4_5 := by kernel_rfl
theorem spec_SizeOf.t5 (k : Nat) (p0 : ((List (Int × (Int × Int))) × (List ((List (Int × (Int × (Int × Int)))) × ((List Int) × (List (List (Int × (Int × (Int × Int)))))))))) : ∀ n, spec_SizeOf.L5 k p0 n = spec_SizeOf.l5 k p0 n := by
  intro n; induction n with
  | zero => rfl
  | succ n ih => funext v3_5 v4_5; rw [spec_SizeOf.s5]; rw [ih]; rfl
theorem spec_SizeOf.s (k : Nat) (x : El spec_SizeOf.ps) : evalFn (spec_SizeOf.C k) k Try.f51 1 I .sh [.sh] .unit (unp spec_SizeOf.ps [.sh] x) = spec_SizeOf.bt k (spec_SizeOf.L5 k x.1 k) x.1 := by kernel_rfl
theorem spec_SizeOf.e (k : Nat) (x : El spec_SizeOf.ps) : evalFn (spec_SizeOf.C k) k Try.f51 1 I .sh [.sh] .unit (unp spec_SizeOf.ps [.sh] x) = spec_SizeOf.f k x.1 := by
  rw [spec_SizeOf.s]; rw [spec_SizeOf.t5 k x.1 k]; rfl
theorem spec_SizeOf.env (k : Nat) : EnvOk Try.prog [(86, spec_SystemValid.sem k)] := ⟨⟨spec_SystemValid.ok k, spec_SystemValid.code⟩, trivial⟩
theorem spec_SizeOf.ok (k : Nat) : Contract Try.prog 51 (spec_SizeOf.sem k) := fn_ok (C := spec_SizeOf.C k) (mkC_ok tys_ok (spec_SizeOf.env k) mix) Try.func51 rfl rfl (spec_SizeOf.e k)
theorem spec_SizeOf.code : CallOk Try.prog 51 := ⟨_, Try.func51, rfl, by kernel_rfl⟩
/-! loop.example/wholecheck/spec.BlocksValid -/
noncomputable def spec_BlocksValid.ps : S := (.pair (.agg (.pair (.slice false (.agg (.pair I (.pair I I)))) (.slice false (.agg (.pair (.slice false (.agg (.pair I (.pair I (.pair I I))))) (.pair (.slice false I) (.slice false (.slice false (.agg (.pair I (.pair I (.pair I I)))))))))))) (.pair (.agg (.slice false I)) .unit))
noncomputable def spec_BlocksValid.sem (k : Nat) : Sem := mkSem [.sh, .sh] 1 .bool .sh .unit (.pair (.agg (.pair (.slice false (.agg (.pair I (.pair I I)))) (.slice false (.agg (.pair (.slice false (.agg (.pair I (.pair I (.pair I I))))) (.pair (.slice false I) (.slice false (.slice false (.agg (.pair I (.pair I (.pair I I)))))))))))) (.pair (.agg (.slice false I)) .unit)) fun x => spec_BlocksValid.f k x.1 x.2.1
noncomputable def spec_BlocksValid.C (k : Nat) : Ctx := mkC tys [(51, spec_SizeOf.sem k), (52, spec_l1In.sem k)] (hintOf []) (headOf [(4, [(3, none), (5, none)])]) [] (ordOf [(1, [0, 1, 2, 3, 4, 5, 6, 7, 8, 9, 10, 11]), (6, [0, 1, 2, 3, 4, 5, 6, 7, 8, 9, 10, 11, 12, 13, 14, 15, 16, 17, 18, 19, 20, 21, 22, 23, 24])]) (hidOf [((1, 4), [3]), ((6, 6), [3])]) (jnOf [])
noncomputable def spec_BlocksValid.K0 (k : Nat) : Ex → List Slot → Option (Bool × Unit) := kRet (spec_BlocksValid.C k) Try.f23 1 .bool .sh [.sh, .sh] .unit
noncomputable def spec_BlocksValid.L4 (k : Nat) (p1 : (List Int)) (n : Nat) (v5_4 : Int) : Option (Bool × Unit) :=
  loopN ((spec_BlocksValid.C k).head 4) (evalCode (spec_BlocksValid.C k) k (codeAt [1, 1, 0, 1, 0, 0] (body Try.f23))) n (st 50 [(5, .val I .sh v5_4), (3, .val (.ptr (.agg (.slice false I))) (.ow .sh) p1)]) (kAt (spec_BlocksValid.C k) k [1, 1, 0, 1, 0] (body Try.f23) [] (spec_BlocksValid.K0 k))
theorem spec_BlocksValid.s4 (k : Nat) (p1 : (List Int)) (n : Nat) (v5_4 : Int) : spec_BlocksValid.L4 k p1 (n + 1) v5_4 = spec_BlocksValid.b4 k (spec_BlocksValid.L4 k p1 n) p1 v5_4 := by kernel_rfl
theorem spec_BlocksValid.t4 (k : Nat) (p1 : (List Int)) : ∀ n, spec_BlocksValid.L4 k p1 n = spec_BlocksValid.l4 k p1 n := by
  intro n; induction n with
  | zero => rfl
  | succ n ih => funext v5_4; rw [spec_BlocksValid.s4]; rw [ih]; rfl
theorem spec_BlocksValid.s (k : Nat) (x : El spec_BlocksValid.ps) : evalFn (spec_BlocksValid.C k) k Try.f23 1 .bool .sh [.sh, .sh] .unit (unp spec_BlocksValid.ps [.sh, .sh] x) = spec_BlocksValid.bt k (spec_BlocksValid.L4 k x.2.1 k) x.1 x.2.1 := by kernel_rfl
theorem spec_BlocksValid.e (k : Nat) (x : El spec_BlocksValid.ps) : evalFn (spec_BlocksValid.C k) k Try.f23 1 .bool .sh [.sh, .sh] .unit (unp spec_BlocksValid.ps [.sh, .sh] x) = spec_BlocksValid.f k x.1 x.2.1 := by
  rw [spec_BlocksValid.s]; rw [spec_BlocksValid.t4 k x.2.1 k]; rfl
theorem spec_BlocksValid.env (k : Nat) : EnvOk Try.prog [(51, spec_SizeOf.sem k), (52, spec_l1In.sem k)] := ⟨⟨spec_SizeOf.ok k, spec_SizeOf.code⟩, ⟨spec_l1In.ok k, spec_l1In.code⟩, trivial⟩
theorem spec_BlocksValid.ok (k : Nat) : Contract Try.prog 23 (spec_BlocksValid.sem k) := fn_ok (C := spec_BlocksValid.C k) (mkC_ok tys_ok (spec_BlocksValid.env k) mix) Try.func23 rfl rfl (spec_BlocksValid.e k)
theorem spec_BlocksValid.code : CallOk Try.prog 23 := ⟨_, Try.func23, rfl, by kernel_rfl⟩
/-! loop.example/wholecheck/impl.varOk -/
noncomputable def impl_varOk.ps : S := (.pair (.agg (.pair I (.pair I I))) .unit)
noncomputable def impl_varOk.sem (k : Nat) : Sem := mkSem [.sh] 1 .bool .sh .unit (.pair (.agg (.pair I (.pair I I))) .unit) fun x => impl_varOk.f k x.1
noncomputable def impl_varOk.C (k : Nat) : Ctx := mkC tys [(80, impl_in.sem k)] (hintOf []) (headOf []) [] (ordOf []) (hidOf []) (jnOf [])
noncomputable def impl_varOk.K0 (k : Nat) : Ex → List Slot → Option (Bool × Unit) := kRet (impl_varOk.C k) Try.f91 1 .bool .sh [.sh] .unit
theorem impl_varOk.s (k : Nat) (x : El impl_varOk.ps) : evalFn (impl_varOk.C k) k Try.f91 1 .bool .sh [.sh] .unit (unp impl_varOk.ps [.sh] x) = impl_varOk.bt k x.1 := by kernel_rfl
theorem impl_varOk.e (k : Nat) (x : El impl_varOk.ps) : evalFn (impl_varOk.C k) k Try.f91 1 .bool .sh [.sh] .unit (unp impl_varOk.ps [.sh] x) = impl_varOk.f k x.1 := by
  rw [impl_varOk.s]; rfl
theorem impl_varOk.env (k : Nat) : EnvOk Try.prog [(80, impl_in.sem k)] := ⟨⟨impl_in.ok k, impl_in.code⟩, trivial⟩
theorem impl_varOk.ok (k : Nat) : Contract Try.prog 91 (impl_varOk.sem k) := fn_ok (C := impl_varOk.C k) (mkC_ok tys_ok (impl_varOk.env k) mix) Try.func91 rfl rfl (impl_varOk.e k)
theorem impl_varOk.code : CallOk Try.prog 91 := ⟨_, Try.func91, rfl, by kernel_rfl⟩
/-! loop.example/wholecheck/impl.SystemValid$1 -/
noncomputable def impl_SystemValid_1.ps : S := (.pair (.agg (.pair I (.pair I I))) .unit)
noncomputable def impl_SystemValid_1.sem (k : Nat) : Sem := mkSem [.sh] 1 .bool .sh .unit (.pair (.agg (.pair I (.pair I I))) .unit) fun x => impl_SystemValid_1.f k x.1
noncomputable def impl_SystemValid_1.C (k : Nat) : Ctx := mkC tys [(91, impl_varOk.sem k)] (hintOf []) (headOf []) [] (ordOf []) (hidOf []) (jnOf [])
noncomputable def impl_SystemValid_1.K0 (k : Nat) : Ex → List Slot → Option (Bool × Unit) := kRet (impl_SystemValid_1.C k) Try.f90 1 .bool .sh [.sh] .unit
theorem impl_SystemValid_1.s (k : Nat) (x : El impl_SystemValid_1.ps) : evalFn (impl_SystemValid_1.C k) k Try.f90 1 .bool .sh [.sh] .unit (unp impl_SystemValid_1.ps [.sh] x) = impl_SystemValid_1.bt k x.1 := by kernel_rfl
theorem impl_SystemValid_1.e (k : Nat) (x : El impl_SystemValid_1.ps) : evalFn (impl_SystemValid_1.C k) k Try.f90 1 .bool .sh [.sh] .unit (unp impl_SystemValid_1.ps [.sh] x) = impl_SystemValid_1.f k x.1 := by
  rw [impl_SystemValid_1.s]; rfl
theorem impl_SystemValid_1.env (k : Nat) : EnvOk Try.prog [(91, impl_varOk.sem k)] := ⟨⟨impl_varOk.ok k, impl_varOk.code⟩, trivial⟩
theorem impl_SystemValid_1.ok (k : Nat) : Contract Try.prog 90 (impl_SystemValid_1.sem k) := fn_ok (C := impl_SystemValid_1.C k) (mkC_ok tys_ok (impl_SystemValid_1.env k) mix) Try.func90 rfl rfl (impl_SystemValid_1.e k)
theorem impl_SystemValid_1.code : CallOk Try.prog 90 := ⟨_, Try.func90, rfl, by kernel_rfl⟩
/-! slices.IndexFunc[[]loop.example/wholecheck/impl.Var,loop.example/wholecheck/impl.Var] -/
noncomputable def slices_IndexFunc_impl_Var_impl_Var.ps : S := (.pair (.slice false (.agg (.pair I (.pair I I)))) (.pair (.func (.agg (.pair I (.pair I I))) .bool) .unit))
noncomputable def slices_IndexFunc_impl_Var_impl_Var.sem (k : Nat) : Sem := mkSem [.sh, .sh] 1 I .sh .unit (.pair (.slice false (.agg (.pair I (.pair I I)))) (.pair (.func (.agg (.pair I (.pair I I))) .bool) .unit)) fun x => slices_IndexFunc_impl_Var_impl_Var.f k x.1 x.2.1
noncomputable def slices_IndexFunc_impl_Var_impl_Var.C (k : Nat) : Ctx := mkC tys [] (hintOf []) (headOf [(2, [(0, none), (1, none), (7, none), (8, none)])]) [] (ordOf []) (hidOf []) (jnOf [])
noncomputable def slices_IndexFunc_impl_Var_impl_Var.K0 (k : Nat) : Ex → List Slot → Option (Int × Unit) := kRet (slices_IndexFunc_impl_Var_impl_Var.C k) Try.f116 1 I .sh [.sh, .sh] .unit
noncomputable def slices_IndexFunc_impl_Var_impl_Var.L2 (k : Nat) (p0 : (List (Int × (Int × Int)))) (p1 : ((Int × (Int × Int)) → Option Bool)) (n : Nat) (v8_2 : Int) : Option (Int × Unit) :=
  loopN ((slices_IndexFunc_impl_Var_impl_Var.C k).head 2) (evalCode (slices_IndexFunc_impl_Var_impl_Var.C k) k (codeAt [1, 0, 1, 0, 0] (body Try.f116))) n (st 19 [(8, .val I .sh v8_2), (7, .val I .sh ((p0.length : Int))), (1, .val (.func (.agg (.pair I (.pair I I))) .bool) .sh p1), (0, .val (.slice false (.agg (.pair I (.pair I I)))) .sh p0)]) (kAt (slices_IndexFunc_impl_Var_impl_Var.C k) k [1, 0, 1, 0] (body Try.f116) [] (slices_IndexFunc_impl_Var_impl_Var.K0 k))
theorem slices_IndexFunc_impl_Var_impl_Var.s2 (k : Nat) (p0 : (List (Int × (Int × Int)))) (p1 : ((Int × (Int × Int)) → Option Bool)) (n : Nat) (v8_2 : Int) : slices_IndexFunc_impl_Var_impl_Var.L2 k p0 p1 (n + 1) v8_2 = slices_IndexFunc_impl_Var_impl_Var.b2 k (slices_IndexFunc_impl_Var_impl_Var.L2 k p0 p1 n) p0 p1 v8_2 := by kernel_rfl
theorem slices_IndexFunc_impl_Var_impl_Var.t2 (k : Nat) (p0 : (List (Int × (Int × Int)))) (p1 : ((Int × (Int × Int)) → Option Bool)) : ∀ n, slices_IndexFunc_impl_Var_impl_Var.L2 k p0 p1 n = slices_IndexFunc_impl_Var_impl_Var.l2 k p0 p1 n := by
  intro n; induction n with
  | zero => rfl
  | succ n ih => funext v8_2; rw [slices_IndexFunc_impl_Var_impl_Var.s2]; rw [ih]; rfl
theorem slices_IndexFunc_impl_Var_impl_Var.s (k : Nat) (x : El slices_IndexFunc_impl_Var_impl_Var.ps) : evalFn (slices_IndexFunc_impl_Var_impl_Var.C k) k Try.f116 1 I .sh [.sh, .sh] .unit (unp slices_IndexFunc_impl_Var_impl_Var.ps [.sh, .sh] x) = slices_IndexFunc_impl_Var_impl_Var.bt k (slices_IndexFunc_impl_Var_impl_Var.L2 k x.1 x.2.1 k) x.1 x.2.1 := by kernel_rfl
theorem slices_IndexFunc_impl_Var_impl_Var.e (k : Nat) (x : El slices_IndexFunc_impl_Var_impl_Var.ps) : evalFn (slices_IndexFunc_impl_Var_impl_Var.C k) k Try.f116 1 I .sh [.sh, .sh] .unit (unp slices_IndexFunc_impl_Var_impl_Var.ps [.sh, .sh] x) = slices_IndexFunc_impl_Var_impl_Var.f k x.1 x.2.1 := by
  rw [slices_IndexFunc_impl_Var_impl_Var.s]; rw [slices_IndexFunc_impl_Var_impl_Var.t2 k x.1 x.2.1 k]; rfl
theorem slices_IndexFunc_impl_Var_impl_Var.env (k : Nat) : EnvOk Try.prog [] := trivial
theorem slices_IndexFunc_impl_Var_impl_Var.ok (k : Nat) : Contract Try.prog 116 (slices_IndexFunc_impl_Var_impl_Var.sem k) := fn_ok (C := slices_IndexFunc_impl_Var_impl_Var.C k) (mkC_ok tys_ok (slices_IndexFunc_impl_Var_impl_Var.env k) mix) Try.func116 rfl rfl (slices_IndexFunc_impl_Var_impl_Var.e k)
theorem slices_IndexFunc_impl_Var_impl_Var.code : CallOk Try.prog 116 := ⟨_, Try.func116, rfl, by kernel_rfl⟩
/-! slices.ContainsFunc[[]loop.example/wholecheck/impl.Var,loop.example/wholecheck/impl.Var] -/
noncomputable def slices_ContainsFunc_impl_Var_impl_Var.ps : S := (.pair (.slice false (.agg (.pair I (.pair I I)))) (.pair (.func (.agg (.pair I (.pair I I))) .bool) .unit))
noncomputable def slices_ContainsFunc_impl_Var_impl_Var.sem (k : Nat) : Sem := mkSem [.sh, .sh] 1 .bool .sh .unit (.pair (.slice false (.agg (.pair I (.pair I I)))) (.pair (.func (.agg (.pair I (.pair I I))) .bool) .unit)) fun x => slices_ContainsFunc_impl_Var_impl_Var.f k x.1 x.2.1
noncomputable def slices_ContainsFunc_impl_Var_impl_Var.C (k : Nat) : Ctx := mkC tys [(116, slices_IndexFunc_impl_Var_impl_Var.sem k)] (hintOf []) (headOf []) [] (ordOf []) (hidOf []) (jnOf [])
noncomputable def slices_ContainsFunc_impl_Var_impl_Var.K0 (k : Nat) : Ex → List Slot → Option (Bool × Unit) := kRet (slices_ContainsFunc_impl_Var_impl_Var.C k) Try.f89 1 .bool .sh [.sh, .sh] .unit
theorem slices_ContainsFunc_impl_Var_impl_Var.s (k : Nat) (x : El slices_ContainsFunc_impl_Var_impl_Var.ps) : evalFn (slices_ContainsFunc_impl_Var_impl_Var.C k) k Try.f89 1 .bool .sh [.sh, .sh] .unit (unp slices_ContainsFunc_impl_Var_impl_Var.ps [.sh, .sh] x) = slices_ContainsFunc_impl_Var_impl_Var.bt k x.1 x.2.1 := by kernel_rfl
theorem slices_ContainsFunc_impl_Var_impl_Var.e (k : Nat) (x : El slices_ContainsFunc_impl_Var_impl_Var.ps) : evalFn (slices_ContainsFunc_impl_Var_impl_Var.C k) k Try.f89 1 .bool .sh [.sh, .sh] .unit (unp slices_ContainsFunc_impl_Var_impl_Var.ps [.sh, .sh] x) = slices_ContainsFunc_impl_Var_impl_Var.f k x.1 x.2.1 := by
  rw [slices_ContainsFunc_impl_Var_impl_Var.s]; rfl
theorem slices_ContainsFunc_impl_Var_impl_Var.env (k : Nat) : EnvOk Try.prog [(116, slices_IndexFunc_impl_Var_impl_Var.sem k)] := ⟨⟨slices_IndexFunc_impl_Var_impl_Var.ok k, slices_IndexFunc_impl_Var_impl_Var.code⟩, trivial⟩
theorem slices_ContainsFunc_impl_Var_impl_Var.ok (k : Nat) : Contract Try.prog 89 (slices_ContainsFunc_impl_Var_impl_Var.sem k) := fn_ok (C := slices_ContainsFunc_impl_Var_impl_Var.C k) (mkC_ok tys_ok (slices_ContainsFunc_impl_Var_impl_Var.env k) mix) Try.func89 rfl rfl (slices_ContainsFunc_impl_Var_impl_Var.e k)
theorem slices_ContainsFunc_impl_Var_impl_Var.code : CallOk Try.prog 89 := ⟨_, Try.func89, rfl, by kernel_rfl⟩
/-! loop.example/wholecheck/impl.size -/
noncomputable def impl_size.ps : S := (.pair (.slice false (.agg (.pair I (.pair I I)))) .unit)
noncomputable def impl_size.sem (k : Nat) : Sem := mkSem [.sh] 1 I .sh .unit (.pair (.slice false (.agg (.pair I (.pair I I)))) .unit) fun x => impl_size.f k x.1
noncomputable def impl_size.C (k : Nat) : Ctx := mkC tys [] (hintOf []) (headOf [(3, [(3, none), (6, none), (7, none), (8, none)])]) [] (ordOf []) (hidOf []) (jnOf [])
noncomputable def impl_size.K0 (k : Nat) : Ex → List Slot → Option (Int × Unit) := kRet (impl_size.C k) Try.f92 1 I .sh [.sh] .unit
noncomputable def impl_size.L3 (k : Nat) (p0 : (List (Int × (Int × Int)))) (n : Nat) (v3_3 : Int) (v8_3 : Int) : Option (Int × Unit) :=
  loopN ((impl_size.C k).head 3) (evalCode (impl_size.C k) k (codeAt [1, 1, 0, 1, 0, 0] (body Try.f92))) n (st 22 [(8, .val I .sh v8_3), (7, .val I .sh ((p0.length : Int))), (6, .val (.slice false (.agg (.pair I (.pair I I)))) .sh p0), (3, .val I .sh v3_3)]) (kAt (impl_size.C k) k [1, 1, 0, 1, 0] (body Try.f92) [] (impl_size.K0 k))
theorem impl_size.s3 (k : Nat) (p0 : (List (Int × (Int × Int)))) (n : Nat) (v3_3 : Int) (v8_3 : Int) : impl_size.L3 k p0 (n + 1) v3_3 v8_3 = impl_size.b3 k (impl_size.L3 k p0 n) p0 v3_3 v8_3 := by kernel_rfl
theorem impl_size.t3 (k : Nat) (p0 : (List (Int × (Int × Int)))) : ∀ n, impl_size.L3 k p0 n = impl_size.l3 k p0 n := by
  intro n; induction n with
  | zero => rfl
  | succ n ih => funext v3_3 v8_3; rw [impl_size.s3]; rw [ih]; rfl
theorem impl_size.s (k : Nat) (x : El impl_size.ps) : evalFn (impl_size.C k) k Try.f92 1 I .sh [.sh] .unit (unp impl_size.ps [.sh] x) = impl_size.bt k (impl_size.L3 k x.1 k) x.1 := by kernel_rfl
theorem impl_size.e (k : Nat) (x : El impl_size.ps) : evalFn (impl_size.C k) k Try.f92 1 I .sh [.sh] .unit (unp impl_size.ps [.sh] x) = impl_size.f k x.1 := by
  rw [impl_size.s]; rw [impl_size.t3 k x.1 k]; rfl
theorem impl_size.env (k : Nat) : EnvOk Try.prog [] := trivial
theorem impl_size.ok (k : Nat) : Contract Try.prog 92 (impl_size.sem k) := fn_ok (C := impl_size.C k) (mkC_ok tys_ok (impl_size.env k) mix) Try.func92 rfl rfl (impl_size.e k)
theorem impl_size.code : CallOk Try.prog 92 := ⟨_, Try.func92, rfl, by kernel_rfl⟩
/-! loop.example/wholecheck/impl.parts -/
noncomputable def impl_parts.ps : S := (.pair I .unit)
noncomputable def impl_parts.sem (k : Nat) : Sem := mkSem [.sh] 3 (.pair I (.pair I I)) (.pr .sh (.pr .sh .sh)) .unit (.pair I .unit) fun x => impl_parts.f k x.1
noncomputable def impl_parts.C (k : Nat) : Ctx := mkC tys [] (hintOf []) (headOf []) [] (ordOf []) (hidOf []) (jnOf [(8, [(5, none), (10, none)])])
noncomputable def impl_parts.K0 (k : Nat) : Ex → List Slot → Option ((Int × (Int × Int)) × Unit) := kRet (impl_parts.C k) Try.f125 3 (.pair I (.pair I I)) (.pr .sh (.pr .sh .sh)) [.sh] .unit
noncomputable def impl_parts.Lj8 (k : Nat) (p0 : Int) (n : Nat) (v10_j8 : Bool) : Option ((Int × (Int × Int)) × Unit) :=
  loopN ([(5, none), (10, none)]) (fun σ _ => evalCode (impl_parts.C k) k (codeAt [1, 0, 1, 0, 1, 1, 1] (body Try.f125)) σ (kAt (impl_parts.C k) k [1, 0, 1, 0, 1, 1] (body Try.f125) [] (impl_parts.K0 k))) n (st 18 [(10, .val .bool .sh v10_j8), (5, .val I .sh p0)]) (kAt (impl_parts.C k) k [1, 0, 1, 0, 1, 1] (body Try.f125) [] (impl_parts.K0 k))
theorem impl_parts.sj8 (k : Nat) (p0 : Int) (n : Nat) (v10_j8 : Bool) : impl_parts.Lj8 k p0 (n + 1) v10_j8 = impl_parts.bj8 k p0 v10_j8 := by kernel_rfl
theorem impl_parts.tj8 (k : Nat) (p0 : Int) : ∀ n, impl_parts.Lj8 k p0 n = impl_parts.lj8 k p0 n := by
  intro n; induction n with
  | zero => rfl
  | succ n ih => funext v10_j8; rw [impl_parts.sj8]; rfl
theorem impl_parts.s (k : Nat) (x : El impl_parts.ps) : evalFn (impl_parts.C k) k Try.f125 3 (.pair I (.pair I I)) (.pr .sh (.pr .sh .sh)) [.sh] .unit (unp impl_parts.ps [.sh] x) = impl_parts.bt k (impl_parts.Lj8 k x.1 k) x.1 := by kernel_rfl
theorem impl_parts.e (k : Nat) (x : El impl_parts.ps) : evalFn (impl_parts.C k) k Try.f125 3 (.pair I (.pair I I)) (.pr .sh (.pr .sh .sh)) [.sh] .unit (unp impl_parts.ps [.sh] x) = impl_parts.f k x.1 := by
  rw [impl_parts.s]; rw [impl_parts.tj8 k x.1 k]; rfl
theorem impl_parts.env (k : Nat) : EnvOk Try.prog [] := trivial
theorem impl_parts.ok (k : Nat) : Contract Try.prog 125 (impl_parts.sem k) := fn_ok (C := impl_parts.C k) (mkC_ok tys_ok (impl_parts.env k) mix) Try.func125 rfl rfl (impl_parts.e k)
theorem impl_parts.code : CallOk Try.prog 125 := ⟨_, Try.func125, rfl, by kernel_rfl⟩
/-! loop.example/wholecheck/impl.kindsOf -/
noncomputable def impl_kindsOf.ps : S := (.pair (.slice false (.agg (.pair I (.pair I (.pair I I))))) (.pair I .unit))
noncomputable def impl_kindsOf.sem (k : Nat) : Sem := mkSem [.sh, .sh] 1 (.slice true I) (.ow .sh) .unit (.pair (.slice false (.agg (.pair I (.pair I (.pair I I))))) (.pair I .unit)) fun x => impl_kindsOf.f k x.1 x.2.1
noncomputable def impl_kindsOf.C (k : Nat) : Ctx := mkC tys [(80, impl_in.sem k), (125, impl_parts.sem k)] (hintOf []) (headOf [(5, [(1, none), (5, none), (24, none), (25, none), (26, none)])]) [] (ordOf []) (hidOf []) (jnOf [])
noncomputable def impl_kindsOf.K0 (k : Nat) : Ex → List Slot → Option ((List Int) × Unit) := kRet (impl_kindsOf.C k) Try.f121 1 (.slice true I) (.ow .sh) [.sh, .sh] .unit
noncomputable def impl_kindsOf.L5 (k : Nat) (p0 : (List (Int × (Int × (Int × Int))))) (p1 : Int) (n : Nat) (v5_5 : (List Int)) (v26_5 : Int) : Option ((List Int) × Unit) :=
  loopN ((impl_kindsOf.C k).head 5) (evalCode (impl_kindsOf.C k) k (codeAt [1, 1, 1, 0, 1, 0, 0] (body Try.f121))) n (st 133 [(26, .val I .sh v26_5), (25, .val I .sh ((p0.length : Int))), (24, .val (.slice false (.agg (.pair I (.pair I (.pair I I))))) .sh p0), (5, .val (.slice false I) (.ow .sh) v5_5), (1, .val I .sh p1)]) (kAt (impl_kindsOf.C k) k [1, 1, 1, 0, 1, 0] (body Try.f121) [] (impl_kindsOf.K0 k))
theorem impl_kindsOf.s5 (k : Nat) (p0 : (List (Int × (Int × (Int × Int))))) (p1 : Int) (n : Nat) (v5_5 : (List Int)) (v26_5 : Int) : impl_kindsOf.L5 k p0 p1 (n + 1) v5_5 v26_5 = impl_kindsOf.b5 k (impl_kindsOf.L5 k p0 p1 n) p0 p1 v5_5 v26_5 := by kernel_rfl
theorem impl_kindsOf.t5 (k : Nat) (p0 : (List (Int × (Int × (Int × Int))))) (p1 : Int) : ∀ n, impl_kindsOf.L5 k p0 p1 n = impl_kindsOf.l5 k p0 p1 n := by
  intro n; induction n with
  | zero => rfl
  | succ n ih => funext v5_5 v26_5; rw [impl_kindsOf.s5]; rw [ih]; rfl
theorem impl_kindsOf.s (k : Nat) (x : El impl_kindsOf.ps) : evalFn (impl_kindsOf.C k) k Try.f121 1 (.slice true I) (.ow .sh) [.sh, .sh] .unit (unp impl_kindsOf.ps [.sh, .sh] x) = impl_kindsOf.bt k (impl_kindsOf.L5 k x.1 x.2.1 k) x.1 x.2.1 := by kernel_rfl
theorem impl_kindsOf.e (k : Nat) (x : El impl_kindsOf.ps) : evalFn (impl_kindsOf.C k) k Try.f121 1 (.slice true I) (.ow .sh) [.sh, .sh] .unit (unp impl_kindsOf.ps [.sh, .sh] x) = impl_kindsOf.f k x.1 x.2.1 := by
  rw [impl_kindsOf.s]; rw [impl_kindsOf.t5 k x.1 x.2.1 k]; rfl
theorem impl_kindsOf.env (k : Nat) : EnvOk Try.prog [(80, impl_in.sem k), (125, impl_parts.sem k)] := ⟨⟨impl_in.ok k, impl_in.code⟩, ⟨impl_parts.ok k, impl_parts.code⟩, trivial⟩
theorem impl_kindsOf.ok (k : Nat) : Contract Try.prog 121 (impl_kindsOf.sem k) := fn_ok (C := impl_kindsOf.C k) (mkC_ok tys_ok (impl_kindsOf.env k) mix) Try.func121 rfl rfl (impl_kindsOf.e k)
theorem impl_kindsOf.code : CallOk Try.prog 121 := ⟨_, Try.func121, rfl, by kernel_rfl⟩
/-! loop.example/wholecheck/impl.kindOf -/
noncomputable def impl_kindOf.ps : S := (.pair (.slice false (.agg (.pair I (.pair I (.pair I I))))) (.pair I .unit))
noncomputable def impl_kindOf.sem (k : Nat) : Sem := mkSem [.sh, .sh] 1 I .sh .unit (.pair (.slice false (.agg (.pair I (.pair I (.pair I I))))) (.pair I .unit)) fun x => impl_kindOf.f k x.1 x.2.1
noncomputable def impl_kindOf.C (k : Nat) : Ctx := mkC tys [(121, impl_kindsOf.sem k)] (hintOf []) (headOf []) [] (ordOf []) (hidOf []) (jnOf [])
noncomputable def impl_kindOf.K0 (k : Nat) : Ex → List Slot → Option (Int × Unit) := kRet (impl_kindOf.C k) Try.f109 1 I .sh [.sh, .sh] .unit
theorem impl_kindOf.s (k : Nat) (x : El impl_kindOf.ps) : evalFn (impl_kindOf.C k) k Try.f109 1 I .sh [.sh, .sh] .unit (unp impl_kindOf.ps [.sh, .sh] x) = impl_kindOf.bt k x.1 x.2.1 := by kernel_rfl
theorem impl_kindOf.e (k : Nat) (x : El impl_kindOf.ps) : evalFn (impl_kindOf.C k) k Try.f109 1 I .sh [.sh, .sh] .unit (unp impl_kindOf.ps [.sh, .sh] x) = impl_kindOf.f k x.1 x.2.1 := by
  rw [impl_kindOf.s]; rfl
theorem impl_kindOf.env (k : Nat) : EnvOk Try.prog [(121, impl_kindsOf.sem k)] := ⟨⟨impl_kindsOf.ok k, impl_kindsOf.code⟩, trivial⟩
theorem impl_kindOf.ok (k : Nat) : Contract Try.prog 109 (impl_kindOf.sem k) := fn_ok (C := impl_kindOf.C k) (mkC_ok tys_ok (impl_kindOf.env k) mix) Try.func109 rfl rfl (impl_kindOf.e k)
theorem impl_kindOf.code : CallOk Try.prog 109 := ⟨_, Try.func109, rfl, by kernel_rfl⟩
/-! loop.example/wholecheck/impl.ruleOk -/
noncomputable def impl_ruleOk.ps : S := (.pair (.agg (.pair (.slice false (.agg (.pair I (.pair I (.pair I I))))) (.pair (.slice false I) (.slice false (.slice false (.agg (.pair I (.pair I (.pair I I))))))))) (.pair I .unit))
noncomputable def impl_ruleOk.sem (k : Nat) : Sem := mkSem [.sh, .sh] 1 .bool .sh .unit (.pair (.agg (.pair (.slice false (.agg (.pair I (.pair I (.pair I I))))) (.pair (.slice false I) (.slice false (.slice false (.agg (.pair I (.pair I (.pair I I))))))))) (.pair I .unit)) fun x => impl_ruleOk.f k x.1 x.2.1
noncomputable def impl_ruleOk.C (k : Nat) : Ctx := mkC tys [(109, impl_kindOf.sem k), (80, impl_in.sem k)] (hintOf []) (headOf [(4, [(1, none), (2, none), (22, none), (23, none), (24, none)])]) [] (ordOf []) (hidOf []) (jnOf [])
noncomputable def impl_ruleOk.K0 (k : Nat) : Ex → List Slot → Option (Bool × Unit) := kRet (impl_ruleOk.C k) Try.f95 1 .bool .sh [.sh, .sh] .unit
noncomputable def impl_ruleOk.L4 (k : Nat) (p0 : ((List (Int × (Int × (Int × Int)))) × ((List Int) × (List (List (Int × (Int × (Int × Int)))))))) (p1 : Int) (n : Nat) (v24_4 : Int) : Option (Bool × Unit) :=
  loopN ((impl_ruleOk.C k).head 4) (evalCode (impl_ruleOk.C k) k (codeAt [1, 1, 0, 1, 0, 0] (body Try.f95))) n (st 59 [(24, .val I .sh v24_4), (23, .val I .sh ((p0.2.1.length : Int))), (22, .val (.slice false I) .sh p0.2.1), (2, .val (.ptr (.agg (.pair (.slice false (.agg (.pair I (.pair I (.pair I I))))) (.pair (.slice false I) (.slice false (.slice false (.agg (.pair I (.pair I (.pair I I)))))))))) (.ow .sh) p0), (1, .val I .sh p1)]) (kAt (impl_ruleOk.C k) k [1, 1, 0, 1, 0] (body Try.f95) [] (impl_ruleOk.K0 k))
theorem impl_ruleOk.s4 (k : Nat) (p0 : ((List (Int × (Int × (Int × Int)))) × ((List Int) × (List (List (Int × (Int × (Int × Int)))))))) (p1 : Int) (n : Nat) (v24_4 : Int) : impl_ruleOk.L4 k p0 p1 (n + 1) v24_4 = impl_ruleOk.b4 k (impl_ruleOk.L4 k p0 p1 n) p0 p1 v24_4 := by kernel_rfl
theorem impl_ruleOk.t4 (k : Nat) (p0 : ((List (Int × (Int × (Int × Int)))) × ((List Int) × (List (List (Int × (Int × (Int × Int)))))))) (p1 : Int) : ∀ n, impl_ruleOk.L4 k p0 p1 n = impl_ruleOk.l4 k p0 p1 n := by
  intro n; induction n with
  | zero => rfl
  | succ n ih => funext v24_4; rw [impl_ruleOk.s4]; rw [ih]; rfl
theorem impl_ruleOk.s (k : Nat) (x : El impl_ruleOk.ps) : evalFn (impl_ruleOk.C k) k Try.f95 1 .bool .sh [.sh, .sh] .unit (unp impl_ruleOk.ps [.sh, .sh] x) = impl_ruleOk.bt k (impl_ruleOk.L4 k x.1 x.2.1 k) x.1 x.2.1 := by kernel_rfl
theorem impl_ruleOk.e (k : Nat) (x : El impl_ruleOk.ps) : evalFn (impl_ruleOk.C k) k Try.f95 1 .bool .sh [.sh, .sh] .unit (unp impl_ruleOk.ps [.sh, .sh] x) = impl_ruleOk.f k x.1 x.2.1 := by
  rw [impl_ruleOk.s]; rw [impl_ruleOk.t4 k x.1 x.2.1 k]; rfl
theorem impl_ruleOk.env (k : Nat) : EnvOk Try.prog [(109, impl_kindOf.sem k), (80, impl_in.sem k)] := ⟨⟨impl_kindOf.ok k, impl_kindOf.code⟩, ⟨impl_in.ok k, impl_in.code⟩, trivial⟩
theorem impl_ruleOk.ok (k : Nat) : Contract Try.prog 95 (impl_ruleOk.sem k) := fn_ok (C := impl_ruleOk.C k) (mkC_ok tys_ok (impl_ruleOk.env k) mix) Try.func95 rfl rfl (impl_ruleOk.e k)
theorem impl_ruleOk.code : CallOk Try.prog 95 := ⟨_, Try.func95, rfl, by kernel_rfl⟩
/-! loop.example/wholecheck/impl.SystemValid$2 -/
noncomputable def impl_SystemValid_2.ps : S := (.pair (.agg (.pair (.slice false (.agg (.pair I (.pair I (.pair I I))))) (.pair (.slice false I) (.slice false (.slice false (.agg (.pair I (.pair I (.pair I I))))))))) (.pair (.ptr (.agg (.pair (.slice false (.agg (.pair I (.pair I I)))) (.slice false (.agg (.pair (.slice false (.agg (.pair I (.pair I (.pair I I))))) (.pair (.slice false I) (.slice false (.slice false (.agg (.pair I (.pair I (.pair I I))))))))))))) .unit))
noncomputable def impl_SystemValid_2.sem (k : Nat) : Sem := mkSem [.sh, .sh] 1 .bool .sh .unit (.pair (.agg (.pair (.slice false (.agg (.pair I (.pair I (.pair I I))))) (.pair (.slice false I) (.slice false (.slice false (.agg (.pair I (.pair I (.pair I I))))))))) (.pair (.ptr (.agg (.pair (.slice false (.agg (.pair I (.pair I I)))) (.slice false (.agg (.pair (.slice false (.agg (.pair I (.pair I (.pair I I))))) (.pair (.slice false I) (.slice false (.slice false (.agg (.pair I (.pair I (.pair I I))))))))))))) .unit)) fun x => impl_SystemValid_2.f k x.1 x.2.1
noncomputable def impl_SystemValid_2.C (k : Nat) : Ctx := mkC tys [(95, impl_ruleOk.sem k)] (hintOf []) (headOf []) [] (ordOf []) (hidOf []) (jnOf [])
noncomputable def impl_SystemValid_2.K0 (k : Nat) : Ex → List Slot → Option (Bool × Unit) := kRet (impl_SystemValid_2.C k) Try.f94 1 .bool .sh [.sh, .sh] .unit
theorem impl_SystemValid_2.s (k : Nat) (x : El impl_SystemValid_2.ps) : evalFn (impl_SystemValid_2.C k) k Try.f94 1 .bool .sh [.sh, .sh] .unit (unp impl_SystemValid_2.ps [.sh, .sh] x) = impl_SystemValid_2.bt k x.1 x.2.1 := by kernel_rfl
theorem impl_SystemValid_2.e (k : Nat) (x : El impl_SystemValid_2.ps) : evalFn (impl_SystemValid_2.C k) k Try.f94 1 .bool .sh [.sh, .sh] .unit (unp impl_SystemValid_2.ps [.sh, .sh] x) = impl_SystemValid_2.f k x.1 x.2.1 := by
  rw [impl_SystemValid_2.s]; rfl
theorem impl_SystemValid_2.env (k : Nat) : EnvOk Try.prog [(95, impl_ruleOk.sem k)] := ⟨⟨impl_ruleOk.ok k, impl_ruleOk.code⟩, trivial⟩
theorem impl_SystemValid_2.ok (k : Nat) : Contract Try.prog 94 (impl_SystemValid_2.sem k) := fn_ok (C := impl_SystemValid_2.C k) (mkC_ok tys_ok (impl_SystemValid_2.env k) mix) Try.func94 rfl rfl (impl_SystemValid_2.e k)
theorem impl_SystemValid_2.code : CallOk Try.prog 94 := ⟨_, Try.func94, rfl, by kernel_rfl⟩
/-! slices.IndexFunc[[]loop.example/wholecheck/impl.Rule,loop.example/wholecheck/impl.Rule] -/
noncomputable def slices_IndexFunc_impl_Rule_impl_Rule.ps : S := (.pair (.slice false (.agg (.pair (.slice false (.agg (.pair I (.pair I (.pair I I))))) (.pair (.slice false I) (.slice false (.slice false (.agg (.pair I (.pair I (.pair I I)))))))))) (.pair (.func (.agg (.pair (.slice false (.agg (.pair I (.pair I (.pair I I))))) (.pair (.slice false I) (.slice false (.slice false (.agg (.pair I (.pair I (.pair I I))))))))) .bool) .unit))
noncomputable def slices_IndexFunc_impl_Rule_impl_Rule.sem (k : Nat) : Sem := mkSem [.sh, .sh] 1 I .sh .unit (.pair (.slice false (.agg (.pair (.slice false (.agg (.pair I (.pair I (.pair I I))))) (.pair (.slice false I) (.slice false (.slice false (.agg (.pair I (.pair I (.pair I I)))))))))) (.pair (.func (.agg (.pair (.slice false (.agg (.pair I (.pair I (.pair I I))))) (.pair (.slice false I) (.slice false (.slice false (.agg (.pair I (.pair I (.pair I I))))))))) .bool) .unit)) fun x => slices_IndexFunc_impl_Rule_impl_Rule.f k x.1 x.2.1
noncomputable def slices_IndexFunc_impl_Rule_impl_Rule.C (k : Nat) : Ctx := mkC tys [] (hintOf []) (headOf [(2, [(0, none), (1, none), (7, none), (8, none)])]) [] (ordOf []) (hidOf []) (jnOf [])
noncomputable def slices_IndexFunc_impl_Rule_impl_Rule.K0 (k : Nat) : Ex → List Slot → Option (Int × Unit) := kRet (slices_IndexFunc_impl_Rule_impl_Rule.C k) Try.f117 1 I .sh [.sh, .sh] .unit
noncomputable def slices_IndexFunc_impl_Rule_impl_Rule.L2 (k : Nat) (p0 : (List ((List (Int × (Int × (Int × Int)))) × ((List Int) × (List (List (Int × (Int × (Int × Int))))))))) (p1 : (((List (Int × (Int × (Int × Int)))) × ((List Int) × (List (List (Int × (Int × (Int × Int))))))) → Option Bool)) (n : Nat) (v8_2 : Int) : Option (Int × Unit) :=
  loopN ((slices_IndexFunc_impl_Rule_impl_Rule.C k).head 2) (evalCode (slices_IndexFunc_impl_Rule_impl_Rule.C k) k (codeAt [1, 0, 1, 0, 0] (body Try.f117))) n (st 19 [(8, .val I .sh v8_2), (7, .val I .sh ((p0.length : Int))), (1, .val (.func (.agg (.pair (.slice false (.agg (.pair I (.pair I (.pair I I))))) (.pair (.slice false I) (.slice false (.slice false (.agg (.pair I (.pair I (.pair I I))))))))) .bool) .sh p1), (0, .val (.slice false (.agg (.pair (.slice false (.agg (.pair I (.pair I (.pair I I))))) (.pair (.slice false I) (.slice false (.slice false (.agg (.pair I (.pair I (.pair I I)))))))))) .sh p0)]) (kAt (slices_IndexFunc_impl_Rule_impl_Rule.C k) k [1, 0, 1, 0] (body Try.f117) [] (slices_IndexFunc_impl_Rule_impl_Rule.K0 k))
theorem slices_IndexFunc_impl_Rule_impl_Rule.s2 (k : Nat) (p0 : (List ((List (Int × (Int × (Int × Int)))) × ((List Int) × (List (List (Int × (Int × (Int × Int))))))))) (p1 : (((List (Int × (Int × (Int × Int)))) × ((List Int) × (List (List (Int × (Int × (Int × Int))))))) → Option Bool)) (n : Nat) (v8_2 : Int) : slices_IndexFunc_impl_Rule_impl_Rule.L2 k p0 p1 (n + 1) v8_2 = slices_IndexFunc_impl_Rule_impl_Rule.b2 k (slices_IndexFunc_impl_Rule_impl_Rule.L2 k p0 p1 n) p0 p1 v8_2 := by kernel_rfl
theorem slices_IndexFunc_impl_Rule_impl_Rule.t2 (k : Nat) (p0 : (List ((List (Int × (Int × (Int × Int)))) × ((List Int) × (List (List (Int × (Int × (Int × Int))))))))) (p1 : (((List (Int × (Int × (Int × Int)))) × ((List Int) × (List (List (Int × (Int × (Int × Int))))))) → Option Bool)) : ∀ n, slices_IndexFunc_impl_Rule_impl_Rule.L2 k p0 p1 n = slices_IndexFunc_impl_Rule_impl_Rule.l2 k p0 p1 n := by
  intro n; induction n with
  | zero => rfl
  | succ n ih => funext v8_2; rw [slices_IndexFunc_impl_Rule_impl_Rule.s2]; rw [ih]; rfl
theorem slices_IndexFunc_impl_Rule_impl_Rule.s (k : Nat) (x : El slices_IndexFunc_impl_Rule_impl_Rule.ps) : evalFn (slices_IndexFunc_impl_Rule_impl_Rule.C k) k Try.f117 1 I .sh [.sh, .sh] .unit (unp slices_IndexFunc_impl_Rule_impl_Rule.ps [.sh, .sh] x) = slices_IndexFunc_impl_Rule_impl_Rule.bt k (slices_IndexFunc_impl_Rule_impl_Rule.L2 k x.1 x.2.1 k) x.1 x.2.1 := by kernel_rfl
theorem slices_IndexFunc_impl_Rule_impl_Rule.e (k : Nat) (x : El slices_IndexFunc_impl_Rule_impl_Rule.ps) : evalFn (slices_IndexFunc_impl_Rule_impl_Rule.C k) k Try.f117 1 I .sh [.sh, .sh] .unit (unp slices_IndexFunc_impl_Rule_impl_Rule.ps [.sh, .sh] x) = slices_IndexFunc_impl_Rule_impl_Rule.f k x.1 x.2.1 := by
  rw [slices_IndexFunc_impl_Rule_impl_Rule.s]; rw [slices_IndexFunc_impl_Rule_impl_Rule.t2 k x.1 x.2.1 k]; rfl
theorem slices_IndexFunc_impl_Rule_impl_Rule.env (k : Nat) : EnvOk Try.prog [] := trivial
theorem slices_IndexFunc_impl_Rule_impl_Rule.ok (k : Nat) : Contract Try.prog 117 (slices_IndexFunc_impl_Rule_impl_Rule.sem k) := fn_ok (C := slices_IndexFunc_impl_Rule_impl_Rule.C k) (mkC_ok tys_ok (slices_IndexFunc_impl_Rule_impl_Rule.env k) mix) Try.func117 rfl rfl (slices_IndexFunc_impl_Rule_impl_Rule.e k)
theorem slices_IndexFunc_impl_Rule_impl_Rule.code : CallOk Try.prog 117 := ⟨_, Try.func117, rfl, by kernel_rfl⟩
/-! slices.ContainsFunc[[]loop.example/wholecheck/impl.Rule,loop.example/wholecheck/impl.Rule] -/
noncomputable def slices_ContainsFunc_impl_Rule_impl_Rule.ps : S := (.pair (.slice false (.agg (.pair (.slice false (.agg (.pair I (.pair I (.pair I I))))) (.pair (.slice false I) (.slice false (.slice false (.agg (.pair I (.pair I (.pair I I)))))))))) (.pair (.func (.agg (.pair (.slice false (.agg (.pair I (.pair I (.pair I I))))) (.pair (.slice false I) (.slice false (.slice false (.agg (.pair I (.pair I (.pair I I))))))))) .bool) .unit))
noncomputable def slices_ContainsFunc_impl_Rule_impl_Rule.sem (k : Nat) : Sem := mkSem [.sh, .sh] 1 .bool .sh .unit (.pair (.slice false (.agg (.pair (.slice false (.agg (.pair I (.pair I (.pair I I))))) (.pair (.slice false I) (.slice false (.slice false (.agg (.pair I (.pair I (.pair I I)))))))))) (.pair (.func (.agg (.pair (.slice false (.agg (.pair I (.pair I (.pair I I))))) (.pair (.slice false I) (.slice false (.slice false (.agg (.pair I (.pair I (.pair I I))))))))) .bool) .unit)) fun x => slices_ContainsFunc_impl_Rule_impl_Rule.f k x.1 x.2.1
noncomputable def slices_ContainsFunc_impl_Rule_impl_Rule.C (k : Nat) : Ctx := mkC tys [(117, slices_IndexFunc_impl_Rule_impl_Rule.sem k)] (hintOf []) (headOf []) [] (ordOf []) (hidOf []) (jnOf [])
noncomputable def slices_ContainsFunc_impl_Rule_impl_Rule.K0 (k : Nat) : Ex → List Slot → Option (Bool × Unit) := kRet (slices_ContainsFunc_impl_Rule_impl_Rule.C k) Try.f93 1 .bool .sh [.sh, .sh] .unit
theorem slices_ContainsFunc_impl_Rule_impl_Rule.s (k : Nat) (x : El slices_ContainsFunc_impl_Rule_impl_Rule.ps) : evalFn (slices_ContainsFunc_impl_Rule_impl_Rule.C k) k Try.f93 1 .bool .sh [.sh, .sh] .unit (unp slices_ContainsFunc_impl_Rule_impl_Rule.ps [.sh, .sh] x) = slices_ContainsFunc_impl_Rule_impl_Rule.bt k x.1 x.2.1 := by kernel_rfl
theorem slices_ContainsFunc_impl_Rule_impl_Rule.e (k : Nat) (x : El slices_ContainsFunc_impl_Rule_impl_Rule.ps) : evalFn (slices_ContainsFunc_impl_Rule_impl_Rule.C k) k Try.f93 1 .bool .sh [.sh, .sh] .unit (unp slices_ContainsFunc_impl_Rule_impl_Rule.ps [.sh, .sh] x) = slices_ContainsFunc_impl_Rule_impl_Rule.f k x.1 x.2.1 := by
  rw [slices_ContainsFunc_impl_Rule_impl_Rule.s]; rfl
theorem slices_ContainsFunc_impl_Rule_impl_Rule.env (k : Nat) : EnvOk Try.prog [(117, slices_IndexFunc_impl_Rule_impl_Rule.sem k)] := ⟨⟨slices_IndexFunc_impl_Rule_impl_Rule.ok k, slices_IndexFunc_impl_Rule_impl_Rule.code⟩, trivial⟩
theorem slices_ContainsFunc_impl_Rule_impl_Rule.ok (k : Nat) : Contract Try.prog 93 (slices_ContainsFunc_impl_Rule_impl_Rule.sem k) := fn_ok (C := slices_ContainsFunc_impl_Rule_impl_Rule.C k) (mkC_ok tys_ok (slices_ContainsFunc_impl_Rule_impl_Rule.env k) mix) Try.func93 rfl rfl (slices_ContainsFunc_impl_Rule_impl_Rule.e k)
theorem slices_ContainsFunc_impl_Rule_impl_Rule.code : CallOk Try.prog 93 := ⟨_, Try.func93, rfl, by kernel_rfl⟩
/-! loop.example/wholecheck/impl.SystemValid -/
noncomputable def impl_SystemValid.ps : S := (.pair (.agg (.pair (.slice false (.agg (.pair I (.pair I I)))) (.slice false (.agg (.pair (.slice false (.agg (.pair I (.pair I (.pair I I))))) (.pair (.slice false I) (.slice false (.slice false (.agg (.pair I (.pair I (.pair I I)))))))))))) .unit)
noncomputable def impl_SystemValid.sem (k : Nat) : Sem := mkSem [.sh] 1 .bool .sh .unit (.pair (.agg (.pair (.slice false (.agg (.pair I (.pair I I)))) (.slice false (.agg (.pair (.slice false (.agg (.pair I (.pair I (.pair I I))))) (.pair (.slice false I) (.slice false (.slice false (.agg (.pair I (.pair I (.pair I I)))))))))))) .unit) fun x => impl_SystemValid.f k x.1
noncomputable def impl_SystemValid.C (k : Nat) : Ctx := mkC tys [(80, impl_in.sem k), (90, impl_SystemValid_1.sem k), (89, slices_ContainsFunc_impl_Var_impl_Var.sem k), (92, impl_size.sem k), (94, impl_SystemValid_2.sem k), (93, slices_ContainsFunc_impl_Rule_impl_Rule.sem k)] (hintOf []) (headOf []) [] (ordOf []) (hidOf []) (jnOf [])
noncomputable def impl_SystemValid.K0 (k : Nat) : Ex → List Slot → Option (Bool × Unit) := kRet (impl_SystemValid.C k) Try.f55 1 .bool .sh [.sh] .unit
theorem impl_SystemValid.s (k : Nat) (x : El impl_SystemValid.ps) : evalFn (impl_SystemValid.C k) k Try.f55 1 .bool .sh [.sh] .unit (unp impl_SystemValid.ps [.sh] x) = impl_SystemValid.bt k x.1 := by kernel_rfl
theorem impl_SystemValid.e (k : Nat) (x : El impl_SystemValid.ps) : evalFn (impl_SystemValid.C k) k Try.f55 1 .bool .sh [.sh] .unit (unp impl_SystemValid.ps [.sh] x) = impl_SystemValid.f k x.1 := by
  rw [impl_SystemValid.s]; rfl
theorem impl_SystemValid.env (k : Nat) : EnvOk Try.prog [(80, impl_in.sem k), (90, impl_SystemValid_1.sem k), (89, slices_ContainsFunc_impl_Var_impl_Var.sem k), (92, impl_size.sem k), (94, impl_SystemValid_2.sem k), (93, slices_ContainsFunc_impl_Rule_impl_Rule.sem k)] := ⟨⟨impl_in.ok k, impl_in.code⟩, ⟨impl_SystemValid_1.ok k, impl_SystemValid_1.code⟩, ⟨slices_ContainsFunc_impl_Var_impl_Var.ok k, slices_ContainsFunc_impl_Var_impl_Var.code⟩, ⟨impl_size.ok k, impl_size.code⟩, ⟨impl_SystemValid_2.ok k, impl_SystemValid_2.code⟩, ⟨slices_ContainsFunc_impl_Rule_impl_Rule.ok k, slices_ContainsFunc_impl_Rule_impl_Rule.code⟩, trivial⟩
theorem impl_SystemValid.ok (k : Nat) : Contract Try.prog 55 (impl_SystemValid.sem k) := fn_ok (C := impl_SystemValid.C k) (mkC_ok tys_ok (impl_SystemValid.env k) mix) Try.func55 rfl rfl (impl_SystemValid.e k)
theorem impl_SystemValid.code : CallOk Try.prog 55 := ⟨_, Try.func55, rfl, by kernel_rfl⟩
/-! loop.example/wholecheck/impl.blocksOk -/
noncomputable def impl_blocksOk.ps : S := (.pair (.agg (.pair (.slice false (.agg (.pair I (.pair I I)))) (.slice false (.agg (.pair (.slice false (.agg (.pair I (.pair I (.pair I I))))) (.pair (.slice false I) (.slice false (.slice false (.agg (.pair I (.pair I (.pair I I)))))))))))) (.pair (.agg (.slice false I)) .unit))
noncomputable def impl_blocksOk.sem (k : Nat) : Sem := mkSem [.sh, .sh] 1 .bool .sh .unit (.pair (.agg (.pair (.slice false (.agg (.pair I (.pair I I)))) (.slice false (.agg (.pair (.slice false (.agg (.pair I (.pair I (.pair I I))))) (.pair (.slice false I) (.slice false (.slice false (.agg (.pair I (.pair I (.pair I I)))))))))))) (.pair (.agg (.slice false I)) .unit)) fun x => impl_blocksOk.f k x.1 x.2.1
noncomputable def impl_blocksOk.C (k : Nat) : Ctx := mkC tys [(92, impl_size.sem k), (80, impl_in.sem k)] (hintOf []) (headOf [(4, [(3, none), (15, none), (16, none), (17, none)])]) [] (ordOf [(1, [0, 1, 2, 3, 4, 5, 6])]) (hidOf [((1, 5), [3])]) (jnOf [])
noncomputable def impl_blocksOk.K0 (k : Nat) : Ex → List Slot → Option (Bool × Unit) := kRet (impl_blocksOk.C k) Try.f56 1 .bool .sh [.sh, .sh] .unit
noncomputable def impl_blocksOk.L4 (k : Nat) (p1 : (List Int)) (n : Nat) (v17_4 : Int) : Option (Bool × Unit) :=
  loopN ((impl_blocksOk.C k).head 4) (evalCode (impl_blocksOk.C k) k (codeAt [1, 1, 0, 1, 0, 0] (body Try.f56))) n (st 36 [(17, .val I .sh v17_4), (16, .val I .sh ((p1.length : Int))), (15, .val (.slice false I) .sh p1), (3, .val (.ptr (.agg (.slice false I))) (.ow .sh) p1)]) (kAt (impl_blocksOk.C k) k [1, 1, 0, 1, 0] (body Try.f56) [] (impl_blocksOk.K0 k))
theorem impl_blocksOk.s4 (k : Nat) (p1 : (List Int)) (n : Nat) (v17_4 : Int) : impl_blocksOk.L4 k p1 (n + 1) v17_4 = impl_blocksOk.b4 k (impl_blocksOk.L4 k p1 n) p1 v17_4 := by kernel_rfl
theorem impl_blocksOk.t4 (k : Nat) (p1 : (List Int)) : ∀ n, impl_blocksOk.L4 k p1 n = impl_blocksOk.l4 k p1 n := by
  intro n; induction n with
  | zero => rfl
  | succ n ih => funext v17_4; rw [impl_blocksOk.s4]; rw [ih]; rfl
theorem impl_blocksOk.s (k : Nat) (x : El impl_blocksOk.ps) : evalFn (impl_blocksOk.C k) k Try.f56 1 .bool .sh [.sh, .sh] .unit (unp impl_blocksOk.ps [.sh, .sh] x) = impl_blocksOk.bt k (impl_blocksOk.L4 k x.2.1 k) x.1 x.2.1 := by kernel_rfl
theorem impl_blocksOk.e (k : Nat) (x : El impl_blocksOk.ps) : evalFn (impl_blocksOk.C k) k Try.f56 1 .bool .sh [.sh, .sh] .unit (unp impl_blocksOk.ps [.sh, .sh] x) = impl_blocksOk.f k x.1 x.2.1 := by
  rw [impl_blocksOk.s]; rw [impl_blocksOk.t4 k x.2.1 k]; rfl
theorem impl_blocksOk.env (k : Nat) : EnvOk Try.prog [(92, impl_size.sem k), (80, impl_in.sem k)] := ⟨⟨impl_size.ok k, impl_size.code⟩, ⟨impl_in.ok k, impl_in.code⟩, trivial⟩
theorem impl_blocksOk.ok (k : Nat) : Contract Try.prog 56 (impl_blocksOk.sem k) := fn_ok (C := impl_blocksOk.C k) (mkC_ok tys_ok (impl_blocksOk.env k) mix) Try.func56 rfl rfl (impl_blocksOk.e k)
theorem impl_blocksOk.code : CallOk Try.prog 56 := ⟨_, Try.func56, rfl, by kernel_rfl⟩
/-! loop.example/wholecheck/impl.BlocksValid -/
noncomputable def impl_BlocksValid.ps : S := (.pair (.agg (.pair (.slice false (.agg (.pair I (.pair I I)))) (.slice false (.agg (.pair (.slice false (.agg (.pair I (.pair I (.pair I I))))) (.pair (.slice false I) (.slice false (.slice false (.agg (.pair I (.pair I (.pair I I)))))))))))) (.pair (.agg (.slice false I)) .unit))
noncomputable def impl_BlocksValid.sem (k : Nat) : Sem := mkSem [.sh, .sh] 1 .bool .sh .unit (.pair (.agg (.pair (.slice false (.agg (.pair I (.pair I I)))) (.slice false (.agg (.pair (.slice false (.agg (.pair I (.pair I (.pair I I))))) (.pair (.slice false I) (.slice false (.slice false (.agg (.pair I (.pair I (.pair I I)))))))))))) (.pair (.agg (.slice false I)) .unit)) fun x => impl_BlocksValid.f k x.1 x.2.1
noncomputable def impl_BlocksValid.C (k : Nat) : Ctx := mkC tys [(55, impl_SystemValid.sem k), (56, impl_blocksOk.sem k)] (hintOf []) (headOf []) [] (ordOf []) (hidOf []) (jnOf [])
noncomputable def impl_BlocksValid.K0 (k : Nat) : Ex → List Slot → Option (Bool × Unit) := kRet (impl_BlocksValid.C k) Try.f26 1 .bool .sh [.sh, .sh] .unit
theorem impl_BlocksValid.s (k : Nat) (x : El impl_BlocksValid.ps) : evalFn (impl_BlocksValid.C k) k Try.f26 1 .bool .sh [.sh, .sh] .unit (unp impl_BlocksValid.ps [.sh, .sh] x) = impl_BlocksValid.bt k x.1 x.2.1 := by kernel_rfl
theorem impl_BlocksValid.e (k : Nat) (x : El impl_BlocksValid.ps) : evalFn (impl_BlocksValid.C k) k Try.f26 1 .bool .sh [.sh, .sh] .unit (unp impl_BlocksValid.ps [.sh, .sh] x) = impl_BlocksValid.f k x.1 x.2.1 := by
  rw [impl_BlocksValid.s]; rfl
theorem impl_BlocksValid.env (k : Nat) : EnvOk Try.prog [(55, impl_SystemValid.sem k), (56, impl_blocksOk.sem k)] := ⟨⟨impl_SystemValid.ok k, impl_SystemValid.code⟩, ⟨impl_blocksOk.ok k, impl_blocksOk.code⟩, trivial⟩
theorem impl_BlocksValid.ok (k : Nat) : Contract Try.prog 26 (impl_BlocksValid.sem k) := fn_ok (C := impl_BlocksValid.C k) (mkC_ok tys_ok (impl_BlocksValid.env k) mix) Try.func26 rfl rfl (impl_BlocksValid.e k)
theorem impl_BlocksValid.code : CallOk Try.prog 26 := ⟨_, Try.func26, rfl, by kernel_rfl⟩
/-! loop.example/wholecheck/laws.eqVar -/
noncomputable def laws_eqVar.ps : S := (.pair (.agg (.pair I (.pair I I))) (.pair (.agg (.pair I (.pair I I))) .unit))
noncomputable def laws_eqVar.sem (k : Nat) : Sem := mkSem [.sh, .sh] 1 .bool .sh .unit (.pair (.agg (.pair I (.pair I I))) (.pair (.agg (.pair I (.pair I I))) .unit)) fun x => laws_eqVar.f k x.1 x.2.1
noncomputable def laws_eqVar.C (k : Nat) : Ctx := mkC tys [] (hintOf []) (headOf []) [] (ordOf []) (hidOf []) (jnOf [])
noncomputable def laws_eqVar.K0 (k : Nat) : Ex → List Slot → Option (Bool × Unit) := kRet (laws_eqVar.C k) Try.f96 1 .bool .sh [.sh, .sh] .unit
theorem laws_eqVar.s (k : Nat) (x : El laws_eqVar.ps) : evalFn (laws_eqVar.C k) k Try.f96 1 .bool .sh [.sh, .sh] .unit (unp laws_eqVar.ps [.sh, .sh] x) = laws_eqVar.bt k x.1 x.2.1 := by kernel_rfl
theorem laws_eqVar.e (k : Nat) (x : El laws_eqVar.ps) : evalFn (laws_eqVar.C k) k Try.f96 1 .bool .sh [.sh, .sh] .unit (unp laws_eqVar.ps [.sh, .sh] x) = laws_eqVar.f k x.1 x.2.1 := by
  rw [laws_eqVar.s]; rfl
theorem laws_eqVar.env (k : Nat) : EnvOk Try.prog [] := trivial
theorem laws_eqVar.ok (k : Nat) : Contract Try.prog 96 (laws_eqVar.sem k) := fn_ok (C := laws_eqVar.C k) (mkC_ok tys_ok (laws_eqVar.env k) mix) Try.func96 rfl rfl (laws_eqVar.e k)
theorem laws_eqVar.code : CallOk Try.prog 96 := ⟨_, Try.func96, rfl, by kernel_rfl⟩
/-! loop.example/wholecheck/laws.eqVarS -/
noncomputable def laws_eqVarS.ps : S := (.pair (.slice false (.agg (.pair I (.pair I I)))) (.pair (.slice false (.agg (.pair I (.pair I I)))) .unit))
noncomputable def laws_eqVarS.sem (k : Nat) : Sem := mkSem [.sh, .sh] 1 .bool .sh .unit (.pair (.slice false (.agg (.pair I (.pair I I)))) (.pair (.slice false (.agg (.pair I (.pair I I)))) .unit)) fun x => laws_eqVarS.f k x.1 x.2.1
noncomputable def laws_eqVarS.C (k : Nat) : Ctx := mkC tys [(96, laws_eqVar.sem k)] (hintOf []) (headOf [(4, [(0, none), (1, none), (5, none)])]) [] (ordOf [(6, [0, 1, 2, 3, 4, 5, 6, 7, 8, 9])]) (hidOf []) (jnOf [])
noncomputable def laws_eqVarS.K0 (k : Nat) : Ex → List Slot → Option (Bool × Unit) := kRet (laws_eqVarS.C k) Try.f57 1 .bool .sh [.sh, .sh] .unit
noncomputable def laws_eqVarS.L4 (k : Nat) (p0 : (List (Int × (Int × Int)))) (p1 : (List (Int × (Int × Int)))) (n : Nat) (v5_4 : Int) : Option (Bool × Unit) :=
  loopN ((laws_eqVarS.C k).head 4) (evalCode (laws_eqVarS.C k) k (codeAt [1, 1, 0, 1, 0, 0] (body Try.f57))) n (st 27 [(5, .val I .sh v5_4), (1, .val (.slice false (.agg (.pair I (.pair I I)))) .sh p1), (0, .val (.slice false (.agg (.pair I (.pair I I)))) .sh p0)]) (kAt (laws_eqVarS.C k) k [1, 1, 0, 1, 0] (body Try.f57) [] (laws_eqVarS.K0 k))
theorem laws_eqVarS.s4 (k : Nat) (p0 : (List (Int × (Int × Int)))) (p1 : (List (Int × (Int × Int)))) (n : Nat) (v5_4 : Int) : laws_eqVarS.L4 k p0 p1 (n + 1) v5_4 = laws_eqVarS.b4 k (laws_eqVarS.L4 k p0 p1 n) p0 p1 v5_4 := by kernel_rfl
theorem laws_eqVarS.t4 (k : Nat) (p0 : (List (Int × (Int × Int)))) (p1 : (List (Int × (Int × Int)))) : ∀ n, laws_eqVarS.L4 k p0 p1 n = laws_eqVarS.l4 k p0 p1 n := by
  intro n; induction n with
  | zero => rfl
  | succ n ih => funext v5_4; rw [laws_eqVarS.s4]; rw [ih]; rfl
theorem laws_eqVarS.s (k : Nat) (x : El laws_eqVarS.ps) : evalFn (laws_eqVarS.C k) k Try.f57 1 .bool .sh [.sh, .sh] .unit (unp laws_eqVarS.ps [.sh, .sh] x) = laws_eqVarS.bt k (laws_eqVarS.L4 k x.1 x.2.1 k) x.1 x.2.1 := by kernel_rfl
theorem laws_eqVarS.e (k : Nat) (x : El laws_eqVarS.ps) : evalFn (laws_eqVarS.C k) k Try.f57 1 .bool .sh [.sh, .sh] .unit (unp laws_eqVarS.ps [.sh, .sh] x) = laws_eqVarS.f k x.1 x.2.1 := by
  rw [laws_eqVarS.s]; rw [laws_eqVarS.t4 k x.1 x.2.1 k]; rfl
theorem laws_eqVarS.env (k : Nat) : EnvOk Try.prog [(96, laws_eqVar.sem k)] := ⟨⟨laws_eqVar.ok k, laws_eqVar.code⟩, trivial⟩
theorem laws_eqVarS.ok (k : Nat) : Contract Try.prog 57 (laws_eqVarS.sem k) := fn_ok (C := laws_eqVarS.C k) (mkC_ok tys_ok (laws_eqVarS.env k) mix) Try.func57 rfl rfl (laws_eqVarS.e k)
theorem laws_eqVarS.code : CallOk Try.prog 57 := ⟨_, Try.func57, rfl, by kernel_rfl⟩
/-! loop.example/wholecheck/laws.eqTerm -/
noncomputable def laws_eqTerm.ps : S := (.pair (.agg (.pair I (.pair I (.pair I I)))) (.pair (.agg (.pair I (.pair I (.pair I I)))) .unit))
noncomputable def laws_eqTerm.sem (k : Nat) : Sem := mkSem [.sh, .sh] 1 .bool .sh .unit (.pair (.agg (.pair I (.pair I (.pair I I)))) (.pair (.agg (.pair I (.pair I (.pair I I)))) .unit)) fun x => laws_eqTerm.f k x.1 x.2.1
noncomputable def laws_eqTerm.C (k : Nat) : Ctx := mkC tys [] (hintOf []) (headOf []) [] (ordOf []) (hidOf []) (jnOf [])
noncomputable def laws_eqTerm.K0 (k : Nat) : Ex → List Slot → Option (Bool × Unit) := kRet (laws_eqTerm.C k) Try.f112 1 .bool .sh [.sh, .sh] .unit
theorem laws_eqTerm.s (k : Nat) (x : El laws_eqTerm.ps) : evalFn (laws_eqTerm.C k) k Try.f112 1 .bool .sh [.sh, .sh] .unit (unp laws_eqTerm.ps [.sh, .sh] x) = laws_eqTerm.bt k x.1 x.2.1 := by kernel_rfl
theorem laws_eqTerm.e (k : Nat) (x : El laws_eqTerm.ps) : evalFn (laws_eqTerm.C k) k Try.f112 1 .bool .sh [.sh, .sh] .unit (unp laws_eqTerm.ps [.sh, .sh] x) = laws_eqTerm.f k x.1 x.2.1 := by
  rw [laws_eqTerm.s]; rfl
theorem laws_eqTerm.env (k : Nat) : EnvOk Try.prog [] := trivial
theorem laws_eqTerm.ok (k : Nat) : Contract Try.prog 112 (laws_eqTerm.sem k) := fn_ok (C := laws_eqTerm.C k) (mkC_ok tys_ok (laws_eqTerm.env k) mix) Try.func112 rfl rfl (laws_eqTerm.e k)
theorem laws_eqTerm.code : CallOk Try.prog 112 := ⟨_, Try.func112, rfl, by kernel_rfl⟩
/-! loop.example/wholecheck/laws.eqTermS -/
noncomputable def laws_eqTermS.ps : S := (.pair (.slice false (.agg (.pair I (.pair I (.pair I I))))) (.pair (.slice false (.agg (.pair I (.pair I (.pair I I))))) .unit))
noncomputable def laws_eqTermS.sem (k : Nat) : Sem := mkSem [.sh, .sh] 1 .bool .sh .unit (.pair (.slice false (.agg (.pair I (.pair I (.pair I I))))) (.pair (.slice false (.agg (.pair I (.pair I (.pair I I))))) .unit)) fun x => laws_eqTermS.f k x.1 x.2.1
noncomputable def laws_eqTermS.C (k : Nat) : Ctx := mkC tys [(112, laws_eqTerm.sem k)] (hintOf []) (headOf [(4, [(0, none), (1, none), (5, none)])]) [] (ordOf [(6, [0, 1, 2, 3, 4, 5, 6, 7, 8, 9])]) (hidOf []) (jnOf [])
noncomputable def laws_eqTermS.K0 (k : Nat) : Ex → List Slot → Option (Bool × Unit) := kRet (laws_eqTermS.C k) Try.f78 1 .bool .sh [.sh, .sh] .unit
noncomputable def laws_eqTermS.L4 (k : Nat) (p0 : (List (Int × (Int × (Int × Int))))) (p1 : (List (Int × (Int × (Int × Int))))) (n : Nat) (v5_4 : Int) : Option (Bool × Unit) :=
  loopN ((laws_eqTermS.C k).head 4) (evalCode (laws_eqTermS.C k) k (codeAt [1, 1, 0, 1, 0, 0] (body Try.f78))) n (st 27 [(5, .val I .sh v5_4), (1, .val (.slice false (.agg (.pair I (.pair I (.pair I I))))) .sh p1), (0, .val (.slice false (.agg (.pair I (.pair I (.pair I I))))) .sh p0)]) (kAt (laws_eqTermS.C k) k [1, 1, 0, 1, 0] (body Try.f78) [] (laws_eqTermS.K0 k))
theorem laws_eqTermS.s4 (k : Nat) (p0 : (List (Int × (Int × (Int × Int))))) (p1 : (List (Int × (Int × (Int × Int))))) (n : Nat) (v5_4 : Int) : laws_eqTermS.L4 k p0 p1 (n + 1) v5_4 = laws_eqTermS.b4 k (laws_eqTermS.L4 k p0 p1 n) p0 p1 v5_4 := by kernel_rfl
theorem laws_eqTermS.t4 (k : Nat) (p0 : (List (Int × (Int × (Int × Int))))) (p1 : (List (Int × (Int × (Int × Int))))) : ∀ n, laws_eqTermS.L4 k p0 p1 n = laws_eqTermS.l4 k p0 p1 n := by
  intro n; induction n with
  | zero => rfl
  | succ n ih => funext v5_4; rw [laws_eqTermS.s4]; rw [ih]; rfl
theorem laws_eqTermS.s (k : Nat) (x : El laws_eqTermS.ps) : evalFn (laws_eqTermS.C k) k Try.f78 1 .bool .sh [.sh, .sh] .unit (unp laws_eqTermS.ps [.sh, .sh] x) = laws_eqTermS.bt k (laws_eqTermS.L4 k x.1 x.2.1 k) x.1 x.2.1 := by kernel_rfl
theorem laws_eqTermS.e (k : Nat) (x : El laws_eqTermS.ps) : evalFn (laws_eqTermS.C k) k Try.f78 1 .bool .sh [.sh, .sh] .unit (unp laws_eqTermS.ps [.sh, .sh] x) = laws_eqTermS.f k x.1 x.2.1 := by
  rw [laws_eqTermS.s]; rw [laws_eqTermS.t4 k x.1 x.2.1 k]; rfl
theorem laws_eqTermS.env (k : Nat) : EnvOk Try.prog [(112, laws_eqTerm.sem k)] := ⟨⟨laws_eqTerm.ok k, laws_eqTerm.code⟩, trivial⟩
theorem laws_eqTermS.ok (k : Nat) : Contract Try.prog 78 (laws_eqTermS.sem k) := fn_ok (C := laws_eqTermS.C k) (mkC_ok tys_ok (laws_eqTermS.env k) mix) Try.func78 rfl rfl (laws_eqTermS.e k)
theorem laws_eqTermS.code : CallOk Try.prog 78 := ⟨_, Try.func78, rfl, by kernel_rfl⟩
/-! loop.example/wholecheck/laws.eqTermSS -/
noncomputable def laws_eqTermSS.ps : S := (.pair (.slice false (.slice false (.agg (.pair I (.pair I (.pair I I)))))) (.pair (.slice false (.slice false (.agg (.pair I (.pair I (.pair I I)))))) .unit))
noncomputable def laws_eqTermSS.sem (k : Nat) : Sem := mkSem [.sh, .sh] 1 .bool .sh .unit (.pair (.slice false (.slice false (.agg (.pair I (.pair I (.pair I I)))))) (.pair (.slice false (.slice false (.agg (.pair I (.pair I (.pair I I)))))) .unit)) fun x => laws_eqTermSS.f k x.1 x.2.1
noncomputable def laws_eqTermSS.C (k : Nat) : Ctx := mkC tys [(78, laws_eqTermS.sem k)] (hintOf []) (headOf [(4, [(0, none), (1, none), (5, none)])]) [] (ordOf [(6, [0, 1, 2, 3, 4, 5, 6, 7, 8, 9])]) (hidOf []) (jnOf [])
noncomputable def laws_eqTermSS.K0 (k : Nat) : Ex → List Slot → Option (Bool × Unit) := kRet (laws_eqTermSS.C k) Try.f38 1 .bool .sh [.sh, .sh] .unit
noncomputable def laws_eqTermSS.L4 (k : Nat) (p0 : (List (List (Int × (Int × (Int × Int)))))) (p1 : (List (List (Int × (Int × (Int × Int)))))) (n : Nat) (v5_4 : Int) : Option (Bool × Unit) :=
  loopN ((laws_eqTermSS.C k).head 4) (evalCode (laws_eqTermSS.C k) k (codeAt [1, 1, 0, 1, 0, 0] (body Try.f38))) n (st 27 [(5, .val I .sh v5_4), (1, .val (.slice false (.slice false (.agg (.pair I (.pair I (.pair I I)))))) .sh p1), (0, .val (.slice false (.slice false (.agg (.pair I (.pair I (.pair I I)))))) .sh p0)]) (kAt (laws_eqTermSS.C k) k [1, 1, 0, 1, 0] (body Try.f38) [] (laws_eqTermSS.K0 k))
theorem laws_eqTermSS.s4 (k : Nat) (p0 : (List (List (Int × (Int × (Int × Int)))))) (p1 : (List (List (Int × (Int × (Int × Int)))))) (n : Nat) (v5_4 : Int) : laws_eqTermSS.L4 k p0 p1 (n + 1) v5_4 = laws_eqTermSS.b4 k (laws_eqTermSS.L4 k p0 p1 n) p0 p1 v5_4 := by kernel_rfl
theorem laws_eqTermSS.t4 (k : Nat) (p0 : (List (List (Int × (Int × (Int × Int)))))) (p1 : (List (List (Int × (Int × (Int × Int)))))) : ∀ n, laws_eqTermSS.L4 k p0 p1 n = laws_eqTermSS.l4 k p0 p1 n := by
  intro n; induction n with
  | zero => rfl
  | succ n ih => funext v5_4; rw [laws_eqTermSS.s4]; rw [ih]; rfl
theorem laws_eqTermSS.s (k : Nat) (x : El laws_eqTermSS.ps) : evalFn (laws_eqTermSS.C k) k Try.f38 1 .bool .sh [.sh, .sh] .unit (unp laws_eqTermSS.ps [.sh, .sh] x) = laws_eqTermSS.bt k (laws_eqTermSS.L4 k x.1 x.2.1 k) x.1 x.2.1 := by kernel_rfl
theorem laws_eqTermSS.e (k : Nat) (x : El laws_eqTermSS.ps) : evalFn (laws_eqTermSS.C k) k Try.f38 1 .bool .sh [.sh, .sh] .unit (unp laws_eqTermSS.ps [.sh, .sh] x) = laws_eqTermSS.f k x.1 x.2.1 := by
  rw [laws_eqTermSS.s]; rw [laws_eqTermSS.t4 k x.1 x.2.1 k]; rfl
theorem laws_eqTermSS.env (k : Nat) : EnvOk Try.prog [(78, laws_eqTermS.sem k)] := ⟨⟨laws_eqTermS.ok k, laws_eqTermS.code⟩, trivial⟩
theorem laws_eqTermSS.ok (k : Nat) : Contract Try.prog 38 (laws_eqTermSS.sem k) := fn_ok (C := laws_eqTermSS.C k) (mkC_ok tys_ok (laws_eqTermSS.env k) mix) Try.func38 rfl rfl (laws_eqTermSS.e k)
theorem laws_eqTermSS.code : CallOk Try.prog 38 := ⟨_, Try.func38, rfl, by kernel_rfl⟩
/-! loop.example/wholecheck/laws.eqRule -/
noncomputable def laws_eqRule.ps : S := (.pair (.agg (.pair (.slice false (.agg (.pair I (.pair I (.pair I I))))) (.pair (.slice false I) (.slice false (.slice false (.agg (.pair I (.pair I (.pair I I))))))))) (.pair (.agg (.pair (.slice false (.agg (.pair I (.pair I (.pair I I))))) (.pair (.slice false I) (.slice false (.slice false (.agg (.pair I (.pair I (.pair I I))))))))) .unit))
noncomputable def laws_eqRule.sem (k : Nat) : Sem := mkSem [.sh, .sh] 1 .bool .sh .unit (.pair (.agg (.pair (.slice false (.agg (.pair I (.pair I (.pair I I))))) (.pair (.slice false I) (.slice false (.slice false (.agg (.pair I (.pair I (.pair I I))))))))) (.pair (.agg (.pair (.slice false (.agg (.pair I (.pair I (.pair I I))))) (.pair (.slice false I) (.slice false (.slice false (.agg (.pair I (.pair I (.pair I I))))))))) .unit)) fun x => laws_eqRule.f k x.1 x.2.1
noncomputable def laws_eqRule.C (k : Nat) : Ctx := mkC tys [(78, laws_eqTermS.sem k), (12, laws_eqIntS.sem k), (38, laws_eqTermSS.sem k)] (hintOf []) (headOf []) [] (ordOf []) (hidOf []) (jnOf [])
noncomputable def laws_eqRule.K0 (k : Nat) : Ex → List Slot → Option (Bool × Unit) := kRet (laws_eqRule.C k) Try.f97 1 .bool .sh [.sh, .sh] .unit
theorem laws_eqRule.s (k : Nat) (x : El laws_eqRule.ps) : evalFn (laws_eqRule.C k) k Try.f97 1 .bool .sh [.sh, .sh] .unit (unp laws_eqRule.ps [.sh, .sh] x) = laws_eqRule.bt k x.1 x.2.1 := by kernel_rfl
theorem laws_eqRule.e (k : Nat) (x : El laws_eqRule.ps) : evalFn (laws_eqRule.C k) k Try.f97 1 .bool .sh [.sh, .sh] .unit (unp laws_eqRule.ps [.sh, .sh] x) = laws_eqRule.f k x.1 x.2.1 := by
  rw [laws_eqRule.s]; rfl
theorem laws_eqRule.env (k : Nat) : EnvOk Try.prog [(78, laws_eqTermS.sem k), (12, laws_eqIntS.sem k), (38, laws_eqTermSS.sem k)] := ⟨⟨laws_eqTermS.ok k, laws_eqTermS.code⟩, ⟨laws_eqIntS.ok k, laws_eqIntS.code⟩, ⟨laws_eqTermSS.ok k, laws_eqTermSS.code⟩, trivial⟩
theorem laws_eqRule.ok (k : Nat) : Contract Try.prog 97 (laws_eqRule.sem k) := fn_ok (C := laws_eqRule.C k) (mkC_ok tys_ok (laws_eqRule.env k) mix) Try.func97 rfl rfl (laws_eqRule.e k)
theorem laws_eqRule.code : CallOk Try.prog 97 := ⟨_, Try.func97, rfl, by kernel_rfl⟩
/-! loop.example/wholecheck/laws.eqRuleS -/
noncomputable def laws_eqRuleS.ps : S := (.pair (.slice false (.agg (.pair (.slice false (.agg (.pair I (.pair I (.pair I I))))) (.pair (.slice false I) (.slice false (.slice false (.agg (.pair I (.pair I (.pair I I)))))))))) (.pair (.slice false (.agg (.pair (.slice false (.agg (.pair I (.pair I (.pair I I))))) (.pair (.slice false I) (.slice false (.slice false (.agg (.pair I (.pair I (.pair I I)))))))))) .unit))
noncomputable def laws_eqRuleS.sem (k : Nat) : Sem := mkSem [.sh, .sh] 1 .bool .sh .unit (.pair (.slice false (.agg (.pair (.slice false (.agg (.pair I (.pair I (.pair I I))))) (.pair (.slice false I) (.slice false (.slice false (.agg (.pair I (.pair I (.pair I I)))))))))) (.pair (.slice false (.agg (.pair (.slice false (.agg (.pair I (.pair I (.pair I I))))) (.pair (.slice false I) (.slice false (.slice false (.agg (.pair I (.pair I (.pair I I)))))))))) .unit)) fun x => laws_eqRuleS.f k x.1 x.2.1
noncomputable def laws_eqRuleS.C (k : Nat) : Ctx := mkC tys [(97, laws_eqRule.sem k)] (hintOf []) (headOf [(4, [(0, none), (1, none), (5, none)])]) [] (ordOf [(6, [0, 1, 2, 3, 4, 5, 6, 7, 8, 9])]) (hidOf []) (jnOf [])
noncomputable def laws_eqRuleS.K0 (k : Nat) : Ex → List Slot → Option (Bool × Unit) := kRet (laws_eqRuleS.C k) Try.f58 1 .bool .sh [.sh, .sh] .unit
noncomputable def laws_eqRuleS.L4 (k : Nat) (p0 : (List ((List (Int × (Int × (Int × Int)))) × ((List Int) × (List (List (Int × (Int × (Int × Int))))))))) (p1 : (List ((List (Int × (Int × (Int × Int)))) × ((List Int) × (List (List (Int × (Int × (Int × Int))))))))) (n : Nat) (v5_4 : Int) : Option (Bool × Unit) :=
  loopN ((laws_eqRuleS.C k).head 4) (evalCode (laws_eqRuleS.C k) k (codeAt [1, 1, 0, 1, 0, 0] (body Try.f58))) n (st 27 [(5, .val I .sh v5_4), (1, .val (.slice false (.agg (.pair (.slice false (.agg (.pair I (.pair I (.pair I I))))) (.pair (.slice false I) (.slice false (.slice false (.agg (.pair I (.pair I (.pair I I)))))))))) .sh p1), (0, .val (.slice false (.agg (.pair (.slice false (.agg (.pair I (.pair I (.pair I I))))) (.pair (.slice false I) (.slice false (.slice false (.agg (.pair I (.pair I (.pair I I)))))))))) .sh p0)]) (kAt (laws_eqRuleS.C k) k [1, 1, 0, 1, 0] (body Try.f58) [] (laws_eqRuleS.K0 k))
theorem laws_eqRuleS.s4 (k : Nat) (p0 : (List ((List (Int × (Int × (Int × Int)))) × ((List Int) × (List (List (Int × (Int × (Int × Int))))))))) (p1 : (List ((List (Int × (Int × (Int × Int)))) × ((List Int) × (List (List (Int × (Int × (Int × Int))))))))) (n : Nat) (v5_4 : Int) : laws_eqRuleS.L4 k p0 p1 (n + 1) v5_4 = laws_eqRuleS.b4 k (laws_eqRuleS.L4 k p0 p1 n) p0 p1 v5_4 := by kernel_rfl
theorem laws_eqRuleS.t4 (k : Nat) (p0 : (List ((List (Int × (Int × (Int × Int)))) × ((List Int) × (List (List (Int × (Int × (Int × Int))))))))) (p1 : (List ((List (Int × (Int × (Int × Int)))) × ((List Int) × (List (List (Int × (Int × (Int × Int))))))))) : ∀ n, laws_eqRuleS.L4 k p0 p1 n = laws_eqRuleS.l4 k p0 p1 n := by
  intro n; induction n with
  | zero => rfl
  | succ n ih => funext v5_4; rw [laws_eqRuleS.s4]; rw [ih]; rfl
theorem laws_eqRuleS.s (k : Nat) (x : El laws_eqRuleS.ps) : evalFn (laws_eqRuleS.C k) k Try.f58 1 .bool .sh [.sh, .sh] .unit (unp laws_eqRuleS.ps [.sh, .sh] x) = laws_eqRuleS.bt k (laws_eqRuleS.L4 k x.1 x.2.1 k) x.1 x.2.1 := by kernel_rfl
theorem laws_eqRuleS.e (k : Nat) (x : El laws_eqRuleS.ps) : evalFn (laws_eqRuleS.C k) k Try.f58 1 .bool .sh [.sh, .sh] .unit (unp laws_eqRuleS.ps [.sh, .sh] x) = laws_eqRuleS.f k x.1 x.2.1 := by
  rw [laws_eqRuleS.s]; rw [laws_eqRuleS.t4 k x.1 x.2.1 k]; rfl
theorem laws_eqRuleS.env (k : Nat) : EnvOk Try.prog [(97, laws_eqRule.sem k)] := ⟨⟨laws_eqRule.ok k, laws_eqRule.code⟩, trivial⟩
theorem laws_eqRuleS.ok (k : Nat) : Contract Try.prog 58 (laws_eqRuleS.sem k) := fn_ok (C := laws_eqRuleS.C k) (mkC_ok tys_ok (laws_eqRuleS.env k) mix) Try.func58 rfl rfl (laws_eqRuleS.e k)
theorem laws_eqRuleS.code : CallOk Try.prog 58 := ⟨_, Try.func58, rfl, by kernel_rfl⟩
/-! loop.example/wholecheck/laws.eqSystem -/
noncomputable def laws_eqSystem.ps : S := (.pair (.agg (.pair (.slice false (.agg (.pair I (.pair I I)))) (.slice false (.agg (.pair (.slice false (.agg (.pair I (.pair I (.pair I I))))) (.pair (.slice false I) (.slice false (.slice false (.agg (.pair I (.pair I (.pair I I)))))))))))) (.pair (.agg (.pair (.slice false (.agg (.pair I (.pair I I)))) (.slice false (.agg (.pair (.slice false (.agg (.pair I (.pair I (.pair I I))))) (.pair (.slice false I) (.slice false (.slice false (.agg (.pair I (.pair I (.pair I I)))))))))))) .unit))
noncomputable def laws_eqSystem.sem (k : Nat) : Sem := mkSem [.sh, .sh] 1 .bool .sh .unit (.pair (.agg (.pair (.slice false (.agg (.pair I (.pair I I)))) (.slice false (.agg (.pair (.slice false (.agg (.pair I (.pair I (.pair I I))))) (.pair (.slice false I) (.slice false (.slice false (.agg (.pair I (.pair I (.pair I I)))))))))))) (.pair (.agg (.pair (.slice false (.agg (.pair I (.pair I I)))) (.slice false (.agg (.pair (.slice false (.agg (.pair I (.pair I (.pair I I))))) (.pair (.slice false I) (.slice false (.slice false (.agg (.pair I (.pair I (.pair I I)))))))))))) .unit)) fun x => laws_eqSystem.f k x.1 x.2.1
noncomputable def laws_eqSystem.C (k : Nat) : Ctx := mkC tys [(57, laws_eqVarS.sem k), (58, laws_eqRuleS.sem k)] (hintOf []) (headOf []) [] (ordOf []) (hidOf []) (jnOf [])
noncomputable def laws_eqSystem.K0 (k : Nat) : Ex → List Slot → Option (Bool × Unit) := kRet (laws_eqSystem.C k) Try.f27 1 .bool .sh [.sh, .sh] .unit
theorem laws_eqSystem.s (k : Nat) (x : El laws_eqSystem.ps) : evalFn (laws_eqSystem.C k) k Try.f27 1 .bool .sh [.sh, .sh] .unit (unp laws_eqSystem.ps [.sh, .sh] x) = laws_eqSystem.bt k x.1 x.2.1 := by kernel_rfl
theorem laws_eqSystem.e (k : Nat) (x : El laws_eqSystem.ps) : evalFn (laws_eqSystem.C k) k Try.f27 1 .bool .sh [.sh, .sh] .unit (unp laws_eqSystem.ps [.sh, .sh] x) = laws_eqSystem.f k x.1 x.2.1 := by
  rw [laws_eqSystem.s]; rfl
theorem laws_eqSystem.env (k : Nat) : EnvOk Try.prog [(57, laws_eqVarS.sem k), (58, laws_eqRuleS.sem k)] := ⟨⟨laws_eqVarS.ok k, laws_eqVarS.code⟩, ⟨laws_eqRuleS.ok k, laws_eqRuleS.code⟩, trivial⟩
theorem laws_eqSystem.ok (k : Nat) : Contract Try.prog 27 (laws_eqSystem.sem k) := fn_ok (C := laws_eqSystem.C k) (mkC_ok tys_ok (laws_eqSystem.env k) mix) Try.func27 rfl rfl (laws_eqSystem.e k)
theorem laws_eqSystem.code : CallOk Try.prog 27 := ⟨_, Try.func27, rfl, by kernel_rfl⟩
/-! loop.example/wholecheck/laws.eqBlocks -/
noncomputable def laws_eqBlocks.ps : S := (.pair (.agg (.slice false I)) (.pair (.agg (.slice false I)) .unit))
noncomputable def laws_eqBlocks.sem (k : Nat) : Sem := mkSem [.sh, .sh] 1 .bool .sh .unit (.pair (.agg (.slice false I)) (.pair (.agg (.slice false I)) .unit)) fun x => laws_eqBlocks.f k x.1 x.2.1
noncomputable def laws_eqBlocks.C (k : Nat) : Ctx := mkC tys [(12, laws_eqIntS.sem k)] (hintOf []) (headOf []) [] (ordOf []) (hidOf []) (jnOf [])
noncomputable def laws_eqBlocks.K0 (k : Nat) : Ex → List Slot → Option (Bool × Unit) := kRet (laws_eqBlocks.C k) Try.f28 1 .bool .sh [.sh, .sh] .unit
theorem laws_eqBlocks.s (k : Nat) (x : El laws_eqBlocks.ps) : evalFn (laws_eqBlocks.C k) k Try.f28 1 .bool .sh [.sh, .sh] .unit (unp laws_eqBlocks.ps [.sh, .sh] x) = laws_eqBlocks.bt k x.1 x.2.1 := by kernel_rfl
theorem laws_eqBlocks.e (k : Nat) (x : El laws_eqBlocks.ps) : evalFn (laws_eqBlocks.C k) k Try.f28 1 .bool .sh [.sh, .sh] .unit (unp laws_eqBlocks.ps [.sh, .sh] x) = laws_eqBlocks.f k x.1 x.2.1 := by
  rw [laws_eqBlocks.s]; rfl
theorem laws_eqBlocks.env (k : Nat) : EnvOk Try.prog [(12, laws_eqIntS.sem k)] := ⟨⟨laws_eqIntS.ok k, laws_eqIntS.code⟩, trivial⟩
theorem laws_eqBlocks.ok (k : Nat) : Contract Try.prog 28 (laws_eqBlocks.sem k) := fn_ok (C := laws_eqBlocks.C k) (mkC_ok tys_ok (laws_eqBlocks.env k) mix) Try.func28 rfl rfl (laws_eqBlocks.e k)
theorem laws_eqBlocks.code : CallOk Try.prog 28 := ⟨_, Try.func28, rfl, by kernel_rfl⟩
/-! loop.example/wholecheck/laws.FnExactBlocksValid -/
noncomputable def laws_FnExactBlocksValid.ps : S := (.pair (.agg (.pair (.slice false (.agg (.pair I (.pair I I)))) (.slice false (.agg (.pair (.slice false (.agg (.pair I (.pair I (.pair I I))))) (.pair (.slice false I) (.slice false (.slice false (.agg (.pair I (.pair I (.pair I I)))))))))))) (.pair (.agg (.slice false I)) .unit))
noncomputable def laws_FnExactBlocksValid.sem (k : Nat) : Sem := mkSem [.sh, .sh] 1 .bool .sh .unit (.pair (.agg (.pair (.slice false (.agg (.pair I (.pair I I)))) (.slice false (.agg (.pair (.slice false (.agg (.pair I (.pair I (.pair I I))))) (.pair (.slice false I) (.slice false (.slice false (.agg (.pair I (.pair I (.pair I I)))))))))))) (.pair (.agg (.slice false I)) .unit)) fun x => laws_FnExactBlocksValid.f k x.1 x.2.1
noncomputable def laws_FnExactBlocksValid.C (k : Nat) : Ctx := mkC tys [(21, laws_szSystem.sem k), (22, laws_szBlocks.sem k), (24, laws_toSystem.sem k), (25, laws_toBlocks.sem k), (23, spec_BlocksValid.sem k), (26, impl_BlocksValid.sem k), (27, laws_eqSystem.sem k), (28, laws_eqBlocks.sem k)] (hintOf []) (headOf []) [] (ordOf [(8, [0, 2, 1, 3, 4, 5]), (14, [0, 1, 2, 3, 4]), (16, [0, 1, 2, 3, 4])]) (hidOf [((8, 1), [3]), ((8, 3), [2]), ((8, 4), [2, 3]), ((14, 2), [7]), ((14, 3), [2]), ((16, 2), [8]), ((16, 3), [3])]) (jnOf [])
noncomputable def laws_FnExactBlocksValid.K0 (k : Nat) : Ex → List Slot → Option (Bool × Unit) := kRet (laws_FnExactBlocksValid.C k) Try.f6 1 .bool .sh [.sh, .sh] .unit
theorem laws_FnExactBlocksValid.s (k : Nat) (x : El laws_FnExactBlocksValid.ps) : evalFn (laws_FnExactBlocksValid.C k) k Try.f6 1 .bool .sh [.sh, .sh] .unit (unp laws_FnExactBlocksValid.ps [.sh, .sh] x) = laws_FnExactBlocksValid.bt k x.1 x.2.1 := by kernel_rfl
theorem laws_FnExactBlocksValid.e (k : Nat) (x : El laws_FnExactBlocksValid.ps) : evalFn (laws_FnExactBlocksValid.C k) k Try.f6 1 .bool .sh [.sh, .sh] .unit (unp laws_FnExactBlocksValid.ps [.sh, .sh] x) = laws_FnExactBlocksValid.f k x.1 x.2.1 := by
  rw [laws_FnExactBlocksValid.s]; rfl
theorem laws_FnExactBlocksValid.env (k : Nat) : EnvOk Try.prog [(21, laws_szSystem.sem k), (22, laws_szBlocks.sem k), (24, laws_toSystem.sem k), (25, laws_toBlocks.sem k), (23, spec_BlocksValid.sem k), (26, impl_BlocksValid.sem k), (27, laws_eqSystem.sem k), (28, laws_eqBlocks.sem k)] := ⟨⟨laws_szSystem.ok k, laws_szSystem.code⟩, ⟨laws_szBlocks.ok k, laws_szBlocks.code⟩, ⟨laws_toSystem.ok k, laws_toSystem.code⟩, ⟨laws_toBlocks.ok k, laws_toBlocks.code⟩, ⟨spec_BlocksValid.ok k, spec_BlocksValid.code⟩, ⟨impl_BlocksValid.ok k, impl_BlocksValid.code⟩, ⟨laws_eqSystem.ok k, laws_eqSystem.code⟩, ⟨laws_eqBlocks.ok k, laws_eqBlocks.code⟩, trivial⟩
theorem laws_FnExactBlocksValid.ok (k : Nat) : Contract Try.prog 6 (laws_FnExactBlocksValid.sem k) := fn_ok (C := laws_FnExactBlocksValid.C k) (mkC_ok tys_ok (laws_FnExactBlocksValid.env k) mix) Try.func6 rfl rfl (laws_FnExactBlocksValid.e k)
theorem laws_FnExactBlocksValid.code : CallOk Try.prog 6 := ⟨_, Try.func6, rfl, by kernel_rfl⟩
end Go.Ev
