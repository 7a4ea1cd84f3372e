/- The functions of the program compute what the plain functions say. -/
import Derived.Test.YtnbanheipmginaaFn1
import Derived.Test.YtnbanheipmginaaEv4
import Derived.Test.YtnbanheipmginaaProg
import Derived.KernelRfl
noncomputable section
namespace Go.Ev
open Go.Proofs
set_option maxRecDepth 100000
set_option linter.unusedVariables false
noncomputable def tys : List (Nat × S) := [(3, I), (4, .bool), (5, (.int .u8)), (22, (.slice false I)), (27, (.slice false (.int .u8))), (64, (.ptr (.agg (.pair (.slice false (.int .u8)) I)))), (99, (.agg (.pair (.slice false (.int .u8)) I)))]
theorem tys_ok : tysB Try.prog tys = true := by kernel_rfl
theorem mix : Try.prog.follows .mixedOrders = true := by kernel_rfl
/-! loop.example/wholecheck/laws.toIntS -/
noncomputable def laws_toIntS.ps : S := (.pair (.slice false I) .unit)
noncomputable def laws_toIntS.sem (k : Nat) : Sem := mkSem [.sh] 1 (.slice false I) (.ow .sh) .unit (.pair (.slice false I) .unit) fun x => laws_toIntS.f k x.1
noncomputable def laws_toIntS.C (k : Nat) : Ctx := mkC tys [] (hintOf []) (headOf [(3, [(0, none), (3, none), (4, none)])]) [] (ordOf []) (hidOf []) (jnOf [])
noncomputable def laws_toIntS.K0 (k : Nat) : Ex → List Slot → Option ((List Int) × Unit) := kRet (laws_toIntS.C k) Try.f10 1 (.slice false I) (.ow .sh) [.sh] .unit
noncomputable def laws_toIntS.L3 (k : Nat) (p0 : (List Int)) (n : Nat) (v3_3 : (List Int)) (v4_3 : Int) : Option ((List Int) × Unit) :=
  loopN ((laws_toIntS.C k).head 3) (evalCode (laws_toIntS.C k) k (codeAt [1, 1, 0, 1, 0, 0] (body Try.f10))) n (st 22 [(4, .val I .sh v4_3), (3, .val (.slice false I) (.ow .sh) v3_3), (0, .val (.slice false I) .sh p0)]) (kAt (laws_toIntS.C k) k [1, 1, 0, 1, 0] (body Try.f10) [] (laws_toIntS.K0 k))
theorem laws_toIntS.s3 (k : Nat) (p0 : (List Int)) (n : Nat) (v3_3 : (List Int)) (v4_3 : Int) : laws_toIntS.L3 k p0 (n + 1) v3_3 v4_3 = laws_toIntS.b3 k (laws_toIntS.L3 k p0 n) p0 v3_3 v4_3 := by kernel_rfl
theorem laws_toIntS.t3 (k : Nat) (p0 : (List Int)) : ∀ n, laws_toIntS.L3 k p0 n = laws_toIntS.l3 k p0 n := by
  intro n; induction n with
  | zero => rfl
  | succ n ih => funext v3_3 v4_3; rw [laws_toIntS.s3]; rw [ih]; rfl
theorem laws_toIntS.s (k : Nat) (x : El laws_toIntS.ps) : evalFn (laws_toIntS.C k) k Try.f10 1 (.slice false I) (.ow .sh) [.sh] .unit (unp laws_toIntS.ps [.sh] x) = laws_toIntS.bt k (laws_toIntS.L3 k x.1 k) x.1 := by kernel_rfl
theorem laws_toIntS.e (k : Nat) (x : El laws_toIntS.ps) : evalFn (laws_toIntS.C k) k Try.f10 1 (.slice false I) (.ow .sh) [.sh] .unit (unp laws_toIntS.ps [.sh] x) = laws_toIntS.f k x.1 := by
  rw [laws_toIntS.s]; rw [laws_toIntS.t3 k x.1 k]; rfl
theorem laws_toIntS.env (k : Nat) : EnvOk Try.prog [] := trivial
theorem laws_toIntS.ok (k : Nat) : Contract Try.prog 10 (laws_toIntS.sem k) := fn_ok (C := laws_toIntS.C k) (mkC_ok tys_ok (laws_toIntS.env k) mix) Try.func10 rfl rfl (laws_toIntS.e k)
theorem laws_toIntS.code : CallOk Try.prog 10 := ⟨_, Try.func10, rfl, by kernel_rfl⟩
/-! loop.example/wholecheck/spec.l1In -/
noncomputable def spec_l1In.ps : S := (.pair I (.pair I (.pair I .unit)))
noncomputable def spec_l1In.sem (k : Nat) : Sem := mkSem [.sh, .sh, .sh] 1 .bool .sh .unit (.pair I (.pair I (.pair I .unit))) fun x => spec_l1In.f k x.1 x.2.1 x.2.2.1
noncomputable def spec_l1In.C (k : Nat) : Ctx := mkC tys [] (hintOf []) (headOf []) [] (ordOf []) (hidOf []) (jnOf [])
noncomputable def spec_l1In.K0 (k : Nat) : Ex → List Slot → Option (Bool × Unit) := kRet (spec_l1In.C k) Try.f52 1 .bool .sh [.sh, .sh, .sh] .unit
theorem spec_l1In.s (k : Nat) (x : El spec_l1In.ps) : evalFn (spec_l1In.C k) k Try.f52 1 .bool .sh [.sh, .sh, .sh] .unit (unp spec_l1In.ps [.sh, .sh, .sh] x) = spec_l1In.bt k x.1 x.2.1 x.2.2.1 := by kernel_rfl
theorem spec_l1In.e (k : Nat) (x : El spec_l1In.ps) : evalFn (spec_l1In.C k) k Try.f52 1 .bool .sh [.sh, .sh, .sh] .unit (unp spec_l1In.ps [.sh, .sh, .sh] x) = spec_l1In.f k x.1 x.2.1 x.2.2.1 := by
  rw [spec_l1In.s]; rfl
theorem spec_l1In.env (k : Nat) : EnvOk Try.prog [] := trivial
theorem spec_l1In.ok (k : Nat) : Contract Try.prog 52 (spec_l1In.sem k) := fn_ok (C := spec_l1In.C k) (mkC_ok tys_ok (spec_l1In.env k) mix) Try.func52 rfl rfl (spec_l1In.e k)
theorem spec_l1In.code : CallOk Try.prog 52 := ⟨_, Try.func52, rfl, by kernel_rfl⟩
/-! loop.example/wholecheck/spec.l2Has -/
noncomputable def spec_l2Has.ps : S := (.pair (.slice false I) (.pair I .unit))
noncomputable def spec_l2Has.sem (k : Nat) : Sem := mkSem [.sh, .sh] 1 .bool .sh .unit (.pair (.slice false I) (.pair I .unit)) fun x => spec_l2Has.f k x.1 x.2.1
noncomputable def spec_l2Has.C (k : Nat) : Ctx := mkC tys [] (hintOf []) (headOf [(2, [(0, none), (1, none), (5, none)])]) [] (ordOf []) (hidOf []) (jnOf [])
noncomputable def spec_l2Has.K0 (k : Nat) : Ex → List Slot → Option (Bool × Unit) := kRet (spec_l2Has.C k) Try.f61 1 .bool .sh [.sh, .sh] .unit
noncomputable def spec_l2Has.L2 (k : Nat) (p0 : (List Int)) (p1 : Int) (n : Nat) (v5_2 : Int) : Option (Bool × Unit) :=
  loopN ((spec_l2Has.C k).head 2) (evalCode (spec_l2Has.C k) k (codeAt [1, 0, 1, 0, 0] (body Try.f61))) n (st 18 [(5, .val I .sh v5_2), (1, .val I .sh p1), (0, .val (.slice false I) .sh p0)]) (kAt (spec_l2Has.C k) k [1, 0, 1, 0] (body Try.f61) [] (spec_l2Has.K0 k))
theorem spec_l2Has.s2 (k : Nat) (p0 : (List Int)) (p1 : Int) (n : Nat) (v5_2 : Int) : spec_l2Has.L2 k p0 p1 (n + 1) v5_2 = spec_l2Has.b2 k (spec_l2Has.L2 k p0 p1 n) p0 p1 v5_2 := by kernel_rfl
theorem spec_l2Has.t2 (k : Nat) (p0 : (List Int)) (p1 : Int) : ∀ n, spec_l2Has.L2 k p0 p1 n = spec_l2Has.l2 k p0 p1 n := by
  intro n; induction n with
  | zero => rfl
  | succ n ih => funext v5_2; rw [spec_l2Has.s2]; rw [ih]; rfl
theorem spec_l2Has.s (k : Nat) (x : El spec_l2Has.ps) : evalFn (spec_l2Has.C k) k Try.f61 1 .bool .sh [.sh, .sh] .unit (unp spec_l2Has.ps [.sh, .sh] x) = spec_l2Has.bt k (spec_l2Has.L2 k x.1 x.2.1 k) x.1 x.2.1 := by kernel_rfl
theorem spec_l2Has.e (k : Nat) (x : El spec_l2Has.ps) : evalFn (spec_l2Has.C k) k Try.f61 1 .bool .sh [.sh, .sh] .unit (unp spec_l2Has.ps [.sh, .sh] x) = spec_l2Has.f k x.1 x.2.1 := by
  rw [spec_l2Has.s]; rw [spec_l2Has.t2 k x.1 x.2.1 k]; rfl
theorem spec_l2Has.env (k : Nat) : EnvOk Try.prog [] := trivial
theorem spec_l2Has.ok (k : Nat) : Contract Try.prog 61 (spec_l2Has.sem k) := fn_ok (C := spec_l2Has.C k) (mkC_ok tys_ok (spec_l2Has.env k) mix) Try.func61 rfl rfl (spec_l2Has.e k)
theorem spec_l2Has.code : CallOk Try.prog 61 := ⟨_, Try.func61, rfl, by kernel_rfl⟩
/-! loop.example/wholecheck/spec.OrderValid -/
noncomputable def spec_OrderValid.ps : S := (.pair (.slice false I) (.pair I .unit))
noncomputable def spec_OrderValid.sem (k : Nat) : Sem := mkSem [.sh, .sh] 1 .bool .sh .unit (.pair (.slice false I) (.pair I .unit)) fun x => spec_OrderValid.f k x.1 x.2.1
noncomputable def spec_OrderValid.C (k : Nat) : Ctx := mkC tys [(52, spec_l1In.sem k), (61, spec_l2Has.sem k)] (hintOf []) (headOf [(4, [(0, none), (1, none), (5, none)])]) [] (ordOf []) (hidOf []) (jnOf [])
noncomputable def spec_OrderValid.K0 (k : Nat) : Ex → List Slot → Option (Bool × Unit) := kRet (spec_OrderValid.C k) Try.f40 1 .bool .sh [.sh, .sh] .unit
noncomputable def spec_OrderValid.L4 (k : Nat) (p0 : (List Int)) (p1 : Int) (n : Nat) (v5_4 : Int) : Option (Bool × Unit) :=
  loopN ((spec_OrderValid.C k).head 4) (evalCode (spec_OrderValid.C k) k (codeAt [1, 1, 0, 1, 0, 0] (body Try.f40))) n (st 24 [(5, .val I .sh v5_4), (1, .val I .sh p1), (0, .val (.slice false I) .sh p0)]) (kAt (spec_OrderValid.C k) k [1, 1, 0, 1, 0] (body Try.f40) [] (spec_OrderValid.K0 k))
theorem spec_OrderValid.s4 (k : Nat) (p0 : (List Int)) (p1 : Int) (n : Nat) (v5_4 : Int) : spec_OrderValid.L4 k p0 p1 (n + 1) v5_4 = spec_OrderValid.b4 k (spec_OrderValid.L4 k p0 p1 n) p0 p1 v5_4 := by kernel_rfl
theorem spec_OrderValid.t4 (k : Nat) (p0 : (List Int)) (p1 : Int) : ∀ n, spec_OrderValid.L4 k p0 p1 n = spec_OrderValid.l4 k p0 p1 n := by
  intro n; induction n with
  | zero => rfl
  | succ n ih => funext v5_4; rw [spec_OrderValid.s4]; rw [ih]; rfl
theorem spec_OrderValid.s (k : Nat) (x : El spec_OrderValid.ps) : evalFn (spec_OrderValid.C k) k Try.f40 1 .bool .sh [.sh, .sh] .unit (unp spec_OrderValid.ps [.sh, .sh] x) = spec_OrderValid.bt k (spec_OrderValid.L4 k x.1 x.2.1 k) x.1 x.2.1 := by kernel_rfl
theorem spec_OrderValid.e (k : Nat) (x : El spec_OrderValid.ps) : evalFn (spec_OrderValid.C k) k Try.f40 1 .bool .sh [.sh, .sh] .unit (unp spec_OrderValid.ps [.sh, .sh] x) = spec_OrderValid.f k x.1 x.2.1 := by
  rw [spec_OrderValid.s]; rw [spec_OrderValid.t4 k x.1 x.2.1 k]; rfl
theorem spec_OrderValid.env (k : Nat) : EnvOk Try.prog [(52, spec_l1In.sem k), (61, spec_l2Has.sem k)] := ⟨⟨spec_l1In.ok k, spec_l1In.code⟩, ⟨spec_l2Has.ok k, spec_l2Has.code⟩, trivial⟩
theorem spec_OrderValid.ok (k : Nat) : Contract Try.prog 40 (spec_OrderValid.sem k) := fn_ok (C := spec_OrderValid.C k) (mkC_ok tys_ok (spec_OrderValid.env k) mix) Try.func40 rfl rfl (spec_OrderValid.e k)
theorem spec_OrderValid.code : CallOk Try.prog 40 := ⟨_, Try.func40, rfl, by kernel_rfl⟩
/-! loop.example/wholecheck/spec.Exchanged -/
noncomputable def spec_Exchanged.ps : S := (.pair (.slice false I) (.pair (.slice false I) .unit))
noncomputable def spec_Exchanged.sem (k : Nat) : Sem := mkSem [.sh, .sh] 1 (.slice false I) (.ow .sh) .unit (.pair (.slice false I) (.pair (.slice false I) .unit)) fun x => spec_Exchanged.f k x.1 x.2.1
noncomputable def spec_Exchanged.C (k : Nat) : Ctx := mkC tys [(40, spec_OrderValid.sem k)] (hintOf []) (headOf [(3, [(0, none), (1, none), (5, none), (6, none)])]) [] (ordOf []) (hidOf []) (jnOf [])
noncomputable def spec_Exchanged.K0 (k : Nat) : Ex → List Slot → Option ((List Int) × Unit) := kRet (spec_Exchanged.C k) Try.f9 1 (.slice false I) (.ow .sh) [.sh, .sh] .unit
noncomputable def spec_Exchanged.L3 (k : Nat) (p0 : (List Int)) (p1 : (List Int)) (n : Nat) (v5_3 : (List Int)) (v6_3 : Int) : Option ((List Int) × Unit) :=
  loopN ((spec_Exchanged.C k).head 3) (evalCode (spec_Exchanged.C k) k (codeAt [1, 1, 0, 1, 0, 0] (body Try.f9))) n (st 31 [(6, .val I .sh v6_3), (5, .val (.slice false I) (.ow .sh) v5_3), (1, .val (.slice false I) .sh p1), (0, .val (.slice false I) .sh p0)]) (kAt (spec_Exchanged.C k) k [1, 1, 0, 1, 0] (body Try.f9) [] (spec_Exchanged.K0 k))
theorem spec_Exchanged.s3 (k : Nat) (p0 : (List Int)) (p1 : (List Int)) (n : Nat) (v5_3 : (List Int)) (v6_3 : Int) : spec_Exchanged.L3 k p0 p1 (n + 1) v5_3 v6_3 = spec_Exchanged.b3 k (spec_Exchanged.L3 k p0 p1 n) p0 p1 v5_3 v6_3 := by kernel_rfl
theorem spec_Exchanged.t3 (k : Nat) (p0 : (List Int)) (p1 : (List Int)) : ∀ n, spec_Exchanged.L3 k p0 p1 n = spec_Exchanged.l3 k p0 p1 n := by
  intro n; induction n with
  | zero => rfl
  | succ n ih => funext v5_3 v6_3; rw [spec_Exchanged.s3]; rw [ih]; rfl
theorem spec_Exchanged.s (k : Nat) (x : El spec_Exchanged.ps) : evalFn (spec_Exchanged.C k) k Try.f9 1 (.slice false I) (.ow .sh) [.sh, .sh] .unit (unp spec_Exchanged.ps [.sh, .sh] x) = spec_Exchanged.bt k (spec_Exchanged.L3 k x.1 x.2.1 k) x.1 x.2.1 := by kernel_rfl
theorem spec_Exchanged.e (k : Nat) (x : El spec_Exchanged.ps) : evalFn (spec_Exchanged.C k) k Try.f9 1 (.slice false I) (.ow .sh) [.sh, .sh] .unit (unp spec_Exchanged.ps [.sh, .sh] x) = spec_Exchanged.f k x.1 x.2.1 := by
  rw [spec_Exchanged.s]; rw [spec_Exchanged.t3 k x.1 x.2.1 k]; rfl
theorem spec_Exchanged.env (k : Nat) : EnvOk Try.prog [(40, spec_OrderValid.sem k)] := ⟨⟨spec_OrderValid.ok k, spec_OrderValid.code⟩, trivial⟩
theorem spec_Exchanged.ok (k : Nat) : Contract Try.prog 9 (spec_Exchanged.sem k) := fn_ok (C := spec_Exchanged.C k) (mkC_ok tys_ok (spec_Exchanged.env k) mix) Try.func9 rfl rfl (spec_Exchanged.e k)
theorem spec_Exchanged.code : CallOk Try.prog 9 := ⟨_, Try.func9, rfl, by kernel_rfl⟩
/-! loop.example/wholecheck/impl.in -/
noncomputable def impl_in.ps : S := (.pair I (.pair I (.pair I .unit)))
noncomputable def impl_in.sem (k : Nat) : Sem := mkSem [.sh, .sh, .sh] 1 .bool .sh .unit (.pair I (.pair I (.pair I .unit))) fun x => impl_in.f k x.1 x.2.1 x.2.2.1
noncomputable def impl_in.C (k : Nat) : Ctx := mkC tys [] (hintOf []) (headOf []) [] (ordOf []) (hidOf []) (jnOf [])
noncomputable def impl_in.K0 (k : Nat) : Ex → List Slot → Option (Bool × Unit) := kRet (impl_in.C k) Try.f80 1 .bool .sh [.sh, .sh, .sh] .unit
theorem impl_in.s (k : Nat) (x : El impl_in.ps) : evalFn (impl_in.C k) k Try.f80 1 .bool .sh [.sh, .sh, .sh] .unit (unp impl_in.ps [.sh, .sh, .sh] x) = impl_in.bt k x.1 x.2.1 x.2.2.1 := by kernel_rfl
theorem impl_in.e (k : Nat) (x : El impl_in.ps) : evalFn (impl_in.C k) k Try.f80 1 .bool .sh [.sh, .sh, .sh] .unit (unp impl_in.ps [.sh, .sh, .sh] x) = impl_in.f k x.1 x.2.1 x.2.2.1 := by
  rw [impl_in.s]; rfl
theorem impl_in.env (k : Nat) : EnvOk Try.prog [] := trivial
theorem impl_in.ok (k : Nat) : Contract Try.prog 80 (impl_in.sem k) := fn_ok (C := impl_in.C k) (mkC_ok tys_ok (impl_in.env k) mix) Try.func80 rfl rfl (impl_in.e k)
theorem impl_in.code : CallOk Try.prog 80 := ⟨_, Try.func80, rfl, by kernel_rfl⟩
/-! slices.Index[[]int,int] -/
noncomputable def slices_Index_int_int.ps : S := (.pair (.slice false I) (.pair I .unit))
noncomputable def slices_Index_int_int.sem (k : Nat) : Sem := mkSem [.sh, .sh] 1 I .sh .unit (.pair (.slice false I) (.pair I .unit)) fun x => slices_Index_int_int.f k x.1 x.2.1
noncomputable def slices_Index_int_int.C (k : Nat) : Ctx := mkC tys [] (hintOf []) (headOf [(2, [(0, none), (1, none), (7, none), (8, none)])]) [] (ordOf []) (hidOf []) (jnOf [])
noncomputable def slices_Index_int_int.K0 (k : Nat) : Ex → List Slot → Option (Int × Unit) := kRet (slices_Index_int_int.C k) Try.f113 1 I .sh [.sh, .sh] .unit
noncomputable def slices_Index_int_int.L2 (k : Nat) (p0 : (List Int)) (p1 : Int) (n : Nat) (v8_2 : Int) : Option (Int × Unit) :=
  loopN ((slices_Index_int_int.C k).head 2) (evalCode (slices_Index_int_int.C k) k (codeAt [1, 0, 1, 0, 0] (body Try.f113))) n (st 19 [(8, .val I .sh v8_2), (7, .val I .sh ((p0.length : Int))), (1, .val I .sh p1), (0, .val (.slice false I) .sh p0)]) (kAt (slices_Index_int_int.C k) k [1, 0, 1, 0] (body Try.f113) [] (slices_Index_int_int.K0 k))
theorem slices_Index_int_int.s2 (k : Nat) (p0 : (List Int)) (p1 : Int) (n : Nat) (v8_2 : Int) : slices_Index_int_int.L2 k p0 p1 (n + 1) v8_2 = slices_Index_int_int.b2 k (slices_Index_int_int.L2 k p0 p1 n) p0 p1 v8_2 := by kernel_rfl
theorem slices_Index_int_int.t2 (k : Nat) (p0 : (List Int)) (p1 : Int) : ∀ n, slices_Index_int_int.L2 k p0 p1 n = slices_Index_int_int.l2 k p0 p1 n := by
  intro n; induction n with
  | zero => rfl
  | succ n ih => funext v8_2; rw [slices_Index_int_int.s2]; rw [ih]; rfl
theorem slices_Index_int_int.s (k : Nat) (x : El slices_Index_int_int.ps) : evalFn (slices_Index_int_int.C k) k Try.f113 1 I .sh [.sh, .sh] .unit (unp slices_Index_int_int.ps [.sh, .sh] x) = slices_Index_int_int.bt k (slices_Index_int_int.L2 k x.1 x.2.1 k) x.1 x.2.1 := by kernel_rfl
theorem slices_Index_int_int.e (k : Nat) (x : El slices_Index_int_int.ps) : evalFn (slices_Index_int_int.C k) k Try.f113 1 I .sh [.sh, .sh] .unit (unp slices_Index_int_int.ps [.sh, .sh] x) = slices_Index_int_int.f k x.1 x.2.1 := by
  rw [slices_Index_int_int.s]; rw [slices_Index_int_int.t2 k x.1 x.2.1 k]; rfl
theorem slices_Index_int_int.env (k : Nat) : EnvOk Try.prog [] := trivial
theorem slices_Index_int_int.ok (k : Nat) : Contract Try.prog 113 (slices_Index_int_int.sem k) := fn_ok (C := slices_Index_int_int.C k) (mkC_ok tys_ok (slices_Index_int_int.env k) mix) Try.func113 rfl rfl (slices_Index_int_int.e k)
theorem slices_Index_int_int.code : CallOk Try.prog 113 := ⟨_, Try.func113, rfl, by kernel_rfl⟩
/-! slices.Contains[[]int,int] -/
noncomputable def slices_Contains_int_int.ps : S := (.pair (.slice false I) (.pair I .unit))
noncomputable def slices_Contains_int_int.sem (k : Nat) : Sem := mkSem [.sh, .sh] 1 .bool .sh .unit (.pair (.slice false I) (.pair I .unit)) fun x => slices_Contains_int_int.f k x.1 x.2.1
noncomputable def slices_Contains_int_int.C (k : Nat) : Ctx := mkC tys [(113, slices_Index_int_int.sem k)] (hintOf []) (headOf []) [] (ordOf []) (hidOf []) (jnOf [])
noncomputable def slices_Contains_int_int.K0 (k : Nat) : Ex → List Slot → Option (Bool × Unit) := kRet (slices_Contains_int_int.C k) Try.f81 1 .bool .sh [.sh, .sh] .unit
theorem slices_Contains_int_int.s (k : Nat) (x : El slices_Contains_int_int.ps) : evalFn (slices_Contains_int_int.C k) k Try.f81 1 .bool .sh [.sh, .sh] .unit (unp slices_Contains_int_int.ps [.sh, .sh] x) = slices_Contains_int_int.bt k x.1 x.2.1 := by kernel_rfl
theorem slices_Contains_int_int.e (k : Nat) (x : El slices_Contains_int_int.ps) : evalFn (slices_Contains_int_int.C k) k Try.f81 1 .bool .sh [.sh, .sh] .unit (unp slices_Contains_int_int.ps [.sh, .sh] x) = slices_Contains_int_int.f k x.1 x.2.1 := by
  rw [slices_Contains_int_int.s]; rfl
theorem slices_Contains_int_int.env (k : Nat) : EnvOk Try.prog [(113, slices_Index_int_int.sem k)] := ⟨⟨slices_Index_int_int.ok k, slices_Index_int_int.code⟩, trivial⟩
theorem slices_Contains_int_int.ok (k : Nat) : Contract Try.prog 81 (slices_Contains_int_int.sem k) := fn_ok (C := slices_Contains_int_int.C k) (mkC_ok tys_ok (slices_Contains_int_int.env k) mix) Try.func81 rfl rfl (slices_Contains_int_int.e k)
theorem slices_Contains_int_int.code : CallOk Try.prog 81 := ⟨_, Try.func81, rfl, by kernel_rfl⟩
/-! loop.example/wholecheck/impl.OrderValid -/
noncomputable def impl_OrderValid.ps : S := (.pair (.slice false I) (.pair I .unit))
noncomputable def impl_OrderValid.sem (k : Nat) : Sem := mkSem [.sh, .sh] 1 .bool .sh .unit (.pair (.slice false I) (.pair I .unit)) fun x => impl_OrderValid.f k x.1 x.2.1
noncomputable def impl_OrderValid.C (k : Nat) : Ctx := mkC tys [(80, impl_in.sem k), (81, slices_Contains_int_int.sem k)] (hintOf []) (headOf [(4, [(0, none), (1, none), (16, none), (17, none), (18, none)])]) [] (ordOf []) (hidOf []) (jnOf [])
noncomputable def impl_OrderValid.K0 (k : Nat) : Ex → List Slot → Option (Bool × Unit) := kRet (impl_OrderValid.C k) Try.f41 1 .bool .sh [.sh, .sh] .unit
noncomputable def impl_OrderValid.L4 (k : Nat) (p0 : (List Int)) (p1 : Int) (n : Nat) (v18_4 : Int) : Option (Bool × Unit) :=
  loopN ((impl_OrderValid.C k).head 4) (evalCode (impl_OrderValid.C k) k (codeAt [1, 1, 0, 1, 0, 0] (body Try.f41))) n (st 36 [(18, .val I .sh v18_4), (17, .val I .sh ((p0.length : Int))), (16, .val (.slice false I) .sh p0), (1, .val I .sh p1), (0, .val (.slice false I) .sh p0)]) (kAt (impl_OrderValid.C k) k [1, 1, 0, 1, 0] (body Try.f41) [] (impl_OrderValid.K0 k))
theorem impl_OrderValid.s4 (k : Nat) (p0 : (List Int)) (p1 : Int) (n : Nat) (v18_4 : Int) : impl_OrderValid.L4 k p0 p1 (n + 1) v18_4 = impl_OrderValid.b4 k (impl_OrderValid.L4 k p0 p1 n) p0 p1 v18_4 := by kernel_rfl
theorem impl_OrderValid.t4 (k : Nat) (p0 : (List Int)) (p1 : Int) : ∀ n, impl_OrderValid.L4 k p0 p1 n = impl_OrderValid.l4 k p0 p1 n := by
  intro n; induction n with
  | zero => rfl
  | succ n ih => funext v18_4; rw [impl_OrderValid.s4]; rw [ih]; rfl
theorem impl_OrderValid.s (k : Nat) (x : El impl_OrderValid.ps) : evalFn (impl_OrderValid.C k) k Try.f41 1 .bool .sh [.sh, .sh] .unit (unp impl_OrderValid.ps [.sh, .sh] x) = impl_OrderValid.bt k (impl_OrderValid.L4 k x.1 x.2.1 k) x.1 x.2.1 := by kernel_rfl
theorem impl_OrderValid.e (k : Nat) (x : El impl_OrderValid.ps) : evalFn (impl_OrderValid.C k) k Try.f41 1 .bool .sh [.sh, .sh] .unit (unp impl_OrderValid.ps [.sh, .sh] x) = impl_OrderValid.f k x.1 x.2.1 := by
  rw [impl_OrderValid.s]; rw [impl_OrderValid.t4 k x.1 x.2.1 k]; rfl
theorem impl_OrderValid.env (k : Nat) : EnvOk Try.prog [(80, impl_in.sem k), (81, slices_Contains_int_int.sem k)] := ⟨⟨impl_in.ok k, impl_in.code⟩, ⟨slices_Contains_int_int.ok k, slices_Contains_int_int.code⟩, trivial⟩
theorem impl_OrderValid.ok (k : Nat) : Contract Try.prog 41 (impl_OrderValid.sem k) := fn_ok (C := impl_OrderValid.C k) (mkC_ok tys_ok (impl_OrderValid.env k) mix) Try.func41 rfl rfl (impl_OrderValid.e k)
theorem impl_OrderValid.code : CallOk Try.prog 41 := ⟨_, Try.func41, rfl, by kernel_rfl⟩
/-! loop.example/wholecheck/impl.exchanged -/
noncomputable def impl_exchanged.ps : S := (.pair (.slice false I) (.pair (.slice false I) .unit))
noncomputable def impl_exchanged.sem (k : Nat) : Sem := mkSem [.sh, .sh] 1 (.slice false I) (.ow .sh) .unit (.pair (.slice false I) (.pair (.slice false I) .unit)) fun x => impl_exchanged.f k x.1 x.2.1
noncomputable def impl_exchanged.C (k : Nat) : Ctx := mkC tys [] (hintOf []) (headOf [(3, [(0, none), (5, none), (11, none), (12, none), (13, none)])]) [] (ordOf []) (hidOf []) (jnOf [])
noncomputable def impl_exchanged.K0 (k : Nat) : Ex → List Slot → Option ((List Int) × Unit) := kRet (impl_exchanged.C k) Try.f43 1 (.slice false I) (.ow .sh) [.sh, .sh] .unit
noncomputable def impl_exchanged.L3 (k : Nat) (p0 : (List Int)) (p1 : (List Int)) (n : Nat) (v5_3 : (List Int)) (v13_3 : Int) : Option ((List Int) × Unit) :=
  loopN ((impl_exchanged.C k).head 3) (evalCode (impl_exchanged.C k) k (codeAt [1, 1, 0, 1, 0, 0] (body Try.f43))) n (st 27 [(13, .val I .sh v13_3), (12, .val I .sh ((p1.length : Int))), (11, .val (.slice false I) .sh p1), (5, .val (.slice false I) (.ow .sh) v5_3), (0, .val (.slice false I) .sh p0)]) (kAt (impl_exchanged.C k) k [1, 1, 0, 1, 0] (body Try.f43) [] (impl_exchanged.K0 k))
theorem impl_exchanged.s3 (k : Nat) (p0 : (List Int)) (p1 : (List Int)) (n : Nat) (v5_3 : (List Int)) (v13_3 : Int) : impl_exchanged.L3 k p0 p1 (n + 1) v5_3 v13_3 = impl_exchanged.b3 k (impl_exchanged.L3 k p0 p1 n) p0 p1 v5_3 v13_3 := by kernel_rfl
theorem impl_exchanged.t3 (k : Nat) (p0 : (List Int)) (p1 : (List Int)) : ∀ n, impl_exchanged.L3 k p0 p1 n = impl_exchanged.l3 k p0 p1 n := by
  intro n; induction n with
  | zero => rfl
  | succ n ih => funext v5_3 v13_3; rw [impl_exchanged.s3]; rw [ih]; rfl
theorem impl_exchanged.s (k : Nat) (x : El impl_exchanged.ps) : evalFn (impl_exchanged.C k) k Try.f43 1 (.slice false I) (.ow .sh) [.sh, .sh] .unit (unp impl_exchanged.ps [.sh, .sh] x) = impl_exchanged.bt k (impl_exchanged.L3 k x.1 x.2.1 k) x.1 x.2.1 := by kernel_rfl
theorem impl_exchanged.e (k : Nat) (x : El impl_exchanged.ps) : evalFn (impl_exchanged.C k) k Try.f43 1 (.slice false I) (.ow .sh) [.sh, .sh] .unit (unp impl_exchanged.ps [.sh, .sh] x) = impl_exchanged.f k x.1 x.2.1 := by
  rw [impl_exchanged.s]; rw [impl_exchanged.t3 k x.1 x.2.1 k]; rfl
theorem impl_exchanged.env (k : Nat) : EnvOk Try.prog [] := trivial
theorem impl_exchanged.ok (k : Nat) : Contract Try.prog 43 (impl_exchanged.sem k) := fn_ok (C := impl_exchanged.C k) (mkC_ok tys_ok (impl_exchanged.env k) mix) Try.func43 rfl rfl (impl_exchanged.e k)
theorem impl_exchanged.code : CallOk Try.prog 43 := ⟨_, Try.func43, rfl, by kernel_rfl⟩
/-! loop.example/wholecheck/impl.clone[int] -/
noncomputable def impl_clone_int.ps : S := (.pair (.slice false I) .unit)
noncomputable def impl_clone_int.sem (k : Nat) : Sem := mkSem [.sh] 1 (.slice false I) (.ow .sh) .unit (.pair (.slice false I) .unit) fun x => impl_clone_int.f k x.1
noncomputable def impl_clone_int.C (k : Nat) : Ctx := mkC tys [] (hintOf []) (headOf []) [] (ordOf []) (hidOf []) (jnOf [])
noncomputable def impl_clone_int.K0 (k : Nat) : Ex → List Slot → Option ((List Int) × Unit) := kRet (impl_clone_int.C k) Try.f42 1 (.slice false I) (.ow .sh) [.sh] .unit
theorem impl_clone_int.s (k : Nat) (x : El impl_clone_int.ps) : evalFn (impl_clone_int.C k) k Try.f42 1 (.slice false I) (.ow .sh) [.sh] .unit (unp impl_clone_int.ps [.sh] x) = impl_clone_int.bt k x.1 := by kernel_rfl
theorem impl_clone_int.e (k : Nat) (x : El impl_clone_int.ps) : evalFn (impl_clone_int.C k) k Try.f42 1 (.slice false I) (.ow .sh) [.sh] .unit (unp impl_clone_int.ps [.sh] x) = impl_clone_int.f k x.1 := by
  rw [impl_clone_int.s]; rfl
theorem impl_clone_int.env (k : Nat) : EnvOk Try.prog [] := trivial
theorem impl_clone_int.ok (k : Nat) : Contract Try.prog 42 (impl_clone_int.sem k) := fn_ok (C := impl_clone_int.C k) (mkC_ok tys_ok (impl_clone_int.env k) mix) Try.func42 rfl rfl (impl_clone_int.e k)
theorem impl_clone_int.code : CallOk Try.prog 42 := ⟨_, Try.func42, rfl, by kernel_rfl⟩
/-! loop.example/wholecheck/impl.Exchanged -/
noncomputable def impl_Exchanged.ps : S := (.pair (.slice false I) (.pair (.slice false I) .unit))
noncomputable def impl_Exchanged.sem (k : Nat) : Sem := mkSem [.sh, .sh] 1 (.slice false I) (.ow .sh) .unit (.pair (.slice false I) (.pair (.slice false I) .unit)) fun x => impl_Exchanged.f k x.1 x.2.1
noncomputable def impl_Exchanged.C (k : Nat) : Ctx := mkC tys [(41, impl_OrderValid.sem k), (43, impl_exchanged.sem k), (42, impl_clone_int.sem k)] (hintOf []) (headOf []) [] (ordOf []) (hidOf []) (jnOf [])
noncomputable def impl_Exchanged.K0 (k : Nat) : Ex → List Slot → Option ((List Int) × Unit) := kRet (impl_Exchanged.C k) Try.f11 1 (.slice false I) (.ow .sh) [.sh, .sh] .unit
theorem impl_Exchanged.s (k : Nat) (x : El impl_Exchanged.ps) : evalFn (impl_Exchanged.C k) k Try.f11 1 (.slice false I) (.ow .sh) [.sh, .sh] .unit (unp impl_Exchanged.ps [.sh, .sh] x) = impl_Exchanged.bt k x.1 x.2.1 := by kernel_rfl
theorem impl_Exchanged.e (k : Nat) (x : El impl_Exchanged.ps) : evalFn (impl_Exchanged.C k) k Try.f11 1 (.slice false I) (.ow .sh) [.sh, .sh] .unit (unp impl_Exchanged.ps [.sh, .sh] x) = impl_Exchanged.f k x.1 x.2.1 := by
  rw [impl_Exchanged.s]; rfl
theorem impl_Exchanged.env (k : Nat) : EnvOk Try.prog [(41, impl_OrderValid.sem k), (43, impl_exchanged.sem k), (42, impl_clone_int.sem k)] := ⟨⟨impl_OrderValid.ok k, impl_OrderValid.code⟩, ⟨impl_exchanged.ok k, impl_exchanged.code⟩, ⟨impl_clone_int.ok k, impl_clone_int.code⟩, trivial⟩
theorem impl_Exchanged.ok (k : Nat) : Contract Try.prog 11 (impl_Exchanged.sem k) := fn_ok (C := impl_Exchanged.C k) (mkC_ok tys_ok (impl_Exchanged.env k) mix) Try.func11 rfl rfl (impl_Exchanged.e k)
theorem impl_Exchanged.code : CallOk Try.prog 11 := ⟨_, Try.func11, rfl, by kernel_rfl⟩
/-! loop.example/wholecheck/laws.eqIntS -/
noncomputable def laws_eqIntS.ps : S := (.pair (.slice false I) (.pair (.slice false I) .unit))
noncomputable def laws_eqIntS.sem (k : Nat) : Sem := mkSem [.sh, .sh] 1 .bool .sh .unit (.pair (.slice false I) (.pair (.slice false I) .unit)) fun x => laws_eqIntS.f k x.1 x.2.1
noncomputable def laws_eqIntS.C (k : Nat) : Ctx := mkC tys [] (hintOf []) (headOf [(4, [(0, none), (1, none), (5, none)])]) [] (ordOf [(6, [0, 1, 2, 3, 4, 5, 6, 7, 8])]) (hidOf []) (jnOf [])
noncomputable def laws_eqIntS.K0 (k : Nat) : Ex → List Slot → Option (Bool × Unit) := kRet (laws_eqIntS.C k) Try.f12 1 .bool .sh [.sh, .sh] .unit
noncomputable def laws_eqIntS.L4 (k : Nat) (p0 : (List Int)) (p1 : (List Int)) (n : Nat) (v5_4 : Int) : Option (Bool × Unit) :=
  loopN ((laws_eqIntS.C k).head 4) (evalCode (laws_eqIntS.C k) k (codeAt [1, 1, 0, 1, 0, 0] (body Try.f12))) n (st 26 [(5, .val I .sh v5_4), (1, .val (.slice false I) .sh p1), (0, .val (.slice false I) .sh p0)]) (kAt (laws_eqIntS.C k) k [1, 1, 0, 1, 0] (body Try.f12) [] (laws_eqIntS.K0 k))
theorem laws_eqIntS.s4 (k : Nat) (p0 : (List Int)) (p1 : (List Int)) (n : Nat) (v5_4 : Int) : laws_eqIntS.L4 k p0 p1 (n + 1) v5_4 = laws_eqIntS.b4 k (laws_eqIntS.L4 k p0 p1 n) p0 p1 v5_4 := by kernel_rfl
theorem laws_eqIntS.t4 (k : Nat) (p0 : (List Int)) (p1 : (List Int)) : ∀ n, laws_eqIntS.L4 k p0 p1 n = laws_eqIntS.l4 k p0 p1 n := by
  intro n; induction n with
  | zero => rfl
  | succ n ih => funext v5_4; rw [laws_eqIntS.s4]; rw [ih]; rfl
theorem laws_eqIntS.s (k : Nat) (x : El laws_eqIntS.ps) : evalFn (laws_eqIntS.C k) k Try.f12 1 .bool .sh [.sh, .sh] .unit (unp laws_eqIntS.ps [.sh, .sh] x) = laws_eqIntS.bt k (laws_eqIntS.L4 k x.1 x.2.1 k) x.1 x.2.1 := by kernel_rfl
theorem laws_eqIntS.e (k : Nat) (x : El laws_eqIntS.ps) : evalFn (laws_eqIntS.C k) k Try.f12 1 .bool .sh [.sh, .sh] .unit (unp laws_eqIntS.ps [.sh, .sh] x) = laws_eqIntS.f k x.1 x.2.1 := by
  rw [laws_eqIntS.s]; rw [laws_eqIntS.t4 k x.1 x.2.1 k]; rfl
theorem laws_eqIntS.env (k : Nat) : EnvOk Try.prog [] := trivial
theorem laws_eqIntS.ok (k : Nat) : Contract Try.prog 12 (laws_eqIntS.sem k) := fn_ok (C := laws_eqIntS.C k) (mkC_ok tys_ok (laws_eqIntS.env k) mix) Try.func12 rfl rfl (laws_eqIntS.e k)
theorem laws_eqIntS.code : CallOk Try.prog 12 := ⟨_, Try.func12, rfl, by kernel_rfl⟩
/-! loop.example/wholecheck/laws.markIntS -/
noncomputable def laws_markIntS.ps : S := (.pair (.slice false I) (.pair I .unit))
noncomputable def laws_markIntS.sem (k : Nat) : Sem := mkSem [.loan (.ow .sh), .sh] 1 I .sh (.slice false I) (.pair (.slice false I) (.pair I .unit)) fun x => laws_markIntS.f k x.1 x.2.1
noncomputable def laws_markIntS.C (k : Nat) : Ctx := mkC tys [] (hintOf []) (headOf [(2, [(0, none), (1, none), (5, none)])]) [0] (ordOf []) (hidOf []) (jnOf [])
noncomputable def laws_markIntS.K0 (k : Nat) : Ex → List Slot → Option (Int × (List Int)) := kRet (laws_markIntS.C k) Try.f13 1 I .sh [.loan (.ow .sh), .sh] (.slice false I)
noncomputable def laws_markIntS.L2 (k : Nat) (n : Nat) (v0_2 : (List Int)) (v1_2 : Int) (v5_2 : Int) : Option (Int × (List Int)) :=
  loopN ((laws_markIntS.C k).head 2) (evalCode (laws_markIntS.C k) k (codeAt [1, 0, 1, 0, 0] (body Try.f13))) n (st 19 [(5, .val I .sh v5_2), (1, .val I .sh v1_2), (0, .val (.slice false I) (.ow .sh) v0_2)]) (kAt (laws_markIntS.C k) k [1, 0, 1, 0] (body Try.f13) [] (laws_markIntS.K0 k))
theorem laws_markIntS.s2 (k : Nat) (n : Nat) (v0_2 : (List Int)) (v1_2 : Int) (v5_2 : Int) : laws_markIntS.L2 k (n + 1) v0_2 v1_2 v5_2 = laws_markIntS.b2 k (laws_markIntS.L2 k n) v0_2 v1_2 v5_2 := by kernel_rfl
theorem laws_markIntS.t2 (k : Nat) : ∀ n, laws_markIntS.L2 k n = laws_markIntS.l2 k n := by
  intro n; induction n with
  | zero => rfl
  | succ n ih => funext v0_2 v1_2 v5_2; rw [laws_markIntS.s2]; rw [ih]; rfl
theorem laws_markIntS.s (k : Nat) (x : El laws_markIntS.ps) : evalFn (laws_markIntS.C k) k Try.f13 1 I .sh [.loan (.ow .sh), .sh] (.slice false I) (unp laws_markIntS.ps [.loan (.ow .sh), .sh] x) = laws_markIntS.bt k (laws_markIntS.L2 k k) x.1 x.2.1 := by kernel_rfl
theorem laws_markIntS.e (k : Nat) (x : El laws_markIntS.ps) : evalFn (laws_markIntS.C k) k Try.f13 1 I .sh [.loan (.ow .sh), .sh] (.slice false I) (unp laws_markIntS.ps [.loan (.ow .sh), .sh] x) = laws_markIntS.f k x.1 x.2.1 := by
  rw [laws_markIntS.s]; rw [laws_markIntS.t2 k k]; rfl
theorem laws_markIntS.env (k : Nat) : EnvOk Try.prog [] := trivial
theorem laws_markIntS.ok (k : Nat) : Contract Try.prog 13 (laws_markIntS.sem k) := fn_ok (C := laws_markIntS.C k) (mkC_ok tys_ok (laws_markIntS.env k) mix) Try.func13 rfl rfl (laws_markIntS.e k)
theorem laws_markIntS.code : CallOk Try.prog 13 := ⟨_, Try.func13, rfl, by kernel_rfl⟩
/-! loop.example/wholecheck/laws.heldIntS -/
noncomputable def laws_heldIntS.ps : S := (.pair (.slice false I) (.pair I .unit))
noncomputable def laws_heldIntS.sem (k : Nat) : Sem := mkSem [.sh, .sh] 1 I .sh .unit (.pair (.slice false I) (.pair I .unit)) fun x => laws_heldIntS.f k x.1 x.2.1
noncomputable def laws_heldIntS.C (k : Nat) : Ctx := mkC tys [] (hintOf []) (headOf [(2, [(0, none), (1, none), (5, none)])]) [] (ordOf []) (hidOf []) (jnOf [])
noncomputable def laws_heldIntS.K0 (k : Nat) : Ex → List Slot → Option (Int × Unit) := kRet (laws_heldIntS.C k) Try.f14 1 I .sh [.sh, .sh] .unit
noncomputable def laws_heldIntS.L2 (k : Nat) (p0 : (List Int)) (n : Nat) (v1_2 : Int) (v5_2 : Int) : Option (Int × Unit) :=
  loopN ((laws_heldIntS.C k).head 2) (evalCode (laws_heldIntS.C k) k (codeAt [1, 0, 1, 0, 0] (body Try.f14))) n (st 21 [(5, .val I .sh v5_2), (1, .val I .sh v1_2), (0, .val (.slice false I) .sh p0)]) (kAt (laws_heldIntS.C k) k [1, 0, 1, 0] (body Try.f14) [] (laws_heldIntS.K0 k))
theorem laws_heldIntS.s2 (k : Nat) (p0 : (List Int)) (n : Nat) (v1_2 : Int) (v5_2 : Int) : laws_heldIntS.L2 k p0 (n + 1) v1_2 v5_2 = laws_heldIntS.b2 k (laws_heldIntS.L2 k p0 n) p0 v1_2 v5_2 := by kernel_rfl
theorem laws_heldIntS.t2 (k : Nat) (p0 : (List Int)) : ∀ n, laws_heldIntS.L2 k p0 n = laws_heldIntS.l2 k p0 n := by
  intro n; induction n with
  | zero => rfl
  | succ n ih => funext v1_2 v5_2; rw [laws_heldIntS.s2]; rw [ih]; rfl
theorem laws_heldIntS.s (k : Nat) (x : El laws_heldIntS.ps) : evalFn (laws_heldIntS.C k) k Try.f14 1 I .sh [.sh, .sh] .unit (unp laws_heldIntS.ps [.sh, .sh] x) = laws_heldIntS.bt k (laws_heldIntS.L2 k x.1 k) x.1 x.2.1 := by kernel_rfl
theorem laws_heldIntS.e (k : Nat) (x : El laws_heldIntS.ps) : evalFn (laws_heldIntS.C k) k Try.f14 1 I .sh [.sh, .sh] .unit (unp laws_heldIntS.ps [.sh, .sh] x) = laws_heldIntS.f k x.1 x.2.1 := by
  rw [laws_heldIntS.s]; rw [laws_heldIntS.t2 k x.1 k]; rfl
theorem laws_heldIntS.env (k : Nat) : EnvOk Try.prog [] := trivial
theorem laws_heldIntS.ok (k : Nat) : Contract Try.prog 14 (laws_heldIntS.sem k) := fn_ok (C := laws_heldIntS.C k) (mkC_ok tys_ok (laws_heldIntS.env k) mix) Try.func14 rfl rfl (laws_heldIntS.e k)
theorem laws_heldIntS.code : CallOk Try.prog 14 := ⟨_, Try.func14, rfl, by kernel_rfl⟩
/-! loop.example/wholecheck/laws.FnExactExchanged -/
noncomputable def laws_FnExactExchanged.ps : S := (.pair (.slice false I) (.pair (.slice false I) .unit))
noncomputable def laws_FnExactExchanged.sem (k : Nat) : Sem := mkSem [.sh, .sh] 1 .bool .sh .unit (.pair (.slice false I) (.pair (.slice false I) .unit)) fun x => laws_FnExactExchanged.f k x.1 x.2.1
noncomputable def laws_FnExactExchanged.C (k : Nat) : Ctx := mkC tys [(10, laws_toIntS.sem k), (9, spec_Exchanged.sem k), (11, impl_Exchanged.sem k), (12, laws_eqIntS.sem k), (13, laws_markIntS.sem k), (14, laws_heldIntS.sem k)] (hintOf []) (headOf []) [] (ordOf []) (hidOf []) (jnOf [])
noncomputable def laws_FnExactExchanged.K0 (k : Nat) : Ex → List Slot → Option (Bool × Unit) := kRet (laws_FnExactExchanged.C k) Try.f3 1 .bool .sh [.sh, .sh] .unit
theorem laws_FnExactExchanged.s (k : Nat) (x : El laws_FnExactExchanged.ps) : evalFn (laws_FnExactExchanged.C k) k Try.f3 1 .bool .sh [.sh, .sh] .unit (unp laws_FnExactExchanged.ps [.sh, .sh] x) = laws_FnExactExchanged.bt k x.1 x.2.1 := by kernel_rfl
theorem laws_FnExactExchanged.e (k : Nat) (x : El laws_FnExactExchanged.ps) : evalFn (laws_FnExactExchanged.C k) k Try.f3 1 .bool .sh [.sh, .sh] .unit (unp laws_FnExactExchanged.ps [.sh, .sh] x) = laws_FnExactExchanged.f k x.1 x.2.1 := by
  rw [laws_FnExactExchanged.s]; rfl
theorem laws_FnExactExchanged.env (k : Nat) : EnvOk Try.prog [(10, laws_toIntS.sem k), (9, spec_Exchanged.sem k), (11, impl_Exchanged.sem k), (12, laws_eqIntS.sem k), (13, laws_markIntS.sem k), (14, laws_heldIntS.sem k)] := ⟨⟨laws_toIntS.ok k, laws_toIntS.code⟩, ⟨spec_Exchanged.ok k, spec_Exchanged.code⟩, ⟨impl_Exchanged.ok k, impl_Exchanged.code⟩, ⟨laws_eqIntS.ok k, laws_eqIntS.code⟩, ⟨laws_markIntS.ok k, laws_markIntS.code⟩, ⟨laws_heldIntS.ok k, laws_heldIntS.code⟩, trivial⟩
theorem laws_FnExactExchanged.ok (k : Nat) : Contract Try.prog 3 (laws_FnExactExchanged.sem k) := fn_ok (C := laws_FnExactExchanged.C k) (mkC_ok tys_ok (laws_FnExactExchanged.env k) mix) Try.func3 rfl rfl (laws_FnExactExchanged.e k)
theorem laws_FnExactExchanged.code : CallOk Try.prog 3 := ⟨_, Try.func3, rfl, by kernel_rfl⟩
/-! loop.example/wholecheck/spec.OrderWith -/
noncomputable def spec_OrderWith.ps : S := (.pair (.slice false I) (.pair (.slice false I) .unit))
noncomputable def spec_OrderWith.sem (k : Nat) : Sem := mkSem [.sh, .sh] 1 (.slice false I) (.ow .sh) .unit (.pair (.slice false I) (.pair (.slice false I) .unit)) fun x => spec_OrderWith.f k x.1 x.2.1
noncomputable def spec_OrderWith.C (k : Nat) : Ctx := mkC tys [(40, spec_OrderValid.sem k)] (hintOf []) (headOf [(5, [(0, none), (1, none), (5, none), (6, none)])]) [] (ordOf []) (hidOf []) (jnOf [])
noncomputable def spec_OrderWith.K0 (k : Nat) : Ex → List Slot → Option ((List Int) × Unit) := kRet (spec_OrderWith.C k) Try.f15 1 (.slice false I) (.ow .sh) [.sh, .sh] .unit
noncomputable def spec_OrderWith.L5 (k : Nat) (p0 : (List Int)) (p1 : (List Int)) (n : Nat) (v5_5 : (List Int)) (v6_5 : Int) : Option ((List Int) × Unit) :=
  loopN ((spec_OrderWith.C k).head 5) (evalCode (spec_OrderWith.C k) k (codeAt [1, 1, 1, 0, 1, 0, 0] (body Try.f15))) n (st 38 [(6, .val I .sh v6_5), (5, .val (.slice false I) (.ow .sh) v5_5), (1, .val (.slice false I) .sh p1), (0, .val (.slice false I) .sh p0)]) (kAt (spec_OrderWith.C k) k [1, 1, 1, 0, 1, 0] (body Try.f15) [] (spec_OrderWith.K0 k))
theorem spec_OrderWith.s5 (k : Nat) (p0 : (List Int)) (p1 : (List Int)) (n : Nat) (v5_5 : (List Int)) (v6_5 : Int) : spec_OrderWith.L5 k p0 p1 (n + 1) v5_5 v6_5 = spec_OrderWith.b5 k (spec_OrderWith.L5 k p0 p1 n) p0 p1 v5_5 v6_5 := by kernel_rfl
theorem spec_OrderWith.t5 (k : Nat) (p0 : (List Int)) (p1 : (List Int)) : ∀ n, spec_OrderWith.L5 k p0 p1 n = spec_OrderWith.l5 k p0 p1 n := by
  intro n; induction n with
  | zero => rfl
  | succ n ih => funext v5_5 v6_5; rw [spec_OrderWith.s5]; rw [ih]; rfl
theorem spec_OrderWith.s (k : Nat) (x : El spec_OrderWith.ps) : evalFn (spec_OrderWith.C k) k Try.f15 1 (.slice false I) (.ow .sh) [.sh, .sh] .unit (unp spec_OrderWith.ps [.sh, .sh] x) = spec_OrderWith.bt k (spec_OrderWith.L5 k x.1 x.2.1 k) x.1 x.2.1 := by kernel_rfl
theorem spec_OrderWith.e (k : Nat) (x : El spec_OrderWith.ps) : evalFn (spec_OrderWith.C k) k Try.f15 1 (.slice false I) (.ow .sh) [.sh, .sh] .unit (unp spec_OrderWith.ps [.sh, .sh] x) = spec_OrderWith.f k x.1 x.2.1 := by
  rw [spec_OrderWith.s]; rw [spec_OrderWith.t5 k x.1 x.2.1 k]; rfl
theorem spec_OrderWith.env (k : Nat) : EnvOk Try.prog [(40, spec_OrderValid.sem k)] := ⟨⟨spec_OrderValid.ok k, spec_OrderValid.code⟩, trivial⟩
theorem spec_OrderWith.ok (k : Nat) : Contract Try.prog 15 (spec_OrderWith.sem k) := fn_ok (C := spec_OrderWith.C k) (mkC_ok tys_ok (spec_OrderWith.env k) mix) Try.func15 rfl rfl (spec_OrderWith.e k)
theorem spec_OrderWith.code : CallOk Try.prog 15 := ⟨_, Try.func15, rfl, by kernel_rfl⟩
/-! loop.example/wholecheck/impl.OrderWith -/
noncomputable def impl_OrderWith.ps : S := (.pair (.slice false I) (.pair (.slice false I) .unit))
noncomputable def impl_OrderWith.sem (k : Nat) : Sem := mkSem [.sh, .sh] 1 (.slice false I) (.ow .sh) .unit (.pair (.slice false I) (.pair (.slice false I) .unit)) fun x => impl_OrderWith.f k x.1 x.2.1
noncomputable def impl_OrderWith.C (k : Nat) : Ctx := mkC tys [(41, impl_OrderValid.sem k), (43, impl_exchanged.sem k), (42, impl_clone_int.sem k)] (hintOf []) (headOf []) [] (ordOf []) (hidOf []) (jnOf [])
noncomputable def impl_OrderWith.K0 (k : Nat) : Ex → List Slot → Option ((List Int) × Unit) := kRet (impl_OrderWith.C k) Try.f16 1 (.slice false I) (.ow .sh) [.sh, .sh] .unit
theorem impl_OrderWith.s (k : Nat) (x : El impl_OrderWith.ps) : evalFn (impl_OrderWith.C k) k Try.f16 1 (.slice false I) (.ow .sh) [.sh, .sh] .unit (unp impl_OrderWith.ps [.sh, .sh] x) = impl_OrderWith.bt k x.1 x.2.1 := by kernel_rfl
theorem impl_OrderWith.e (k : Nat) (x : El impl_OrderWith.ps) : evalFn (impl_OrderWith.C k) k Try.f16 1 (.slice false I) (.ow .sh) [.sh, .sh] .unit (unp impl_OrderWith.ps [.sh, .sh] x) = impl_OrderWith.f k x.1 x.2.1 := by
  rw [impl_OrderWith.s]; rfl
theorem impl_OrderWith.env (k : Nat) : EnvOk Try.prog [(41, impl_OrderValid.sem k), (43, impl_exchanged.sem k), (42, impl_clone_int.sem k)] := ⟨⟨impl_OrderValid.ok k, impl_OrderValid.code⟩, ⟨impl_exchanged.ok k, impl_exchanged.code⟩, ⟨impl_clone_int.ok k, impl_clone_int.code⟩, trivial⟩
theorem impl_OrderWith.ok (k : Nat) : Contract Try.prog 16 (impl_OrderWith.sem k) := fn_ok (C := impl_OrderWith.C k) (mkC_ok tys_ok (impl_OrderWith.env k) mix) Try.func16 rfl rfl (impl_OrderWith.e k)
theorem impl_OrderWith.code : CallOk Try.prog 16 := ⟨_, Try.func16, rfl, by kernel_rfl⟩
/-! loop.example/wholecheck/laws.FnExactOrderWith -/
noncomputable def laws_FnExactOrderWith.ps : S := (.pair (.slice false I) (.pair (.slice false I) .unit))
noncomputable def laws_FnExactOrderWith.sem (k : Nat) : Sem := mkSem [.sh, .sh] 1 .bool .sh .unit (.pair (.slice false I) (.pair (.slice false I) .unit)) fun x => laws_FnExactOrderWith.f k x.1 x.2.1
noncomputable def laws_FnExactOrderWith.C (k : Nat) : Ctx := mkC tys [(10, laws_toIntS.sem k), (15, spec_OrderWith.sem k), (16, impl_OrderWith.sem k), (12, laws_eqIntS.sem k), (13, laws_markIntS.sem k), (14, laws_heldIntS.sem k)] (hintOf []) (headOf []) [] (ordOf []) (hidOf []) (jnOf [])
noncomputable def laws_FnExactOrderWith.K0 (k : Nat) : Ex → List Slot → Option (Bool × Unit) := kRet (laws_FnExactOrderWith.C k) Try.f4 1 .bool .sh [.sh, .sh] .unit
theorem laws_FnExactOrderWith.s (k : Nat) (x : El laws_FnExactOrderWith.ps) : evalFn (laws_FnExactOrderWith.C k) k Try.f4 1 .bool .sh [.sh, .sh] .unit (unp laws_FnExactOrderWith.ps [.sh, .sh] x) = laws_FnExactOrderWith.bt k x.1 x.2.1 := by kernel_rfl
theorem laws_FnExactOrderWith.e (k : Nat) (x : El laws_FnExactOrderWith.ps) : evalFn (laws_FnExactOrderWith.C k) k Try.f4 1 .bool .sh [.sh, .sh] .unit (unp laws_FnExactOrderWith.ps [.sh, .sh] x) = laws_FnExactOrderWith.f k x.1 x.2.1 := by
  rw [laws_FnExactOrderWith.s]; rfl
theorem laws_FnExactOrderWith.env (k : Nat) : EnvOk Try.prog [(10, laws_toIntS.sem k), (15, spec_OrderWith.sem k), (16, impl_OrderWith.sem k), (12, laws_eqIntS.sem k), (13, laws_markIntS.sem k), (14, laws_heldIntS.sem k)] := ⟨⟨laws_toIntS.ok k, laws_toIntS.code⟩, ⟨spec_OrderWith.ok k, spec_OrderWith.code⟩, ⟨impl_OrderWith.ok k, impl_OrderWith.code⟩, ⟨laws_eqIntS.ok k, laws_eqIntS.code⟩, ⟨laws_markIntS.ok k, laws_markIntS.code⟩, ⟨laws_heldIntS.ok k, laws_heldIntS.code⟩, trivial⟩
theorem laws_FnExactOrderWith.ok (k : Nat) : Contract Try.prog 4 (laws_FnExactOrderWith.sem k) := fn_ok (C := laws_FnExactOrderWith.C k) (mkC_ok tys_ok (laws_FnExactOrderWith.env k) mix) Try.func4 rfl rfl (laws_FnExactOrderWith.e k)
theorem laws_FnExactOrderWith.code : CallOk Try.prog 4 := ⟨_, Try.func4, rfl, by kernel_rfl⟩
/-! loop.example/wholecheck/spec.l40Open -/
noncomputable def spec_l40Open.ps : S := (.pair (.slice false (.int .u8)) .unit)
noncomputable def spec_l40Open.sem (k : Nat) : Sem := mkSem [.sh] 1 (.ptr (.agg (.pair (.slice false (.int .u8)) I))) (.ow (.ag (.pr .sh .sh))) .unit (.pair (.slice false (.int .u8)) .unit) fun x => spec_l40Open.f k x.1
noncomputable def spec_l40Open.C (k : Nat) : Ctx := mkC tys [] (hintOf []) (headOf []) [] (ordOf []) (hidOf []) (jnOf [])
noncomputable def spec_l40Open.K0 (k : Nat) : Ex → List Slot → Option (((List Int) × Int) × Unit) := kRet (spec_l40Open.C k) Try.f44 1 (.ptr (.agg (.pair (.slice false (.int .u8)) I))) (.ow (.ag (.pr .sh .sh))) [.sh] .unit
theorem spec_l40Open.s (k : Nat) (x : El spec_l40Open.ps) : evalFn (spec_l40Open.C k) k Try.f44 1 (.ptr (.agg (.pair (.slice false (.int .u8)) I))) (.ow (.ag (.pr .sh .sh))) [.sh] .unit (unp spec_l40Open.ps [.sh] x) = spec_l40Open.bt k x.1 := by kernel_rfl
theorem spec_l40Open.e (k : Nat) (x : El spec_l40Open.ps) : evalFn (spec_l40Open.C k) k Try.f44 1 (.ptr (.agg (.pair (.slice false (.int .u8)) I))) (.ow (.ag (.pr .sh .sh))) [.sh] .unit (unp spec_l40Open.ps [.sh] x) = spec_l40Open.f k x.1 := by
  rw [spec_l40Open.s]; rfl
theorem spec_l40Open.env (k : Nat) : EnvOk Try.prog [] := trivial
theorem spec_l40Open.ok (k : Nat) : Contract Try.prog 44 (spec_l40Open.sem k) := fn_ok (C := spec_l40Open.C k) (mkC_ok tys_ok (spec_l40Open.env k) mix) Try.func44 rfl rfl (spec_l40Open.e k)
theorem spec_l40Open.code : CallOk Try.prog 44 := ⟨_, Try.func44, rfl, by kernel_rfl⟩
/-! (*loop.example/wholecheck/spec.l40Rd).pick -/
noncomputable def spec_l40Rd_pick.ps : S := (.pair (.ptr (.agg (.pair (.slice false (.int .u8)) I))) (.pair I .unit))
noncomputable def spec_l40Rd_pick.sem (k : Nat) : Sem := mkSem [.loan (.ow (.ag (.pr .sh .sh))), .sh] 1 I .sh (.ptr (.agg (.pair (.slice false (.int .u8)) I))) (.pair (.ptr (.agg (.pair (.slice false (.int .u8)) I))) (.pair I .unit)) fun x => spec_l40Rd_pick.f k x.1 x.2.1
noncomputable def spec_l40Rd_pick.C (k : Nat) : Ctx := mkC tys [] (hintOf []) (headOf []) [0] (ordOf [(7, [0, 1, 2, 3, 4, 5, 6, 7, 8, 9, 10, 11, 12, 13, 14, 15, 16, 17, 18, 19, 20, 21, 22, 23, 24, 25, 26, 27, 28, 29, 30, 31, 32, 33, 34, 35, 36, 37, 38, 39, 40, 41, 42, 43, 44, 45])]) (hidOf []) (jnOf [])
noncomputable def spec_l40Rd_pick.K0 (k : Nat) : Ex → List Slot → Option (Int × ((List Int) × Int)) := kRet (spec_l40Rd_pick.C k) Try.f82 1 I .sh [.loan (.ow (.ag (.pr .sh .sh))), .sh] (.ptr (.agg (.pair (.slice false (.int .u8)) I)))
theorem spec_l40Rd_pick.s (k : Nat) (x : El spec_l40Rd_pick.ps) : evalFn (spec_l40Rd_pick.C k) k Try.f82 1 I .sh [.loan (.ow (.ag (.pr .sh .sh))), .sh] (.ptr (.agg (.pair (.slice false (.int .u8)) I))) (unp spec_l40Rd_pick.ps [.loan (.ow (.ag (.pr .sh .sh))), .sh] x) = spec_l40Rd_pick.bt k x.1 x.2.1 := by kernel_rfl
theorem spec_l40Rd_pick.e (k : Nat) (x : El spec_l40Rd_pick.ps) : evalFn (spec_l40Rd_pick.C k) k Try.f82 1 I .sh [.loan (.ow (.ag (.pr .sh .sh))), .sh] (.ptr (.agg (.pair (.slice false (.int .u8)) I))) (unp spec_l40Rd_pick.ps [.loan (.ow (.ag (.pr .sh .sh))), .sh] x) = spec_l40Rd_pick.f k x.1 x.2.1 := by
  rw [spec_l40Rd_pick.s]; rfl
theorem spec_l40Rd_pick.env (k : Nat) : EnvOk Try.prog [] := trivial
theorem spec_l40Rd_pick.ok (k : Nat) : Contract Try.prog 82 (spec_l40Rd_pick.sem k) := fn_ok (C := spec_l40Rd_pick.C k) (mkC_ok tys_ok (spec_l40Rd_pick.env k) mix) Try.func82 rfl rfl (spec_l40Rd_pick.e k)
theorem spec_l40Rd_pick.code : CallOk Try.prog 82 := ⟨_, Try.func82, rfl, by kernel_rfl⟩
/-! (*loop.example/wholecheck/spec.l40Rd).num -/
noncomputable def spec_l40Rd_num.ps : S := (.pair (.ptr (.agg (.pair (.slice false (.int .u8)) I))) (.pair (.slice false I) .unit))
noncomputable def spec_l40Rd_num.sem (k : Nat) : Sem := mkSem [.loan (.ow (.ag (.pr .sh .sh))), .sh] 1 I .sh (.ptr (.agg (.pair (.slice false (.int .u8)) I))) (.pair (.ptr (.agg (.pair (.slice false (.int .u8)) I))) (.pair (.slice false I) .unit)) fun x => spec_l40Rd_num.f k x.1 x.2.1
noncomputable def spec_l40Rd_num.C (k : Nat) : Ctx := mkC tys [(82, spec_l40Rd_pick.sem k)] (hintOf []) (headOf []) [0] (ordOf []) (hidOf []) (jnOf [])
noncomputable def spec_l40Rd_num.K0 (k : Nat) : Ex → List Slot → Option (Int × ((List Int) × Int)) := kRet (spec_l40Rd_num.C k) Try.f45 1 I .sh [.loan (.ow (.ag (.pr .sh .sh))), .sh] (.ptr (.agg (.pair (.slice false (.int .u8)) I)))
theorem spec_l40Rd_num.s (k : Nat) (x : El spec_l40Rd_num.ps) : evalFn (spec_l40Rd_num.C k) k Try.f45 1 I .sh [.loan (.ow (.ag (.pr .sh .sh))), .sh] (.ptr (.agg (.pair (.slice false (.int .u8)) I))) (unp spec_l40Rd_num.ps [.loan (.ow (.ag (.pr .sh .sh))), .sh] x) = spec_l40Rd_num.bt k x.1 x.2.1 := by kernel_rfl
theorem spec_l40Rd_num.e (k : Nat) (x : El spec_l40Rd_num.ps) : evalFn (spec_l40Rd_num.C k) k Try.f45 1 I .sh [.loan (.ow (.ag (.pr .sh .sh))), .sh] (.ptr (.agg (.pair (.slice false (.int .u8)) I))) (unp spec_l40Rd_num.ps [.loan (.ow (.ag (.pr .sh .sh))), .sh] x) = spec_l40Rd_num.f k x.1 x.2.1 := by
  rw [spec_l40Rd_num.s]; rfl
theorem spec_l40Rd_num.env (k : Nat) : EnvOk Try.prog [(82, spec_l40Rd_pick.sem k)] := ⟨⟨spec_l40Rd_pick.ok k, spec_l40Rd_pick.code⟩, trivial⟩
theorem spec_l40Rd_num.ok (k : Nat) : Contract Try.prog 45 (spec_l40Rd_num.sem k) := fn_ok (C := spec_l40Rd_num.C k) (mkC_ok tys_ok (spec_l40Rd_num.env k) mix) Try.func45 rfl rfl (spec_l40Rd_num.e k)
theorem spec_l40Rd_num.code : CallOk Try.prog 45 := ⟨_, Try.func45, rfl, by kernel_rfl⟩
/-! loop.example/wholecheck/spec.l1Number -/
noncomputable def spec_l1Number.ps : S := (.pair (.ptr (.agg (.pair (.slice false (.int .u8)) I))) .unit)
noncomputable def spec_l1Number.sem (k : Nat) : Sem := mkSem [.loan (.ow (.ag (.pr .sh .sh)))] 1 I .sh (.ptr (.agg (.pair (.slice false (.int .u8)) I))) (.pair (.ptr (.agg (.pair (.slice false (.int .u8)) I))) .unit) fun x => spec_l1Number.f k x.1
noncomputable def spec_l1Number.C (k : Nat) : Ctx := mkC tys [(82, spec_l40Rd_pick.sem k), (45, spec_l40Rd_num.sem k)] (hintOf []) (headOf []) [0] (ordOf []) (hidOf []) (jnOf [])
noncomputable def spec_l1Number.K0 (k : Nat) : Ex → List Slot → Option (Int × ((List Int) × Int)) := kRet (spec_l1Number.C k) Try.f83 1 I .sh [.loan (.ow (.ag (.pr .sh .sh)))] (.ptr (.agg (.pair (.slice false (.int .u8)) I)))
theorem spec_l1Number.s (k : Nat) (x : El spec_l1Number.ps) : evalFn (spec_l1Number.C k) k Try.f83 1 I .sh [.loan (.ow (.ag (.pr .sh .sh)))] (.ptr (.agg (.pair (.slice false (.int .u8)) I))) (unp spec_l1Number.ps [.loan (.ow (.ag (.pr .sh .sh)))] x) = spec_l1Number.bt k x.1 := by kernel_rfl
theorem spec_l1Number.e (k : Nat) (x : El spec_l1Number.ps) : evalFn (spec_l1Number.C k) k Try.f83 1 I .sh [.loan (.ow (.ag (.pr .sh .sh)))] (.ptr (.agg (.pair (.slice false (.int .u8)) I))) (unp spec_l1Number.ps [.loan (.ow (.ag (.pr .sh .sh)))] x) = spec_l1Number.f k x.1 := by
  rw [spec_l1Number.s]; rfl
theorem spec_l1Number.env (k : Nat) : EnvOk Try.prog [(82, spec_l40Rd_pick.sem k), (45, spec_l40Rd_num.sem k)] := ⟨⟨spec_l40Rd_pick.ok k, spec_l40Rd_pick.code⟩, ⟨spec_l40Rd_num.ok k, spec_l40Rd_num.code⟩, trivial⟩
theorem spec_l1Number.ok (k : Nat) : Contract Try.prog 83 (spec_l1Number.sem k) := fn_ok (C := spec_l1Number.C k) (mkC_ok tys_ok (spec_l1Number.env k) mix) Try.func83 rfl rfl (spec_l1Number.e k)
theorem spec_l1Number.code : CallOk Try.prog 83 := ⟨_, Try.func83, rfl, by kernel_rfl⟩
/-! loop.example/wholecheck/spec.l1Numbers -/
noncomputable def spec_l1Numbers.ps : S := (.pair (.ptr (.agg (.pair (.slice false (.int .u8)) I))) (.pair I .unit))
noncomputable def spec_l1Numbers.sem (k : Nat) : Sem := mkSem [.loan (.ow (.ag (.pr .sh .sh))), .sh] 1 (.slice false I) (.ow .sh) (.ptr (.agg (.pair (.slice false (.int .u8)) I))) (.pair (.ptr (.agg (.pair (.slice false (.int .u8)) I))) (.pair I .unit)) fun x => spec_l1Numbers.f k x.1 x.2.1
noncomputable def spec_l1Numbers.C (k : Nat) : Ctx := mkC tys [(83, spec_l1Number.sem k), (82, spec_l40Rd_pick.sem k), (45, spec_l40Rd_num.sem k)] (hintOf []) (headOf [(3, [(0, none), (1, none), (5, none), (6, none)])]) [0] (ordOf []) (hidOf []) (jnOf [])
noncomputable def spec_l1Numbers.K0 (k : Nat) : Ex → List Slot → Option ((List Int) × ((List Int) × Int)) := kRet (spec_l1Numbers.C k) Try.f46 1 (.slice false I) (.ow .sh) [.loan (.ow (.ag (.pr .sh .sh))), .sh] (.ptr (.agg (.pair (.slice false (.int .u8)) I)))
noncomputable def spec_l1Numbers.L3 (k : Nat) (p1 : Int) (n : Nat) (v0_3 : ((List Int) × Int)) (v5_3 : (List Int)) (v6_3 : Int) : Option ((List Int) × ((List Int) × Int)) :=
  loopN ((spec_l1Numbers.C k).head 3) (evalCode (spec_l1Numbers.C k) k (codeAt [1, 1, 0, 1, 0, 0] (body Try.f46))) n (st 31 [(6, .val I .sh v6_3), (5, .val (.slice false I) (.ow .sh) v5_3), (1, .val I .sh p1), (0, .val (.ptr (.agg (.pair (.slice false (.int .u8)) I))) (.ow (.ag (.pr .sh .sh))) v0_3)]) (kAt (spec_l1Numbers.C k) k [1, 1, 0, 1, 0] (body Try.f46) [] (spec_l1Numbers.K0 k))
theorem spec_l1Numbers.s3 (k : Nat) (p1 : Int) (n : Nat) (v0_3 : ((List Int) × Int)) (v5_3 : (List Int)) (v6_3 : Int) : spec_l1Numbers.L3 k p1 (n + 1) v0_3 v5_3 v6_3 = spec_l1Numbers.b3 k (spec_l1Numbers.L3 k p1 n) p1 v0_3 v5_3 v6_3 := by kernel_rfl
theorem spec_l1Numbers.t3 (k : Nat) (p1 : Int) : ∀ n, spec_l1Numbers.L3 k p1 n = spec_l1Numbers.l3 k p1 n := by
  intro n; induction n with
  | zero => rfl
  | succ n ih => funext v0_3 v5_3 v6_3; rw [spec_l1Numbers.s3]; rw [ih]; rfl
theorem spec_l1Numbers.s (k : Nat) (x : El spec_l1Numbers.ps) : evalFn (spec_l1Numbers.C k) k Try.f46 1 (.slice false I) (.ow .sh) [.loan (.ow (.ag (.pr .sh .sh))), .sh] (.ptr (.agg (.pair (.slice false (.int .u8)) I))) (unp spec_l1Numbers.ps [.loan (.ow (.ag (.pr .sh .sh))), .sh] x) = spec_l1Numbers.bt k (spec_l1Numbers.L3 k x.2.1 k) x.1 x.2.1 := by kernel_rfl
theorem spec_l1Numbers.e (k : Nat) (x : El spec_l1Numbers.ps) : evalFn (spec_l1Numbers.C k) k Try.f46 1 (.slice false I) (.ow .sh) [.loan (.ow (.ag (.pr .sh .sh))), .sh] (.ptr (.agg (.pair (.slice false (.int .u8)) I))) (unp spec_l1Numbers.ps [.loan (.ow (.ag (.pr .sh .sh))), .sh] x) = spec_l1Numbers.f k x.1 x.2.1 := by
  rw [spec_l1Numbers.s]; rw [spec_l1Numbers.t3 k x.2.1 k]; rfl
theorem spec_l1Numbers.env (k : Nat) : EnvOk Try.prog [(83, spec_l1Number.sem k), (82, spec_l40Rd_pick.sem k), (45, spec_l40Rd_num.sem k)] := ⟨⟨spec_l1Number.ok k, spec_l1Number.code⟩, ⟨spec_l40Rd_pick.ok k, spec_l40Rd_pick.code⟩, ⟨spec_l40Rd_num.ok k, spec_l40Rd_num.code⟩, trivial⟩
theorem spec_l1Numbers.ok (k : Nat) : Contract Try.prog 46 (spec_l1Numbers.sem k) := fn_ok (C := spec_l1Numbers.C k) (mkC_ok tys_ok (spec_l1Numbers.env k) mix) Try.func46 rfl rfl (spec_l1Numbers.e k)
theorem spec_l1Numbers.code : CallOk Try.prog 46 := ⟨_, Try.func46, rfl, by kernel_rfl⟩
/-! loop.example/wholecheck/spec.l9Plain -/
noncomputable def spec_l9Plain.ps : S := (.pair I .unit)
noncomputable def spec_l9Plain.sem (k : Nat) : Sem := mkSem [.sh] 1 (.slice false I) (.ow .sh) .unit (.pair I .unit) fun x => spec_l9Plain.f k x.1
noncomputable def spec_l9Plain.C (k : Nat) : Ctx := mkC tys [] (hintOf []) (headOf [(3, [(0, none), (3, none), (4, none)])]) [] (ordOf []) (hidOf []) (jnOf [])
noncomputable def spec_l9Plain.K0 (k : Nat) : Ex → List Slot → Option ((List Int) × Unit) := kRet (spec_l9Plain.C k) Try.f84 1 (.slice false I) (.ow .sh) [.sh] .unit
noncomputable def spec_l9Plain.L3 (k : Nat) (p0 : Int) (n : Nat) (v3_3 : (List Int)) (v4_3 : Int) : Option ((List Int) × Unit) :=
  loopN ((spec_l9Plain.C k).head 3) (evalCode (spec_l9Plain.C k) k (codeAt [1, 1, 0, 1, 0, 0] (body Try.f84))) n (st 16 [(4, .val I .sh v4_3), (3, .val (.slice false I) (.ow .sh) v3_3), (0, .val I .sh p0)]) (kAt (spec_l9Plain.C k) k [1, 1, 0, 1, 0] (body Try.f84) [] (spec_l9Plain.K0 k))
theorem spec_l9Plain.s3 (k : Nat) (p0 : Int) (n : Nat) (v3_3 : (List Int)) (v4_3 : Int) : spec_l9Plain.L3 k p0 (n + 1) v3_3 v4_3 = spec_l9Plain.b3 k (spec_l9Plain.L3 k p0 n) p0 v3_3 v4_3 := by kernel_rfl
theorem spec_l9Plain.t3 (k : Nat) (p0 : Int) : ∀ n, spec_l9Plain.L3 k p0 n = spec_l9Plain.l3 k p0 n := by
  intro n; induction n with
  | zero => rfl
  | succ n ih => funext v3_3 v4_3; rw [spec_l9Plain.s3]; rw [ih]; rfl
theorem spec_l9Plain.s (k : Nat) (x : El spec_l9Plain.ps) : evalFn (spec_l9Plain.C k) k Try.f84 1 (.slice false I) (.ow .sh) [.sh] .unit (unp spec_l9Plain.ps [.sh] x) = spec_l9Plain.bt k (spec_l9Plain.L3 k x.1 k) x.1 := by kernel_rfl
theorem spec_l9Plain.e (k : Nat) (x : El spec_l9Plain.ps) : evalFn (spec_l9Plain.C k) k Try.f84 1 (.slice false I) (.ow .sh) [.sh] .unit (unp spec_l9Plain.ps [.sh] x) = spec_l9Plain.f k x.1 := by
  rw [spec_l9Plain.s]; rw [spec_l9Plain.t3 k x.1 k]; rfl
theorem spec_l9Plain.env (k : Nat) : EnvOk Try.prog [] := trivial
theorem spec_l9Plain.ok (k : Nat) : Contract Try.prog 84 (spec_l9Plain.sem k) := fn_ok (C := spec_l9Plain.C k) (mkC_ok tys_ok (spec_l9Plain.env k) mix) Try.func84 rfl rfl (spec_l9Plain.e k)
theorem spec_l9Plain.code : CallOk Try.prog 84 := ⟨_, Try.func84, rfl, by kernel_rfl⟩
/-! loop.example/wholecheck/spec.l9Order -/
noncomputable def spec_l9Order.ps : S := (.pair (.ptr (.agg (.pair (.slice false (.int .u8)) I))) (.pair I .unit))
noncomputable def spec_l9Order.sem (k : Nat) : Sem := mkSem [.loan (.ow (.ag (.pr .sh .sh))), .sh] 1 (.slice false I) (.ow .sh) (.ptr (.agg (.pair (.slice false (.int .u8)) I))) (.pair (.ptr (.agg (.pair (.slice false (.int .u8)) I))) (.pair I .unit)) fun x => spec_l9Order.f k x.1 x.2.1
noncomputable def spec_l9Order.C (k : Nat) : Ctx := mkC tys [(84, spec_l9Plain.sem k), (82, spec_l40Rd_pick.sem k), (45, spec_l40Rd_num.sem k)] (hintOf []) (headOf [(3, [(0, none), (1, none), (5, none), (6, none)])]) [0] (ordOf []) (hidOf []) (jnOf [])
noncomputable def spec_l9Order.K0 (k : Nat) : Ex → List Slot → Option ((List Int) × ((List Int) × Int)) := kRet (spec_l9Order.C k) Try.f47 1 (.slice false I) (.ow .sh) [.loan (.ow (.ag (.pr .sh .sh))), .sh] (.ptr (.agg (.pair (.slice false (.int .u8)) I)))
noncomputable def spec_l9Order.L3 (k : Nat) (p1 : Int) (n : Nat) (v0_3 : ((List Int) × Int)) (v5_3 : (List Int)) (v6_3 : Int) : Option ((List Int) × ((List Int) × Int)) :=
  loopN ((spec_l9Order.C k).head 3) (evalCode (spec_l9Order.C k) k (codeAt [1, 1, 0, 1, 0, 0] (body Try.f47))) n (st 59 [(6, .val I .sh v6_3), (5, .val (.slice false I) (.ow .sh) v5_3), (1, .val I .sh p1), (0, .val (.ptr (.agg (.pair (.slice false (.int .u8)) I))) (.ow (.ag (.pr .sh .sh))) v0_3)]) (kAt (spec_l9Order.C k) k [1, 1, 0, 1, 0] (body Try.f47) [] (spec_l9Order.K0 k))
theorem spec_l9Order.s3 (k : Nat) (p1 : Int) (n : Nat) (v0_3 : ((List Int) × Int)) (v5_3 : (List Int)) (v6_3 : Int) : spec_l9Order.L3 k p1 (n + 1) v0_3 v5_3 v6_3 = spec_l9Order.b3 k (spec_l9Order.L3 k p1 n) p1 v0_3 v5_3 v6_3 := by kernel_rfl
theorem spec_l9Order.t3 (k : Nat) (p1 : Int) : ∀ n, spec_l9Order.L3 k p1 n = spec_l9Order.l3 k p1 n := by
  intro n; induction n with
  | zero => rfl
  | succ n ih => funext v0_3 v5_3 v6_3; rw [spec_l9Order.s3]; rw [ih]; rfl
theorem spec_l9Order.s (k : Nat) (x : El spec_l9Order.ps) : evalFn (spec_l9Order.C k) k Try.f47 1 (.slice false I) (.ow .sh) [.loan (.ow (.ag (.pr .sh .sh))), .sh] (.ptr (.agg (.pair (.slice false (.int .u8)) I))) (unp spec_l9Order.ps [.loan (.ow (.ag (.pr .sh .sh))), .sh] x) = spec_l9Order.bt k (spec_l9Order.L3 k x.2.1 k) x.1 x.2.1 := by kernel_rfl
theorem spec_l9Order.e (k : Nat) (x : El spec_l9Order.ps) : evalFn (spec_l9Order.C k) k Try.f47 1 (.slice false I) (.ow .sh) [.loan (.ow (.ag (.pr .sh .sh))), .sh] (.ptr (.agg (.pair (.slice false (.int .u8)) I))) (unp spec_l9Order.ps [.loan (.ow (.ag (.pr .sh .sh))), .sh] x) = spec_l9Order.f k x.1 x.2.1 := by
  rw [spec_l9Order.s]; rw [spec_l9Order.t3 k x.2.1 k]; rfl
theorem spec_l9Order.env (k : Nat) : EnvOk Try.prog [(84, spec_l9Plain.sem k), (82, spec_l40Rd_pick.sem k), (45, spec_l40Rd_num.sem k)] := ⟨⟨spec_l9Plain.ok k, spec_l9Plain.code⟩, ⟨spec_l40Rd_pick.ok k, spec_l40Rd_pick.code⟩, ⟨spec_l40Rd_num.ok k, spec_l40Rd_num.code⟩, trivial⟩
theorem spec_l9Order.ok (k : Nat) : Contract Try.prog 47 (spec_l9Order.sem k) := fn_ok (C := spec_l9Order.C k) (mkC_ok tys_ok (spec_l9Order.env k) mix) Try.func47 rfl rfl (spec_l9Order.e k)
theorem spec_l9Order.code : CallOk Try.prog 47 := ⟨_, Try.func47, rfl, by kernel_rfl⟩
/-! loop.example/wholecheck/spec.DrawExchanged -/
noncomputable def spec_DrawExchanged.ps : S := (.pair (.slice false (.int .u8)) .unit)
noncomputable def spec_DrawExchanged.sem (k : Nat) : Sem := mkSem [.sh] 2 (.pair (.slice false I) (.slice false I)) (.pr (.ow .sh) (.ow .sh)) .unit (.pair (.slice false (.int .u8)) .unit) fun x => spec_DrawExchanged.f k x.1
noncomputable def spec_DrawExchanged.C (k : Nat) : Ctx := mkC tys [(44, spec_l40Open.sem k), (45, spec_l40Rd_num.sem k), (46, spec_l1Numbers.sem k), (47, spec_l9Order.sem k)] (hintOf []) (headOf []) [] (ordOf []) (hidOf []) (jnOf [])
noncomputable def spec_DrawExchanged.K0 (k : Nat) : Ex → List Slot → Option (((List Int) × (List Int)) × Unit) := kRet (spec_DrawExchanged.C k) Try.f17 2 (.pair (.slice false I) (.slice false I)) (.pr (.ow .sh) (.ow .sh)) [.sh] .unit
theorem spec_DrawExchanged.s (k : Nat) (x : El spec_DrawExchanged.ps) : evalFn (spec_DrawExchanged.C k) k Try.f17 2 (.pair (.slice false I) (.slice false I)) (.pr (.ow .sh) (.ow .sh)) [.sh] .unit (unp spec_DrawExchanged.ps [.sh] x) = spec_DrawExchanged.bt k x.1 := by kernel_rfl
theorem spec_DrawExchanged.e (k : Nat) (x : El spec_DrawExchanged.ps) : evalFn (spec_DrawExchanged.C k) k Try.f17 2 (.pair (.slice false I) (.slice false I)) (.pr (.ow .sh) (.ow .sh)) [.sh] .unit (unp spec_DrawExchanged.ps [.sh] x) = spec_DrawExchanged.f k x.1 := by
  rw [spec_DrawExchanged.s]; rfl
theorem spec_DrawExchanged.env (k : Nat) : EnvOk Try.prog [(44, spec_l40Open.sem k), (45, spec_l40Rd_num.sem k), (46, spec_l1Numbers.sem k), (47, spec_l9Order.sem k)] := ⟨⟨spec_l40Open.ok k, spec_l40Open.code⟩, ⟨spec_l40Rd_num.ok k, spec_l40Rd_num.code⟩, ⟨spec_l1Numbers.ok k, spec_l1Numbers.code⟩, ⟨spec_l9Order.ok k, spec_l9Order.code⟩, trivial⟩
theorem spec_DrawExchanged.ok (k : Nat) : Contract Try.prog 17 (spec_DrawExchanged.sem k) := fn_ok (C := spec_DrawExchanged.C k) (mkC_ok tys_ok (spec_DrawExchanged.env k) mix) Try.func17 rfl rfl (spec_DrawExchanged.e k)
theorem spec_DrawExchanged.code : CallOk Try.prog 17 := ⟨_, Try.func17, rfl, by kernel_rfl⟩
/-! loop.example/wholecheck/spec.DrawOrderWith -/
noncomputable def spec_DrawOrderWith.ps : S := (.pair (.slice false (.int .u8)) .unit)
noncomputable def spec_DrawOrderWith.sem (k : Nat) : Sem := mkSem [.sh] 2 (.pair (.slice false I) (.slice false I)) (.pr (.ow .sh) (.ow .sh)) .unit (.pair (.slice false (.int .u8)) .unit) fun x => spec_DrawOrderWith.f k x.1
noncomputable def spec_DrawOrderWith.C (k : Nat) : Ctx := mkC tys [(44, spec_l40Open.sem k), (45, spec_l40Rd_num.sem k), (47, spec_l9Order.sem k)] (hintOf []) (headOf []) [] (ordOf []) (hidOf []) (jnOf [])
noncomputable def spec_DrawOrderWith.K0 (k : Nat) : Ex → List Slot → Option (((List Int) × (List Int)) × Unit) := kRet (spec_DrawOrderWith.C k) Try.f18 2 (.pair (.slice false I) (.slice false I)) (.pr (.ow .sh) (.ow .sh)) [.sh] .unit
theorem spec_DrawOrderWith.s (k : Nat) (x : El spec_DrawOrderWith.ps) : evalFn (spec_DrawOrderWith.C k) k Try.f18 2 (.pair (.slice false I) (.slice false I)) (.pr (.ow .sh) (.ow .sh)) [.sh] .unit (unp spec_DrawOrderWith.ps [.sh] x) = spec_DrawOrderWith.bt k x.1 := by kernel_rfl
theorem spec_DrawOrderWith.e (k : Nat) (x : El spec_DrawOrderWith.ps) : evalFn (spec_DrawOrderWith.C k) k Try.f18 2 (.pair (.slice false I) (.slice false I)) (.pr (.ow .sh) (.ow .sh)) [.sh] .unit (unp spec_DrawOrderWith.ps [.sh] x) = spec_DrawOrderWith.f k x.1 := by
  rw [spec_DrawOrderWith.s]; rfl
theorem spec_DrawOrderWith.env (k : Nat) : EnvOk Try.prog [(44, spec_l40Open.sem k), (45, spec_l40Rd_num.sem k), (47, spec_l9Order.sem k)] := ⟨⟨spec_l40Open.ok k, spec_l40Open.code⟩, ⟨spec_l40Rd_num.ok k, spec_l40Rd_num.code⟩, ⟨spec_l9Order.ok k, spec_l9Order.code⟩, trivial⟩
theorem spec_DrawOrderWith.ok (k : Nat) : Contract Try.prog 18 (spec_DrawOrderWith.sem k) := fn_ok (C := spec_DrawOrderWith.C k) (mkC_ok tys_ok (spec_DrawOrderWith.env k) mix) Try.func18 rfl rfl (spec_DrawOrderWith.e k)
theorem spec_DrawOrderWith.code : CallOk Try.prog 18 := ⟨_, Try.func18, rfl, by kernel_rfl⟩
/-! loop.example/wholecheck/laws.wcInts -/
noncomputable def laws_wcInts.ps : S := (.pair (.slice false I) (.pair (.slice false I) .unit))
noncomputable def laws_wcInts.sem (k : Nat) : Sem := mkSem [.sh, .sh] 1 .bool .sh .unit (.pair (.slice false I) (.pair (.slice false I) .unit)) fun x => laws_wcInts.f k x.1 x.2.1
noncomputable def laws_wcInts.C (k : Nat) : Ctx := mkC tys [] (hintOf []) (headOf [(4, [(1, none), (12, none), (13, none), (14, none)])]) [] (ordOf []) (hidOf []) (jnOf [])
noncomputable def laws_wcInts.K0 (k : Nat) : Ex → List Slot → Option (Bool × Unit) := kRet (laws_wcInts.C k) Try.f19 1 .bool .sh [.sh, .sh] .unit
noncomputable def laws_wcInts.L4 (k : Nat) (p0 : (List Int)) (p1 : (List Int)) (n : Nat) (v14_4 : Int) : Option (Bool × Unit) :=
  loopN ((laws_wcInts.C k).head 4) (evalCode (laws_wcInts.C k) k (codeAt [1, 1, 0, 1, 0, 0] (body Try.f19))) n (st 26 [(14, .val I .sh v14_4), (13, .val I .sh ((p0.length : Int))), (12, .val (.slice false I) .sh p0), (1, .val (.slice false I) .sh p1)]) (kAt (laws_wcInts.C k) k [1, 1, 0, 1, 0] (body Try.f19) [] (laws_wcInts.K0 k))
theorem laws_wcInts.s4 (k : Nat) (p0 : (List Int)) (p1 : (List Int)) (n : Nat) (v14_4 : Int) : laws_wcInts.L4 k p0 p1 (n + 1) v14_4 = laws_wcInts.b4 k (laws_wcInts.L4 k p0 p1 n) p0 p1 v14_4 := by kernel_rfl
theorem laws_wcInts.t4 (k : Nat) (p0 : (List Int)) (p1 : (List Int)) : ∀ n, laws_wcInts.L4 k p0 p1 n = laws_wcInts.l4 k p0 p1 n := by
  intro n; induction n with
  | zero => rfl
  | succ n ih => funext v14_4; rw [laws_wcInts.s4]; rw [ih]; rfl
theorem laws_wcInts.s (k : Nat) (x : El laws_wcInts.ps) : evalFn (laws_wcInts.C k) k Try.f19 1 .bool .sh [.sh, .sh] .unit (unp laws_wcInts.ps [.sh, .sh] x) = laws_wcInts.bt k (laws_wcInts.L4 k x.1 x.2.1 k) x.1 x.2.1 := by kernel_rfl
theorem laws_wcInts.e (k : Nat) (x : El laws_wcInts.ps) : evalFn (laws_wcInts.C k) k Try.f19 1 .bool .sh [.sh, .sh] .unit (unp laws_wcInts.ps [.sh, .sh] x) = laws_wcInts.f k x.1 x.2.1 := by
  rw [laws_wcInts.s]; rw [laws_wcInts.t4 k x.1 x.2.1 k]; rfl
theorem laws_wcInts.env (k : Nat) : EnvOk Try.prog [] := trivial
theorem laws_wcInts.ok (k : Nat) : Contract Try.prog 19 (laws_wcInts.sem k) := fn_ok (C := laws_wcInts.C k) (mkC_ok tys_ok (laws_wcInts.env k) mix) Try.func19 rfl rfl (laws_wcInts.e k)
theorem laws_wcInts.code : CallOk Try.prog 19 := ⟨_, Try.func19, rfl, by kernel_rfl⟩
/-! loop.example/wholecheck/impl.OrderBack -/
noncomputable def impl_OrderBack.ps : S := (.pair (.slice false I) .unit)
noncomputable def impl_OrderBack.sem (k : Nat) : Sem := mkSem [.sh] 1 (.slice false I) (.ow .sh) .unit (.pair (.slice false I) .unit) fun x => impl_OrderBack.f k x.1
noncomputable def impl_OrderBack.C (k : Nat) : Ctx := mkC tys [(41, impl_OrderValid.sem k), (42, impl_clone_int.sem k)] (hintOf []) (headOf [(5, [(3, none), (14, none), (15, none), (16, none)])]) [] (ordOf []) (hidOf []) (jnOf [])
noncomputable def impl_OrderBack.K0 (k : Nat) : Ex → List Slot → Option ((List Int) × Unit) := kRet (impl_OrderBack.C k) Try.f20 1 (.slice false I) (.ow .sh) [.sh] .unit
noncomputable def impl_OrderBack.L5 (k : Nat) (p0 : (List Int)) (n : Nat) (v3_5 : (List Int)) (v16_5 : Int) : Option ((List Int) × Unit) :=
  loopN ((impl_OrderBack.C k).head 5) (evalCode (impl_OrderBack.C k) k (codeAt [1, 1, 1, 0, 1, 0, 0] (body Try.f20))) n (st 28 [(16, .val I .sh v16_5), (15, .val I .sh ((p0.length : Int))), (14, .val (.slice false I) .sh p0), (3, .val (.slice false I) (.ow .sh) v3_5)]) (kAt (impl_OrderBack.C k) k [1, 1, 1, 0, 1, 0] (body Try.f20) [] (impl_OrderBack.K0 k))
theorem impl_OrderBack.s5 (k : Nat) (p0 : (List Int)) (n : Nat) (v3_5 : (List Int)) (v16_5 : Int) : impl_OrderBack.L5 k p0 (n + 1) v3_5 v16_5 = impl_OrderBack.b5 k (impl_OrderBack.L5 k p0 n) p0 v3_5 v16_5 := by kernel_rfl
theorem impl_OrderBack.t5 (k : Nat) (p0 : (List Int)) : ∀ n, impl_OrderBack.L5 k p0 n = impl_OrderBack.l5 k p0 n := by
  intro n; induction n with
  | zero => rfl
  | succ n ih => funext v3_5 v16_5; rw [impl_OrderBack.s5]; rw [ih]; rfl
theorem impl_OrderBack.s (k : Nat) (x : El impl_OrderBack.ps) : evalFn (impl_OrderBack.C k) k Try.f20 1 (.slice false I) (.ow .sh) [.sh] .unit (unp impl_OrderBack.ps [.sh] x) = impl_OrderBack.bt k (impl_OrderBack.L5 k x.1 k) x.1 := by kernel_rfl
theorem impl_OrderBack.e (k : Nat) (x : El impl_OrderBack.ps) : evalFn (impl_OrderBack.C k) k Try.f20 1 (.slice false I) (.ow .sh) [.sh] .unit (unp impl_OrderBack.ps [.sh] x) = impl_OrderBack.f k x.1 := by
  rw [impl_OrderBack.s]; rw [impl_OrderBack.t5 k x.1 k]; rfl
theorem impl_OrderBack.env (k : Nat) : EnvOk Try.prog [(41, impl_OrderValid.sem k), (42, impl_clone_int.sem k)] := ⟨⟨impl_OrderValid.ok k, impl_OrderValid.code⟩, ⟨impl_clone_int.ok k, impl_clone_int.code⟩, trivial⟩
theorem impl_OrderBack.ok (k : Nat) : Contract Try.prog 20 (impl_OrderBack.sem k) := fn_ok (C := impl_OrderBack.C k) (mkC_ok tys_ok (impl_OrderBack.env k) mix) Try.func20 rfl rfl (impl_OrderBack.e k)
theorem impl_OrderBack.code : CallOk Try.prog 20 := ⟨_, Try.func20, rfl, by kernel_rfl⟩
/-! loop.example/wholecheck/laws.FnExchanged -/
noncomputable def laws_FnExchanged.ps : S := (.pair (.slice false (.int .u8)) .unit)
noncomputable def laws_FnExchanged.sem (k : Nat) : Sem := mkSem [.sh] 1 .bool .sh .unit (.pair (.slice false (.int .u8)) .unit) fun x => laws_FnExchanged.f k x.1
noncomputable def laws_FnExchanged.C (k : Nat) : Ctx := mkC tys [(17, spec_DrawExchanged.sem k), (18, spec_DrawOrderWith.sem k), (11, impl_Exchanged.sem k), (16, impl_OrderWith.sem k), (9, spec_Exchanged.sem k), (19, laws_wcInts.sem k), (15, spec_OrderWith.sem k), (20, impl_OrderBack.sem k)] (hintOf [((10, 3), 2)]) (headOf []) [] (ordOf []) (hidOf []) (jnOf [(13, [(3, none), (4, none), (7, none)])])
noncomputable def laws_FnExchanged.K0 (k : Nat) : Ex → List Slot → Option (Bool × Unit) := kRet (laws_FnExchanged.C k) Try.f5 1 .bool .sh [.sh] .unit
noncomputable def laws_FnExchanged.Lj13 (k : Nat) (n : Nat) (v3_j13 : (List Int)) (v4_j13 : (List Int)) (v7_j13 : (List Int)) : Option (Bool × Unit) :=
  loopN ([(3, none), (4, none), (7, none)]) (fun σ _ => evalCode (laws_FnExchanged.C k) k (codeAt [1, 1, 1, 1, 1, 1, 1, 1] (body Try.f5)) σ (kAt (laws_FnExchanged.C k) k [1, 1, 1, 1, 1, 1, 1] (body Try.f5) [] (laws_FnExchanged.K0 k))) n (st 71 [(7, .val (.slice false I) (.ow .sh) v7_j13), (4, .val (.slice false I) (.ow .sh) v4_j13), (3, .val (.slice false I) (.ow .sh) v3_j13)]) (kAt (laws_FnExchanged.C k) k [1, 1, 1, 1, 1, 1, 1] (body Try.f5) [] (laws_FnExchanged.K0 k))
theorem laws_FnExchanged.sj13 (k : Nat) (n : Nat) (v3_j13 : (List Int)) (v4_j13 : (List Int)) (v7_j13 : (List Int)) : laws_FnExchanged.Lj13 k (n + 1) v3_j13 v4_j13 v7_j13 = laws_FnExchanged.bj13 k v3_j13 v4_j13 v7_j13 := by kernel_rfl
theorem laws_FnExchanged.tj13 (k : Nat) : ∀ n, laws_FnExchanged.Lj13 k n = laws_FnExchanged.lj13 k n := by
  intro n; induction n with
  | zero => rfl
  | succ n ih => funext v3_j13 v4_j13 v7_j13; rw [laws_FnExchanged.sj13]; rfl
theorem laws_FnExchanged.s (k : Nat) (x : El laws_FnExchanged.ps) : evalFn (laws_FnExchanged.C k) k Try.f5 1 .bool .sh [.sh] .unit (unp laws_FnExchanged.ps [.sh] x) = laws_FnExchanged.bt k (laws_FnExchanged.Lj13 k k) x.1 := by kernel_rfl
theorem laws_FnExchanged.e (k : Nat) (x : El laws_FnExchanged.ps) : evalFn (laws_FnExchanged.C k) k Try.f5 1 .bool .sh [.sh] .unit (unp laws_FnExchanged.ps [.sh] x) = laws_FnExchanged.f k x.1 := by
  rw [laws_FnExchanged.s]; rw [laws_FnExchanged.tj13 k k]; rfl
theorem laws_FnExchanged.env (k : Nat) : EnvOk Try.prog [(17, spec_DrawExchanged.sem k), (18, spec_DrawOrderWith.sem k), (11, impl_Exchanged.sem k), (16, impl_OrderWith.sem k), (9, spec_Exchanged.sem k), (19, laws_wcInts.sem k), (15, spec_OrderWith.sem k), (20, impl_OrderBack.sem k)] := ⟨⟨spec_DrawExchanged.ok k, spec_DrawExchanged.code⟩, ⟨spec_DrawOrderWith.ok k, spec_DrawOrderWith.code⟩, ⟨impl_Exchanged.ok k, impl_Exchanged.code⟩, ⟨impl_OrderWith.ok k, impl_OrderWith.code⟩, ⟨spec_Exchanged.ok k, spec_Exchanged.code⟩, ⟨laws_wcInts.ok k, laws_wcInts.code⟩, ⟨spec_OrderWith.ok k, spec_OrderWith.code⟩, ⟨impl_OrderBack.ok k, impl_OrderBack.code⟩, trivial⟩
theorem laws_FnExchanged.ok (k : Nat) : Contract Try.prog 5 (laws_FnExchanged.sem k) := fn_ok (C := laws_FnExchanged.C k) (mkC_ok tys_ok (laws_FnExchanged.env k) mix) Try.func5 rfl rfl (laws_FnExchanged.e k)
theorem laws_FnExchanged.code : CallOk Try.prog 5 := ⟨_, Try.func5, rfl, by kernel_rfl⟩
end Go.Ev
