/- The law FnExactBlockWay answers true for every input and leaves its arguments as they were: no condition. -/
import Derived.Test.YtphlehimeekgoaaGreatRows
import Derived.Test.YtphlehimeekgoaaGreatFn1
import Derived.Test.YtphlehimeekgoaaGreatP2
import Derived.WalkKit
import Derived.ProofKit
import Derived.OpenShut
import Derived.ShutString
import Derived.ChangeOld
import Derived.Below
import Derived.SizedLaws
import Derived.KernelRfl
set_option linter.unusedVariables false
set_option linter.unusedSimpArgs false
namespace Go.Proofs.YtphlehimeekgoaaGreat.fnExactBlockWay
open Go.ChangeShapes Go.WideShapes Go.ChangeAt Go.RowKit
open Go.Ev (arg_val trod_rep law_calls ftB_ok Fits I)
theorem own : ownKnob Tryz.prog.godebug = none := by kernel_rfl
theorem laidOut : laidOutB Tryz.prog = true := by kernel_rfl
theorem fit0 : Fits Tryz.prog (.agg (.pair (.slice false (.agg (.pair I (.pair I I)))) (.slice false (.agg (.pair (.slice false (.agg (.pair I (.pair I (.pair I I))))) (.pair (.slice false I) (.slice false (.slice false (.agg (.pair I (.pair I (.pair I I)))))))))))) 25 := (ftB_ok _).1 25 (by kernel_rfl)
theorem fit1 : Fits Tryz.prog (.agg (.slice false I)) 28 := (ftB_ok _).1 28 (by kernel_rfl)
theorem fit2 : Fits Tryz.prog (.slice false (.agg (.pair I (.pair I (.pair I I))))) 50 := (ftB_ok _).1 50 (by kernel_rfl)
set_option maxRecDepth 100000 in
theorem lifted (os : Os) (started : os.Started) (H : Type) (enc : TypeId × Value → H) :
    ReturnsInHanded {} Tryz.checked os 9 .any (Rows.fnExactBlockWaySpec.pre6 enc Tryz.prog Tryz.f9 Rows.fnExactBlockWayRow.domain false) (Rows.fnExactBlockWaySpec.post enc Tryz.prog Tryz.f9 false true false false) := by
  refine returnsInHanded_of_change_sized (C := Tryz.checked) own started (by kernel_rfl) Tryz.func9
    (ChangeSpec.witness6 (enc := enc) (C := Tryz.checked) false ⟨#[], #[.agg #[.slice none 0 0, .slice none 0 0], .agg #[.slice none 0 0], .slice none 0 0], []⟩ 8 (by kernel_rfl) (by kernel_rfl) (by kernel_rfl) (by kernel_rfl)) ?_
  intro W base args ds gs before hval0 hW hcnd hsz0 _
  have hval : ∀ (j : Nat) t v, Tryz.f9.params[j]? = some t → args[j]? = some v → Value.okWide Tryz.prog W .any base t v := hval0
  have hW' := hW
  obtain ⟨p, q, hA0, hV, rfl, hfz, hnd⟩ := hW
  have hA : DataW.TrodAll enc Tryz.prog W 0 (fun _ => true) true Tryz.f9.params.toList args.toList ds p := hA0
  rw [Tryz.params9] at hA hval
  obtain ⟨v0, vs0, d0, ds0, p0, q0, hargs, rfl, rfl, h0, r0⟩ := trodAll_cons hA
  obtain ⟨v1, vs1, d1, ds1, p1, q1, rfl, rfl, rfl, h1, r1⟩ := trodAll_cons r0
  obtain ⟨v2, vs2, d2, ds2, p2, q2, rfl, rfl, rfl, h2, r2⟩ := trodAll_cons r1
  obtain ⟨rfl, rfl, rfl⟩ := trodAll_nil r2
  obtain rfl : args = #[v0, v1, v2] := by cases args; simp_all
  obtain ⟨rfl, rfl⟩ := trodVars_none hV
  have k0 := h0
  have lt0 : ∀ x ∈ p0, x.block < W.heap.size := by obtain ⟨m, hm⟩ := k0; exact DataW.trod_lt m _ _ _ hm
  obtain ⟨i0, s0⟩ := arg_val fit0 rfl (hval 0 25 v0 rfl rfl)
  obtain ⟨fu0, hf0⟩ := h0
  obtain ⟨x0, e0, w0⟩ := (trod_rep _).1 rfl 25 fu0 _ _ fit0 hf0
  have k1 := h1
  have lt1 : ∀ x ∈ p1, x.block < W.heap.size := by obtain ⟨m, hm⟩ := k1; exact DataW.trod_lt m _ _ _ hm
  obtain ⟨i1, s1⟩ := arg_val fit1 rfl (hval 1 28 v1 rfl rfl)
  obtain ⟨fu1, hf1⟩ := h1
  obtain ⟨x1, e1, w1⟩ := (trod_rep _).1 rfl 28 fu1 _ _ fit1 hf1
  have k2 := h2
  have lt2 : ∀ x ∈ p2, x.block < W.heap.size := by obtain ⟨m, hm⟩ := k2; exact DataW.trod_lt m _ _ _ hm
  obtain ⟨i2, s2⟩ := arg_val fit2 rfl (hval 2 50 v2 rfl rfl)
  obtain ⟨fu2, hf2⟩ := h2
  obtain ⟨x2, e2, w2⟩ := (trod_rep _).1 rfl 50 fu2 _ _ fit2 hf2
  obtain ⟨k, hk⟩ := Go.Ev.FnExactBlockWay_true x0 x1 x2 w0 w1 w2
  unfold Go.Ev.laws_FnExactBlockWay.f at hk
  refine (law_calls (ps := (.pair (.agg (.pair (.slice false (.agg (.pair I (.pair I I)))) (.slice false (.agg (.pair (.slice false (.agg (.pair I (.pair I (.pair I I))))) (.pair (.slice false I) (.slice false (.slice false (.agg (.pair I (.pair I (.pair I I)))))))))))) (.pair (.agg (.slice false I)) (.pair (.slice false (.agg (.pair I (.pair I (.pair I I))))) .unit)))) (F := Go.Ev.laws_FnExactBlockWay.D.ev (Go.Ev.laws_FnExactBlockWay.C k) k) (Go.Ev.laws_FnExactBlockWay.ok k).1 rfl (x := (x0, x1, x2, ())) ⟨v0, [v1, v2], rfl, ⟨_, e0, i0⟩, ⟨v1, [v2], rfl, ⟨_, e1, i1⟩, ⟨v2, [], rfl, ⟨_, e2, i2⟩, rfl⟩⟩⟩ hk).mono fun e W' ⟨he, bel⟩ => ?_
  subst he
  exact ⟨_, rfl, _, _, _, [], _, [], hW', trodAll_mk1 (shut_bool Tryz.underlying4 _), (trodAll_cons_mk (Below.trod laidOut (by kernel_rfl) (of_decide_eq_true (by kernel_rfl)) k0 bel lt0) (trodAll_cons_mk (Below.trod laidOut (by kernel_rfl) (of_decide_eq_true (by kernel_rfl)) k1 bel lt1) (trodAll_cons_mk (Below.trod laidOut (by kernel_rfl) (of_decide_eq_true (by kernel_rfl)) k2 bel lt2) trodAll_mk0))), rfl, bel.frame _, fun h => by cases h⟩
theorem over : Rows.fnExactBlockWayRow.holds Tryz.pinned (OpenSpec.ofChange Rows.fnExactBlockWaySpec) :=
  OpenClaim.holds_of_wide 9 Tryz.f9 rfl rfl rfl rfl rfl rfl rfl ⟨rfl, rfl, rfl, rfl, rfl⟩ rfl rfl rfl rfl rfl (by kernel_rfl) Tryz.func9 (by kernel_rfl)
    (of_decide_eq_true (by kernel_rfl)) (by unfold Func.isWrapper; first | (rw [if_pos (by decide +kernel)]; kernel_rfl) | (rw [if_neg (by decide +kernel)]; exact ⟨rfl, rfl⟩))
    (fun os started H enc _ => lifted os started H enc)
end Go.Proofs.YtphlehimeekgoaaGreat.fnExactBlockWay
namespace Go.Proofs.YtphlehimeekgoaaGreat
theorem fnExactBlockWay_holds : Rows.FnExactBlockWaySaid := fnExactBlockWay.over
end Go.Proofs.YtphlehimeekgoaaGreat
