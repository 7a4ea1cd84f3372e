/- The law FnFollowBlocks answers true for every input and leaves its arguments as they were: no condition. -/
import Derived.Test.YtfhhagbbfiiiiaaGreatRows
import Derived.Test.YtfhhagbbfiiiiaaGreatFn2
import Derived.Test.YtfhhagbbfiiiiaaGreatP3
import Derived.WalkKit
import Derived.ProofKit
import Derived.OpenShut
import Derived.ShutString
import Derived.ChangeOld
import Derived.Below
import Derived.SizedLaws
import Derived.KernelRfl
set_option linter.unusedVariables false
set_option linter.unusedSimpArgs false
namespace Go.Proofs.YtfhhagbbfiiiiaaGreat.fnFollowBlocks
open Go.ChangeShapes Go.WideShapes Go.ChangeAt Go.RowKit
open Go.Ev (arg_val trod_rep law_calls ftB_ok Fits I)
theorem own : ownKnob Tryz.prog.godebug = none := by kernel_rfl
theorem laidOut : laidOutB Tryz.prog = true := by kernel_rfl
theorem fit0 : Fits Tryz.prog (.slice false (.int .u8)) 22 := (ftB_ok _).1 22 (by kernel_rfl)
set_option maxRecDepth 100000 in
theorem lifted (os : Os) (started : os.Started) (H : Type) (enc : TypeId × Value → H) :
    ReturnsInHanded {} Tryz.checked os 4 .any (Rows.fnFollowBlocksSpec.pre6 enc Tryz.prog Tryz.f4 Rows.fnFollowBlocksRow.domain false) (Rows.fnFollowBlocksSpec.post enc Tryz.prog Tryz.f4 false true false false) := by
  refine returnsInHanded_of_change_sized (C := Tryz.checked) own started (by kernel_rfl) Tryz.func4
    (ChangeSpec.witness6 (enc := enc) (C := Tryz.checked) false ⟨#[], #[.slice none 0 0], []⟩ 8 (by kernel_rfl) (by kernel_rfl) (by kernel_rfl) (by kernel_rfl)) ?_
  intro W base args ds gs before hval0 hW hcnd hsz0 _
  have hval : ∀ (j : Nat) t v, Tryz.f4.params[j]? = some t → args[j]? = some v → Value.okWide Tryz.prog W .any base t v := hval0
  have hW' := hW
  obtain ⟨p, q, hA0, hV, rfl, hfz, hnd⟩ := hW
  have hA : DataW.TrodAll enc Tryz.prog W 0 (fun _ => true) true Tryz.f4.params.toList args.toList ds p := hA0
  rw [Tryz.params4] at hA hval
  obtain ⟨v0, vs0, d0, ds0, p0, q0, hargs, rfl, rfl, h0, r0⟩ := trodAll_cons hA
  obtain ⟨rfl, rfl, rfl⟩ := trodAll_nil r0
  obtain rfl : args = #[v0] := by cases args; simp_all
  obtain ⟨rfl, rfl⟩ := trodVars_none hV
  have k0 := h0
  have lt0 : ∀ x ∈ p0, x.block < W.heap.size := by obtain ⟨m, hm⟩ := k0; exact DataW.trod_lt m _ _ _ hm
  obtain ⟨i0, s0⟩ := arg_val fit0 rfl (hval 0 22 v0 rfl rfl)
  obtain ⟨fu0, hf0⟩ := h0
  obtain ⟨x0, e0, w0⟩ := (trod_rep _).1 rfl 22 fu0 _ _ fit0 hf0
  obtain ⟨k, hk⟩ := Go.Ev.FnFollowBlocks_true x0 w0
  unfold Go.Ev.laws_FnFollowBlocks.f at hk
  refine (law_calls (ps := (.pair (.slice false (.int .u8)) .unit)) (F := Go.Ev.laws_FnFollowBlocks.D.ev (Go.Ev.laws_FnFollowBlocks.C k) k) (Go.Ev.laws_FnFollowBlocks.ok k).1 rfl (x := (x0, ())) ⟨v0, [], rfl, ⟨_, e0, i0⟩, rfl⟩ hk).mono fun e W' ⟨he, bel⟩ => ?_
  subst he
  exact ⟨_, rfl, _, _, _, [], _, [], hW', trodAll_mk1 (shut_bool Tryz.underlying4 _), (trodAll_cons_mk (Below.trod laidOut (by kernel_rfl) (of_decide_eq_true (by kernel_rfl)) k0 bel lt0) trodAll_mk0), rfl, bel.frame _, fun h => by cases h⟩
theorem over : Rows.fnFollowBlocksRow.holds Tryz.pinned (OpenSpec.ofChange Rows.fnFollowBlocksSpec) :=
  OpenClaim.holds_of_wide 4 Tryz.f4 rfl rfl rfl rfl rfl rfl rfl ⟨rfl, rfl, rfl, rfl, rfl⟩ rfl rfl rfl rfl rfl (by kernel_rfl) Tryz.func4 (by kernel_rfl)
    (of_decide_eq_true (by kernel_rfl)) (by unfold Func.isWrapper; first | (rw [if_pos (by decide +kernel)]; kernel_rfl) | (rw [if_neg (by decide +kernel)]; exact ⟨rfl, rfl⟩))
    (fun os started H enc _ => lifted os started H enc)
end Go.Proofs.YtfhhagbbfiiiiaaGreat.fnFollowBlocks
namespace Go.Proofs.YtfhhagbbfiiiiaaGreat
theorem fnFollowBlocks_holds : Rows.FnFollowBlocksSaid := fnFollowBlocks.over
end Go.Proofs.YtfhhagbbfiiiiaaGreat
