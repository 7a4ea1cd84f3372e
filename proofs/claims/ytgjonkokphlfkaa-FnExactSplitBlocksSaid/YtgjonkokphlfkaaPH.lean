/- Plain mathematics on what the functions compute. -/
import Derived.Test.YtgjonkokphlfkaaPG
set_option linter.unusedVariables false
set_option linter.unusedSimpArgs false
namespace Go.Ev

theorem szBlocks_ok {k : Nat} {p : List Int} (hp : p.length < 9223372036854775808) : SzOk (laws_szBlocks.f k p) p fun p => p.length ≤ 1048576 := by
  intro left h0 h1
  rw [laws_szBlocks.s]
  obtain ⟨r, e, hr⟩ := szIntS_ok (k := k) hp left h0 h1
  rw [e]; simp only [Option.bind_some]
  rcases hr with hr | ⟨h1, h2, h3⟩
  · rw [if_pos (by simpa using hr)]; exact ⟨-1, rfl, .inl (by omega)⟩
  · rw [if_neg (by simpa using h1)]; exact ⟨r, rfl, .inr ⟨h1, h2, h3⟩⟩

/-! ### copies and comparisons -/
theorem toVar_eq (k : Nat) (x : VA) : laws_toVar.f k x = some (x, ()) := by rw [laws_toVar.s]
theorem toTerm_eq (k : Nat) (x : TM) : laws_toTerm.f k x = some (x, ()) := by rw [laws_toTerm.s]
theorem eqVar_eq (k : Nat) (x : VA) : laws_eqVar.f k x x = some (true, ()) := by rw [laws_eqVar.s]; simp
theorem eqTerm_eq (k : Nat) (x : TM) : laws_eqTerm.f k x x = some (true, ()) := by rw [laws_eqTerm.s]; simp
theorem toVarS_eq {k : Nat} {p : List VA} (hk : 1048576 < k) (hp : p.length ≤ 1048576) : laws_toVarS.f k p = some (p, ()) := by
  rw [laws_toVarS.s]
  rw [gd_t (by omega), gd_t (by omega)]
  refine to_all (fun n v j hj hv => ?_) (fun n v => ?_) (by omega) (by simp)
  · simp only [laws_toVarS.s3, toNat_nat, w64_nat (j := j) (by omega), getD_get hj]
    rw [if_pos (by simp; omega), gd_t (by omega), gd_t (by omega), toVar_eq]
    simp only [Option.bind_some]
    rw [gd_t (by omega), gd_t (by omega)]
  · simp only [laws_toVarS.s3]
    rw [if_neg (by simp)]
theorem eqVarS_eq {k : Nat} {p : List VA} (hk : 1048576 < k) (hp : p.length ≤ 1048576) : laws_eqVarS.f k p p = some (true, ()) := by
  rw [laws_eqVarS.s]
  rw [if_neg (by simp)]
  refine eq_loop (m := p.length) (fun n j hj => ?_) (fun n => ?_) p.length k 0 (by omega) (by omega)
  · simp only [laws_eqVarS.s4, toNat_nat, w64_nat (j := j) (by omega), getD_get hj]
    rw [if_pos (by simp; omega), gd_t (by omega), gd_t (by omega), gd_t (by omega), gd_t (by omega), eqVar_eq]
    simp only [Option.bind_some]
    rw [if_neg (by simp)]
  · simp only [laws_eqVarS.s4]
    rw [if_neg (by simp)]
theorem toTermS_eq {k : Nat} {p : List TM} (hk : 1048576 < k) (hp : p.length ≤ 1048576) : laws_toTermS.f k p = some (p, ()) := by
  rw [laws_toTermS.s]
  rw [gd_t (by omega), gd_t (by omega)]
  refine to_all (fun n v j hj hv => ?_) (fun n v => ?_) (by omega) (by simp)
  · simp only [laws_toTermS.s3, toNat_nat, w64_nat (j := j) (by omega), getD_get hj]
    rw [if_pos (by simp; omega), gd_t (by omega), gd_t (by omega), toTerm_eq]
    simp only [Option.bind_some]
    rw [gd_t (by omega), gd_t (by omega)]
  · simp only [laws_toTermS.s3]
    rw [if_neg (by simp)]
theorem eqTermS_eq {k : Nat} {p : List TM} (hk : 1048576 < k) (hp : p.length ≤ 1048576) : laws_eqTermS.f k p p = some (true, ()) := by
  rw [laws_eqTermS.s]
  rw [if_neg (by simp)]
  refine eq_loop (m := p.length) (fun n j hj => ?_) (fun n => ?_) p.length k 0 (by omega) (by omega)
  · simp only [laws_eqTermS.s4, toNat_nat, w64_nat (j := j) (by omega), getD_get hj]
    rw [if_pos (by simp; omega), gd_t (by omega), gd_t (by omega), gd_t (by omega), gd_t (by omega), eqTerm_eq]
    simp only [Option.bind_some]
    rw [if_neg (by simp)]
  · simp only [laws_eqTermS.s4]
    rw [if_neg (by simp)]
theorem toTermSS_eq {k : Nat} {p : List (List TM)} (hk : 1048576 < k) (hp : p.length ≤ 1048576) (hx : ∀ x ∈ p, x.length ≤ 1048576) : laws_toTermSS.f k p = some (p, ()) := by
  rw [laws_toTermSS.s]
  rw [gd_t (by omega), gd_t (by omega)]
  refine to_all (fun n v j hj hv => ?_) (fun n v => ?_) (by omega) (by simp)
  · simp only [laws_toTermSS.s3, toNat_nat, w64_nat (j := j) (by omega), getD_get hj]
    rw [if_pos (by simp; omega), gd_t (by omega), gd_t (by omega), toTermS_eq hk (hx _ (List.getElem_mem hj))]
    simp only [Option.bind_some]
    rw [gd_t (by omega), gd_t (by omega)]
  · simp only [laws_toTermSS.s3]
    rw [if_neg (by simp)]
theorem eqTermSS_eq {k : Nat} {p : List (List TM)} (hk : 1048576 < k) (hp : p.length ≤ 1048576) (hx : ∀ x ∈ p, x.length ≤ 1048576) : laws_eqTermSS.f k p p = some (true, ()) := by
  rw [laws_eqTermSS.s]
  rw [if_neg (by simp)]
  refine eq_loop (m := p.length) (fun n j hj => ?_) (fun n => ?_) p.length k 0 (by omega) (by omega)
  · simp only [laws_eqTermSS.s4, toNat_nat, w64_nat (j := j) (by omega), getD_get hj]
    rw [if_pos (by simp; omega), gd_t (by omega), gd_t (by omega), gd_t (by omega), gd_t (by omega), eqTermS_eq hk (hx _ (List.getElem_mem hj))]
    simp only [Option.bind_some]
    rw [if_neg (by simp)]
  · simp only [laws_eqTermSS.s4]
    rw [if_neg (by simp)]
theorem toRule_eq {k : Nat} {r : RU} (hk : 1048576 < k) (h : SmR r) : laws_toRule.f k r = some (r, ()) := by
  rw [laws_toRule.s]
  rw [toTermS_eq hk h.1]; simp only [Option.bind_some]
  rw [toIntS_eq (by have := h.2.1; omega) (by have := h.2.1; omega)]; simp only [Option.bind_some]
  rw [toTermSS_eq hk h.2.2.1 h.2.2.2]; rfl
theorem eqRule_eq {k : Nat} {r : RU} (hk : 1048576 < k) (h : SmR r) : laws_eqRule.f k r r = some (true, ()) := by
  rw [laws_eqRule.s]
  rw [eqTermS_eq hk h.1]; simp only [Option.bind_some]
  rw [if_neg (by simp), eqIntS_eq (by have := h.2.1; omega) (by have := h.2.1; omega)]; simp only [Option.bind_some]
  rw [if_neg (by simp), eqTermSS_eq hk h.2.2.1 h.2.2.2]; simp only [Option.bind_some]
  rw [if_neg (by simp)]
theorem toRuleS_eq {k : Nat} {p : List RU} (hk : 1048576 < k) (hp : p.length ≤ 1048576) (hx : ∀ x ∈ p, SmR x) : laws_toRuleS.f k p = some (p, ()) := by
  rw [laws_toRuleS.s]
  rw [gd_t (by omega), gd_t (by omega)]
  refine to_all (fun n v j hj hv => ?_) (fun n v => ?_) (by omega) (by simp)
  · simp only [laws_toRuleS.s3, toNat_nat, w64_nat (j := j) (by omega), getD_get hj]
    rw [if_pos (by simp; omega), gd_t (by omega), gd_t (by omega), toRule_eq hk (hx _ (List.getElem_mem hj))]
    simp only [Option.bind_some]
    rw [gd_t (by omega), gd_t (by omega)]
  · simp only [laws_toRuleS.s3]
    rw [if_neg (by simp)]
theorem eqRuleS_eq {k : Nat} {p : List RU} (hk : 1048576 < k) (hp : p.length ≤ 1048576) (hx : ∀ x ∈ p, SmR x) : laws_eqRuleS.f k p p = some (true, ()) := by
  rw [laws_eqRuleS.s]
  rw [if_neg (by simp)]
  refine eq_loop (m := p.length) (fun n j hj => ?_) (fun n => ?_) p.length k 0 (by omega) (by omega)
  · simp only [laws_eqRuleS.s4, toNat_nat, w64_nat (j := j) (by omega), getD_get hj]
    rw [if_pos (by simp; omega), gd_t (by omega), gd_t (by omega), gd_t (by omega), gd_t (by omega), eqRule_eq hk (hx _ (List.getElem_mem hj))]
    simp only [Option.bind_some]
    rw [if_neg (by simp)]
  · simp only [laws_eqRuleS.s4]
    rw [if_neg (by simp)]
theorem toSystem_eq {k : Nat} {s : SY} (hk : 1048576 < k) (h : SmS s) : laws_toSystem.f k s = some (s, ()) := by
  rw [laws_toSystem.s]
  rw [toVarS_eq hk h.1]; simp only [Option.bind_some]
  rw [toRuleS_eq hk h.2.1 h.2.2]; rfl
theorem eqSystem_eq {k : Nat} {s : SY} (hk : 1048576 < k) (h : SmS s) : laws_eqSystem.f k s s = some (true, ()) := by
  rw [laws_eqSystem.s]
  rw [eqVarS_eq hk h.1]; simp only [Option.bind_some]
  rw [if_neg (by simp), eqRuleS_eq hk h.2.1 h.2.2]; simp only [Option.bind_some]
  rw [if_neg (by simp)]
theorem toBlocks_eq {k : Nat} {p : List Int} (hk : 1048576 < k) (h : p.length ≤ 1048576) : laws_toBlocks.f k p = some (p, ()) := by
  rw [laws_toBlocks.s]
  rw [toIntS_eq (by omega) (by omega)]; rfl
theorem eqBlocks_eq {k : Nat} {p : List Int} (hk : 1048576 < k) (h : p.length ≤ 1048576) : laws_eqBlocks.f k p p = some (true, ()) := by
  rw [laws_eqBlocks.s]
  rw [eqIntS_eq (by omega) (by omega)]; simp only [Option.bind_some]
  rw [if_neg (by simp)]
end Go.Ev
