/- Plain mathematics on what the functions compute. -/
import Derived.Test.YtgjonkokphlfkaaPJ
set_option linter.unusedVariables false
set_option linter.unusedSimpArgs false
namespace Go.Ev

/-! ### systems -/
theorem IndexFuncVar_l (k : Nat) (p : List VA) (f : VA → Option Bool) (b : VA → Bool) (hf : ∀ x ∈ p, f x = some (b x)) (hp : p.length < 4611686018427387904) : ∀ (d n j : Nat), j + d = p.length → d < n →
    ∃ r, slices_IndexFunc_impl_Var_impl_Var.l2 k p f n (j : Int) = some (r, ()) ∧ (0 ≤ r ↔ (p.drop j).any b = true)
  | 0, n + 1, j, hd, hn => by
    simp only [slices_IndexFunc_impl_Var_impl_Var.s2]
    rw [if_neg (by simp; omega), List.drop_eq_nil_of_le (by omega)]
    exact ⟨-1, rfl, by simp⟩
  | d + 1, n + 1, j, hd, hn => by
    have hj : j < p.length := by omega
    simp only [slices_IndexFunc_impl_Var_impl_Var.s2, toNat_nat, w64_nat (j := j) (by omega), getD_get hj]
    rw [if_pos (by simp; omega), gd_t (by omega), gd_t (by omega), hf _ (List.getElem_mem hj), drop_get hj]
    simp only [Option.bind_some, List.any_cons]
    cases hb : b p[j]
    · obtain ⟨r, e, hr⟩ := IndexFuncVar_l k p f b hf hp d n (j + 1) (by omega) (by omega)
      exact ⟨r, e, by simpa using hr⟩
    · exact ⟨j, rfl, by simp⟩
theorem ContainsFuncVar_eq {k : Nat} {p : List VA} {f : VA → Option Bool} {b : VA → Bool} (hf : ∀ x ∈ p, f x = some (b x)) (hp : p.length < 4611686018427387904) (hk : p.length < k) :
    slices_ContainsFunc_impl_Var_impl_Var.f k p f = some (p.any b, ()) := by
  obtain ⟨r, e, hr⟩ := IndexFuncVar_l k p f b hf hp p.length k 0 (by omega) hk
  rw [slices_ContainsFunc_impl_Var_impl_Var.s, slices_IndexFunc_impl_Var_impl_Var.s]
  have e : slices_IndexFunc_impl_Var_impl_Var.l2 k p f k 0 = some (r, ()) := e
  rw [e]
  simp only [Option.bind_some]
  rw [List.drop_zero] at hr
  cases h : p.any b
  · rw [decide_eq_false (fun h0 => by rw [hr.1 h0] at h; cases h)]
  · rw [decide_eq_true (hr.2 h)]
theorem IndexFuncRule_l (k : Nat) (p : List RU) (f : RU → Option Bool) (b : RU → Bool) (hf : ∀ x ∈ p, f x = some (b x)) (hp : p.length < 4611686018427387904) : ∀ (d n j : Nat), j + d = p.length → d < n →
    ∃ r, slices_IndexFunc_impl_Rule_impl_Rule.l2 k p f n (j : Int) = some (r, ()) ∧ (0 ≤ r ↔ (p.drop j).any b = true)
  | 0, n + 1, j, hd, hn => by
    simp only [slices_IndexFunc_impl_Rule_impl_Rule.s2]
    rw [if_neg (by simp; omega), List.drop_eq_nil_of_le (by omega)]
    exact ⟨-1, rfl, by simp⟩
  | d + 1, n + 1, j, hd, hn => by
    have hj : j < p.length := by omega
    simp only [slices_IndexFunc_impl_Rule_impl_Rule.s2, toNat_nat, w64_nat (j := j) (by omega), getD_get hj]
    rw [if_pos (by simp; omega), gd_t (by omega), gd_t (by omega), hf _ (List.getElem_mem hj), drop_get hj]
    simp only [Option.bind_some, List.any_cons]
    cases hb : b p[j]
    · obtain ⟨r, e, hr⟩ := IndexFuncRule_l k p f b hf hp d n (j + 1) (by omega) (by omega)
      exact ⟨r, e, by simpa using hr⟩
    · exact ⟨j, rfl, by simp⟩
theorem ContainsFuncRule_eq {k : Nat} {p : List RU} {f : RU → Option Bool} {b : RU → Bool} (hf : ∀ x ∈ p, f x = some (b x)) (hp : p.length < 4611686018427387904) (hk : p.length < k) :
    slices_ContainsFunc_impl_Rule_impl_Rule.f k p f = some (p.any b, ()) := by
  obtain ⟨r, e, hr⟩ := IndexFuncRule_l k p f b hf hp p.length k 0 (by omega) hk
  rw [slices_ContainsFunc_impl_Rule_impl_Rule.s, slices_IndexFunc_impl_Rule_impl_Rule.s]
  have e : slices_IndexFunc_impl_Rule_impl_Rule.l2 k p f k 0 = some (r, ()) := e
  rw [e]
  simp only [Option.bind_some]
  rw [List.drop_zero] at hr
  cases h : p.any b
  · rw [decide_eq_false (fun h0 => by rw [hr.1 h0] at h; cases h)]
  · rw [decide_eq_true (hr.2 h)]

theorem l2Var_tot (k : Nat) (v : VA) : ∃ b, spec_l2Var.f k v = some (b, ()) ∧ impl_varOk.f k v = some (b, ()) ∧ (b = true → v.1 ≤ v.2.1 ∧ -9999 ≤ v.1 ∧ v.2.1 ≤ 9999 ∧ v.2.1 - v.1 < 20) := by
  rw [spec_l2Var.s, impl_varOk.s]
  simp only [spec_in_eq, impl_in_eq, Option.bind_some]
  by_cases h1 : -9999 ≤ v.1 ∧ v.1 ≤ 9999
  · by_cases h2 : v.1 ≤ v.2.1 ∧ v.2.1 ≤ 9999
    · have ew : w64 (v.2.1 - v.1) = v.2.1 - v.1 := w64_id (by omega) (by omega)
      rw [ew]
      by_cases h3 : v.2.1 - v.1 < 20
      · simp only [decide_eq_true h1, decide_eq_true h2, decide_eq_true h3, if_true]
        exact ⟨_, rfl, rfl, fun _ => ⟨h2.1, h1.1, h2.2, h3⟩⟩
      · simp only [decide_eq_true h1, decide_eq_true h2, decide_eq_false h3, if_true]
        exact ⟨false, rfl, rfl, fun h => by cases h⟩
    · simp only [decide_eq_true h1, decide_eq_false h2, if_true]
      exact ⟨false, rfl, rfl, fun h => by cases h⟩
  · simp only [decide_eq_false h1]
    exact ⟨false, rfl, rfl, fun h => by cases h⟩
noncomputable def bV (k : Nat) (v : VA) : Bool := ((spec_l2Var.f k v).map (·.1)).getD false
noncomputable def bR (k : Nat) (vars : Int) (r : RU) : Bool := ((spec_l2Rule.f k r vars).map (·.1)).getD false
theorem bV_spec (k : Nat) (v : VA) : spec_l2Var.f k v = some (bV k v, ()) ∧ impl_varOk.f k v = some (bV k v, ()) ∧ (bV k v = true → v.1 ≤ v.2.1 ∧ -9999 ≤ v.1 ∧ v.2.1 ≤ 9999 ∧ v.2.1 - v.1 < 20) := by
  obtain ⟨b, h1, h2, h3⟩ := l2Var_tot k v
  have : bV k v = b := by unfold bV; rw [h1]; rfl
  rw [this]; exact ⟨h1, h2, h3⟩
theorem bR_spec {k : Nat} (hk : 1048576 < k) {r : RU} {vars : Int} (hv : 0 ≤ vars ∧ vars ≤ 1000) (hb : BigR r) (hs : SmR r) : spec_l2Rule.f k r vars = some (bR k vars r, ()) ∧ impl_ruleOk.f k r vars = some (bR k vars r, ()) := by
  obtain ⟨b, h1, h2⟩ := rule_eq hk r vars hv hb hs
  have : bR k vars r = b := by unfold bR; rw [h1]; rfl
  rw [this]; exact ⟨h1, h2⟩

theorem size_tot (k : Nat) (p : List VA) (hp : p.length < 4611686018427387904) : ∀ (d n j : Nat) (acc : Int), j + d = p.length → d < n → ∃ z, impl_size.l3 k p n acc (j : Int) = some (z, ())
  | 0, n + 1, j, acc, hd, hn => by
    simp only [impl_size.s3]
    rw [if_neg (by simp; omega)]
    exact ⟨_, rfl⟩
  | d + 1, n + 1, j, acc, hd, hn => by
    simp only [impl_size.s3, w64_nat (j := j) (by omega)]
    rw [if_pos (by simp; omega), gd_t (by omega), gd_t (by omega)]
    exact size_tot k p hp d n (j + 1) _ (by omega) (by omega)
theorem sizeOf_l (k : Nat) (s : SY) (hp : s.1.length < 4611686018427387904) : ∀ (n j : Nat) (acc : Int), spec_SizeOf.l5 k s n acc (j : Int) = impl_size.l3 k s.1 n acc (j : Int)
  | 0, j, acc => by rw [spec_SizeOf.z5, impl_size.z3]
  | n + 1, j, acc => by
    simp only [spec_SizeOf.s5, impl_size.s3]
    by_cases h : j < s.1.length
    · have d1 : decide ((j : Int) < (s.1.length : Int)) = true := decide_eq_true (by omega)
      simp only [d1, if_true, w64_nat (j := j) (by omega)]
      rw [gd_t (by omega), gd_t (by omega), gd_t (by omega), gd_t (by omega), gd_t (by omega), gd_t (by omega)]
      exact sizeOf_l k s hp n (j + 1) _
    · have d1 : decide ((j : Int) < (s.1.length : Int)) = false := decide_eq_false (by omega)
      simp only [d1]
      rfl

theorem sysV_l (k : Nat) (s : SY) (hp : s.1.length ≤ 5) : ∀ (d n n' j : Nat) (acc z : Int), j + d = s.1.length → d < n → d < n' → impl_size.l3 k s.1 n' acc (j : Int) = some (z, ()) →
    spec_SystemValid.l5 k s n acc (j : Int) = (if (s.1.drop j).all (bV k) = true then spec_SystemValid.l11 k s z k 0 else some (false, ())) ∧ ((s.1.drop j).all (bV k) = true → 1 ≤ acc → acc ≤ 20 ^ j → 1 ≤ z)
  | 0, n + 1, n' + 1, j, acc, z, hd, hn, hn', hz => by
    simp only [impl_size.s3] at hz
    rw [if_neg (by simp; omega)] at hz
    injection hz with hz
    injection hz with hz
    subst hz
    simp only [spec_SystemValid.s5]
    rw [if_neg (by simp; omega), List.drop_eq_nil_of_le (by omega)]
    exact ⟨by simp, fun _ h _ => h⟩
  | d + 1, n + 1, n' + 1, j, acc, z, hd, hn, hn', hz => by
    have hj : j < s.1.length := by omega
    simp only [impl_size.s3, toNat_nat, w64_nat (j := j) (by omega), getD_get hj] at hz
    rw [if_pos (by simp; omega), gd_t (by omega), gd_t (by omega)] at hz
    obtain ⟨i1, i2⟩ := sysV_l k s hp d n n' (j + 1) _ z (by omega) (by omega) (by omega) hz
    obtain ⟨v1, _, v3⟩ := bV_spec k s.1[j]
    simp only [spec_SystemValid.s5, toNat_nat, w64_nat (j := j) (by omega), getD_get hj]
    rw [if_pos (by simp; omega), gd_t (by omega), gd_t (by omega), v1, drop_get hj]
    simp only [Option.bind_some, List.all_cons]
    by_cases hb : bV k s.1[j] = true
    · simp only [hb, Bool.not_true, Bool.true_and]
      rw [if_neg (by simp), gd_t (by omega), gd_t (by omega), gd_t (by omega), gd_t (by omega), i1]
      refine ⟨rfl, fun hall h1 h2 => ?_⟩
      obtain ⟨w1, w2, w3, w4⟩ := v3 hb
      have f1 : w64 (s.1[j].2.1 - s.1[j].1) = s.1[j].2.1 - s.1[j].1 := w64_id (by omega) (by omega)
      have f2 : w64 (s.1[j].2.1 - s.1[j].1 + 1) = s.1[j].2.1 - s.1[j].1 + 1 := w64_id (by omega) (by omega)
      have hpow : (20 : Int) ^ j ≤ 160000 := by
        have : j = 0 ∨ j = 1 ∨ j = 2 ∨ j = 3 ∨ j = 4 := by omega
        rcases this with h | h | h | h | h <;> subst h <;> decide
      have m1 : acc * (s.1[j].2.1 - s.1[j].1 + 1) ≤ 20 ^ j * 20 := Int.mul_le_mul h2 (by omega) (by omega) (by omega)
      have m0 : 1 * 1 ≤ acc * (s.1[j].2.1 - s.1[j].1 + 1) := Int.mul_le_mul h1 (by omega) (by decide) (by omega)
      have f3 : w64 (acc * (s.1[j].2.1 - s.1[j].1 + 1)) = acc * (s.1[j].2.1 - s.1[j].1 + 1) := w64_id (by omega) (by omega)
      refine i2 hall ?_ ?_
      · rw [f1, f2, f3]; omega
      · rw [f1, f2, f3, Int.pow_succ]; exact m1
    · have hb : bV k s.1[j] = false := by simpa using hb
      simp [hb]
theorem sysR_l {k : Nat} (hk : 1048576 < k) (s : SY) (z : Int) (hv : s.1.length ≤ 5) (hb : BigS s) (hs : SmS s) : ∀ (d n j : Nat), j + d = s.2.length → d < n →
    spec_SystemValid.l11 k s z n (j : Int) = some ((s.2.drop j).all (bR k (s.1.length : Int)) && decide (z ≤ 400), ())
  | 0, n + 1, j, hd, hn => by
    simp only [spec_SystemValid.s11]
    rw [if_neg (by simp; omega), List.drop_eq_nil_of_le (by omega)]
    simp
  | d + 1, n + 1, j, hd, hn => by
    have hj : j < s.2.length := by omega
    have hlb := hs.2.1
    simp only [spec_SystemValid.s11, toNat_nat, w64_nat (j := j) (by omega), getD_get hj]
    rw [if_pos (by simp; omega), gd_t (by omega), gd_t (by omega), (bR_spec hk (by omega) (hb.2.2 _ (List.getElem_mem hj)) (hs.2.2 _ (List.getElem_mem hj))).1, drop_get hj]
    simp only [Option.bind_some, List.all_cons]
    cases hbr : bR k (s.1.length : Int) s.2[j]
    · simp
    · rw [sysR_l hk s z hv hb hs d n (j + 1) (by omega) (by omega)]
      simp
/-- Both find the same systems valid, and of the same size. -/
theorem sys_eq {k : Nat} (hk : 1048576 < k) (s : SY) (hb : BigS s) (hs : SmS s) : ∃ V z, spec_SystemValid.f k s = some (V, ()) ∧ impl_SystemValid.f k s = some (V, ()) ∧ impl_size.f k s.1 = some (z, ()) ∧ (V = true → 1 ≤ z) ∧
    spec_SizeOf.f k s = some (if V = true then z else 0, ()) := by
  have hsl := hs.1
  have hrl := hs.2.1
  obtain ⟨z, hz⟩ := size_tot k s.1 (by omega) s.1.length k 0 1 (by omega) (by omega)
  have hz : impl_size.l3 k s.1 k 1 0 = some (z, ()) := hz
  have hsz : impl_size.f k s.1 = some (z, ()) := by rw [impl_size.s]; exact hz
  have hof : spec_SizeOf.l5 k s k 1 0 = some (z, ()) := (sizeOf_l k s (by omega) k 0 1).trans hz
  have main : ∃ V, spec_SystemValid.f k s = some (V, ()) ∧ impl_SystemValid.f k s = some (V, ()) ∧ (V = true → 1 ≤ z) := by
    rw [spec_SystemValid.s, impl_SystemValid.s]
    simp only [spec_in_eq, impl_in_eq, Option.bind_some]
    by_cases h1 : 1 ≤ (s.1.length : Int) ∧ (s.1.length : Int) ≤ 5
    · by_cases h2 : (s.2.length : Int) > 8
      · simp only [decide_eq_true h1, decide_eq_true h2]
        exact ⟨false, rfl, rfl, fun h => by cases h⟩
      · simp only [decide_eq_true h1, decide_eq_false h2]
        have h5 : s.1.length ≤ 5 := by omega
        obtain ⟨v1, v2⟩ := sysV_l k s h5 s.1.length k k 0 1 z (by omega) (by omega) (by omega) hz
        have v1 : spec_SystemValid.l5 k s k 1 0 = _ := v1
        have hr := sysR_l hk s z h5 hb hs s.2.length k 0 (by omega) (by omega)
        have hr : spec_SystemValid.l11 k s z k 0 = _ := hr
        rw [List.drop_zero] at v1 v2 hr
        have cv := ContainsFuncVar_eq (k := k) (p := s.1) (f := fun p => (impl_SystemValid_1.f k p).bind fun r => some r.1) (b := fun v => !bV k v) (fun v _ => by
          rw [impl_SystemValid_1.s]
          rw [(bV_spec k v).2.1]; rfl) (by omega) (by omega)
        have cr := ContainsFuncRule_eq (k := k) (p := s.2) (f := fun p => (impl_SystemValid_2.f k p s).bind fun r => some r.1) (b := fun r => !bR k (s.1.length : Int) r) (fun r hm => by
          rw [impl_SystemValid_2.s]
          rw [(bR_spec hk (by omega) (hb.2.2 r hm) (hs.2.2 r hm)).2]; rfl) (by omega) (by omega)
        have av : (s.1.any fun v => !bV k v) = !s.1.all (bV k) := by rw [List.not_all_eq_any_not]
        have ar : (s.2.any fun r => !bR k (s.1.length : Int) r) = !s.2.all (bR k (s.1.length : Int)) := by rw [List.not_all_eq_any_not]
        rw [av] at cv
        rw [ar] at cr
        rw [v1, hr, cv, cr, hsz]
        simp only [Option.bind_some]
        refine ⟨s.1.all (bV k) && (s.2.all (bR k (s.1.length : Int)) && decide (z ≤ 400)), ?_, ?_, fun hV => ?_⟩
        · cases s.1.all (bV k) <;> rfl
        · by_cases h4 : z ≤ 400
          · simp only [decide_eq_true h4, decide_eq_false (show ¬ z > 400 by omega)]
            cases s.1.all (bV k) <;> cases s.2.all (bR k (s.1.length : Int)) <;> rfl
          · simp only [decide_eq_false h4, decide_eq_true (show z > 400 by omega)]
            cases s.1.all (bV k) <;> cases s.2.all (bR k (s.1.length : Int)) <;> rfl
        · rw [Bool.and_eq_true] at hV
          exact v2 hV.1 (by omega) (by decide)
    · simp only [decide_eq_false h1]
      exact ⟨false, rfl, rfl, fun h => by cases h⟩
  obtain ⟨V, m1, m2, m3⟩ := main
  refine ⟨V, z, m1, m2, hsz, m3, ?_⟩
  rw [spec_SizeOf.s]
  rw [m1, hof]
  simp only [Option.bind_some]
  cases V <;> rfl
end Go.Ev
