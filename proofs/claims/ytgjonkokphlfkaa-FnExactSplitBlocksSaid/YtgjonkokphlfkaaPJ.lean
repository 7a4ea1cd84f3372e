/- Plain mathematics on what the functions compute. -/
import Derived.Test.YtgjonkokphlfkaaPI
set_option linter.unusedVariables false
set_option linter.unusedSimpArgs false
namespace Go.Ev

/-! ### rules -/
def RuleAt (r : RU) (vars : Int) (j : Nat) : Prop := ∀ i (h : i < r.2.1.length), j ≤ i → (0 ≤ r.2.1[i] ∧ r.2.1[i] ≤ vars - 1) ∧ (∀ h0 : 0 < i, r.2.1[i - 1]'(by omega) < r.2.1[i])
theorem rule_l {k : Nat} (hk : 1000 < k) (r : RU) (vars : Int) (hv : 0 ≤ vars ∧ vars ≤ 1000) (hl : r.2.1.length = r.2.2.length) (hb : BigR r) (hbl : r.2.1.length ≤ 1048576) : ∀ (d n n' j : Nat), j + d = r.2.1.length → d < n → d < n' →
    ∃ b, spec_l2Rule.l4 k r vars n (j : Int) = some (b, ()) ∧ impl_ruleOk.l4 k r vars n' (j : Int) = some (b, ()) ∧ (b = true → RuleAt r vars j)
  | 0, n + 1, n' + 1, j, hd, hn, hn' => by
    refine ⟨true, ?_, ?_, fun _ i h hi => by omega⟩
    · simp only [spec_l2Rule.s4]
      rw [if_neg (by simp; omega)]
    · simp only [impl_ruleOk.s4]
      rw [if_neg (by simp; omega)]
  | d + 1, n + 1, n' + 1, j, hd, hn, hn' => by
    have hj : j < r.2.1.length := by omega
    have hj2 : j < r.2.2.length := by omega
    have e1 : w64 (vars - 1) = vars - 1 := w64_id (by omega) (by omega)
    have e2 : 0 < j → w64 ((j : Int) - 1) = ((j - 1 : Nat) : Int) := fun h => by rw [w64_id (by omega) (by omega)]; omega
    obtain ⟨g, g1, g2⟩ := isKind_eq hk (r.2.2[j]) vars 1 (by omega) (hb.2.2.2 _ (List.getElem_mem hj2))
    obtain ⟨b, h1, h2, h3⟩ := rule_l hk r vars hv hl hb hbl d n n' (j + 1) (by omega) (by omega) (by omega)
    -- behind the tests of the numbers
    have fin : ∀ hin : (0 ≤ r.2.1[j] ∧ r.2.1[j] ≤ vars - 1), (∀ h0 : 0 < j, r.2.1[j - 1]'(by omega) < r.2.1[j]) → b = true → RuleAt r vars j := fun hin hlt hbt i h hi => by
      by_cases e : i = j
      · subst e; exact ⟨hin, hlt⟩
      · exact h3 hbt i h (by omega)
    have d1 : decide ((j : Int) < (r.2.1.length : Int)) = true := decide_eq_true (by omega)
    have gA := fun (K : Option (Bool × Unit)) => gd_t (show (0 : Int) ≤ (j : Int) by omega) K
    have gB := fun (K : Option (Bool × Unit)) => gd_t (show (j : Int) < (r.2.1.length : Int) by omega) K
    have gC := fun (K : Option (Bool × Unit)) => gd_t (show (j : Int) < (r.2.2.length : Int) by omega) K
    simp only [spec_l2Rule.s4, impl_ruleOk.s4, toNat_nat, w64_nat (j := j) (by omega), getD_get hj, getD_get hj2, h1, h2, spec_in_eq, impl_in_eq, e1, Option.bind_some, g1, g2, d1, gA, gB, gC, if_true, ite_true]
    by_cases hin : 0 ≤ r.2.1[j] ∧ r.2.1[j] ≤ vars - 1
    · have c1 : decide (0 ≤ r.2.1[j] ∧ r.2.1[j] ≤ vars - 1) = true := decide_eq_true hin
      by_cases h0 : 0 < j
      · have hj1 : j - 1 < r.2.1.length := by omega
        have c2 : decide ((j : Int) > 0) = true := decide_eq_true (by omega)
        have gD := fun (K : Option (Bool × Unit)) => gd_t (show (0 : Int) ≤ ((j - 1 : Nat) : Int) by omega) K
        have gE := fun (K : Option (Bool × Unit)) => gd_t (show ((j - 1 : Nat) : Int) < (r.2.1.length : Int) by omega) K
        simp only [e2 h0, toNat_nat, getD_get hj1, gD, gE]
        by_cases hlt : r.2.1[j - 1] < r.2.1[j]
        · have c3 : decide (r.2.1[j] ≤ r.2.1[j - 1]) = false := decide_eq_false (by omega)
          have c4 : decide (r.2.1[j - 1] ≥ r.2.1[j]) = false := decide_eq_false (by omega)
          simp only [c1, c2, c3, c4]
          by_cases hg : g = 1
          · subst hg
            exact ⟨b, rfl, rfl, fin hin (fun _ => hlt)⟩
          · exact ⟨false, by simp [hg], by simp [hg], fun h => by cases h⟩
        · have c3 : decide (r.2.1[j] ≤ r.2.1[j - 1]) = true := decide_eq_true (by omega)
          have c4 : decide (r.2.1[j - 1] ≥ r.2.1[j]) = true := decide_eq_true (by omega)
          simp only [c1, c2, c3, c4]
          exact ⟨false, rfl, rfl, fun h => by cases h⟩
      · have c2 : decide ((j : Int) > 0) = false := decide_eq_false (by omega)
        simp only [c1, c2]
        by_cases hg : g = 1
        · subst hg
          exact ⟨b, rfl, rfl, fin hin (fun h => absurd h h0)⟩
        · exact ⟨false, by simp [hg], by simp [hg], fun h => by cases h⟩
    · have c1 : decide (0 ≤ r.2.1[j] ∧ r.2.1[j] ≤ vars - 1) = false := decide_eq_false hin
      simp only [c1]
      exact ⟨false, rfl, rfl, fun h => by cases h⟩
theorem RuleAt.few {r : RU} {vars : Int} (h : RuleAt r vars 0) (hv : 0 ≤ vars) : (r.2.1.length : Int) ≤ vars := by
  have key : ∀ i (hi : i < r.2.1.length), (i : Int) ≤ r.2.1[i] := by
    intro i
    induction i with
    | zero => intro hi; have := (h 0 hi (Nat.le_refl _)).1.1; omega
    | succ i ih =>
      intro hi
      have h1 := ih (by omega)
      have h2 := (h (i + 1) hi (by omega)).2 (by omega)
      have h2 : r.2.1[i] < r.2.1[i + 1] := h2
      omega
  by_cases h0 : r.2.1.length = 0
  · omega
  · have h1 := key (r.2.1.length - 1) (by omega)
    have h2 := (h (r.2.1.length - 1) (by omega) (by omega)).1.2
    omega
theorem rule_eq {k : Nat} (hk : 1048576 < k) (r : RU) (vars : Int) (hv : 0 ≤ vars ∧ vars ≤ 1000) (hb : BigR r) (hs : SmR r) : ∃ b, spec_l2Rule.f k r vars = some (b, ()) ∧ impl_ruleOk.f k r vars = some (b, ()) := by
  rw [spec_l2Rule.s, impl_ruleOk.s]
  obtain ⟨g, g1, g2⟩ := isKind_eq (k := k) (by omega) r.1 vars 2 (by omega) hb.1
  rw [g1, g2]
  simp only [Option.bind_some]
  by_cases hg : g = 2
  · rw [if_neg (c := (!g == 2) = true) (by simp [hg]), if_neg (c := (g != 2) = true) (by simp [hg])]
    by_cases hl : r.2.1.length = r.2.2.length
    · rw [if_neg (c := ((r.2.1.length : Int) != (r.2.2.length : Int)) = true) (by simp [hl]), if_neg (c := ((r.2.1.length : Int) != (r.2.2.length : Int)) = true) (by simp [hl])]
      obtain ⟨b, h1, h2, h3⟩ := rule_l (k := k) (by omega) r vars hv hl hb hs.2.1 r.2.1.length k k 0 (by omega) (by have := hs.2.1; omega) (by have := hs.2.1; omega)
      have h1 : spec_l2Rule.l4 k r vars k 0 = some (b, ()) := h1
      have h2 : impl_ruleOk.l4 k r vars k 0 = some (b, ()) := h2
      rw [h1, h2]
      by_cases hf : (r.2.1.length : Int) > vars
      · rw [if_pos (by simpa using hf)]
        cases b with
        | false => exact ⟨false, rfl, rfl⟩
        | true => have := (h3 rfl).few hv.1; omega
      · rw [if_neg (by simpa using hf)]
        exact ⟨b, rfl, rfl⟩
    · have : (r.2.1.length : Int) ≠ (r.2.2.length : Int) := by omega
      rw [if_pos (c := ((r.2.1.length : Int) != (r.2.2.length : Int)) = true) (by simpa using this), if_pos (c := ((r.2.1.length : Int) != (r.2.2.length : Int)) = true) (by simpa using this)]
      exact ⟨false, rfl, rfl⟩
  · rw [if_pos (c := (!g == 2) = true) (by simp [hg]), if_pos (c := (g != 2) = true) (by simp [hg])]
    exact ⟨false, rfl, rfl⟩
end Go.Ev
