/- Plain mathematics on what the functions compute. -/
import Derived.Test.YtgjonkokphlfkaaPK
import Derived.Test.YtgjonkokphlfkaaEv4
set_option linter.unusedVariables false
set_option linter.unusedSimpArgs false
namespace Go.Ev

/-! ### blocks -/
theorem blocks_l (k : Nat) (p : List Int) (hp : p.length < 4611686018427387904) : ∀ (d n n' j : Nat), j + d = p.length → d < n → d < n' →
    ∃ b, spec_BlocksValid.l4 k p n (j : Int) = some (b, ()) ∧ impl_blocksOk.l4 k p n' (j : Int) = some (b, ())
  | 0, n + 1, n' + 1, j, hd, hn, hn' => by
    refine ⟨true, ?_, ?_⟩
    · simp only [spec_BlocksValid.s4]
      rw [if_neg (by simp; omega)]
    · simp only [impl_blocksOk.s4]
      rw [if_neg (by simp; omega)]
  | d + 1, n + 1, n' + 1, j, hd, hn, hn' => by
    have hj : j < p.length := by omega
    obtain ⟨b, h1, h2⟩ := blocks_l k p hp d n n' (j + 1) (by omega) (by omega) (by omega)
    have d1 : decide ((j : Int) < (p.length : Int)) = true := decide_eq_true (by omega)
    have gA := fun (K : Option (Bool × Unit)) => gd_t (show (0 : Int) ≤ (j : Int) by omega) K
    have gB := fun (K : Option (Bool × Unit)) => gd_t (show (j : Int) < (p.length : Int) by omega) K
    simp only [spec_BlocksValid.s4, impl_blocksOk.s4, toNat_nat, w64_nat (j := j) (by omega), getD_get hj, h1, h2, spec_in_eq, impl_in_eq, Option.bind_some, d1, gA, gB, if_true]
    by_cases hin : 0 ≤ p[j] ∧ p[j] ≤ (j : Int)
    · have gC := fun (K : Option (Bool × Unit)) => gd_t hin.1 K
      have gD := fun (K : Option (Bool × Unit)) => gd_t (show p[j] < (p.length : Int) by omega) K
      simp only [decide_eq_true hin, gC, gD]
      by_cases he : p.getD p[j].toNat 0 = p[j]
      · exact ⟨b, by simp [he, -List.getD_eq_getElem?_getD], by simp [he, -List.getD_eq_getElem?_getD]⟩
      · exact ⟨false, by simp [he, -List.getD_eq_getElem?_getD], by simp [he, -List.getD_eq_getElem?_getD]⟩
    · simp only [decide_eq_false hin]
      exact ⟨false, rfl, rfl⟩
/-- Both find the same blocks valid. -/
theorem BlocksValid_eq {k : Nat} (hk : 1048576 < k) (s : SY) (p : List Int) (hb : BigS s) (hs : SmS s) (hp : p.length ≤ 1048576) : ∃ b, spec_BlocksValid.f k s p = some (b, ()) ∧ impl_BlocksValid.f k s p = some (b, ()) ∧ (b = true → 0 < p.length ∧ spec_SizeOf.f k s = some ((p.length : Int), ())) := by
  obtain ⟨V, z, m1, m2, m3, m4, m5⟩ := sys_eq hk s hb hs
  rw [spec_BlocksValid.s, impl_BlocksValid.s]
  rw [m5, m2]
  simp only [Option.bind_some]
  obtain ⟨b, h1, h2⟩ := blocks_l k p (by omega) p.length k k 0 (by omega) (by omega) (by omega)
  have h1 : spec_BlocksValid.l4 k p k 0 = some (b, ()) := h1
  have h2 : impl_blocksOk.l4 k p k 0 = some (b, ()) := h2
  rw [h1]
  cases V with
  | false =>
    refine ⟨false, ?_, rfl, fun h => by cases h⟩
    by_cases h0 : p.length = 0
    · simp [h0]
    · have : (p.length : Int) ≠ 0 := by omega
      simp only [Bool.false_eq_true, if_false]
      rw [if_pos (by simpa using this)]
  | true =>
    have hz := m4 rfl
    rw [impl_blocksOk.s]
    rw [m3, h2]
    simp only [Option.bind_some, if_true]
    by_cases hl : (p.length : Int) = z
    · have h0 : (p.length : Int) ≠ 0 := by omega
      refine ⟨b, ?_, ?_, fun _ => ⟨by omega, by rw [hl]⟩⟩
      · rw [if_neg (c := ((p.length : Int) != z) = true) (by simp [hl]), if_neg (c := ((p.length : Int) == 0) = true) (by simpa using h0)]
      · rw [if_neg (c := ((p.length : Int) != z) = true) (by simp [hl])]
        rfl
    · refine ⟨false, ?_, ?_, fun h => by cases h⟩
      · rw [if_pos (c := ((p.length : Int) != z) = true) (by simpa using hl)]
      · rw [if_pos (c := ((p.length : Int) != z) = true) (by simpa using hl)]
        rfl

abbrev sTMs : S := .slice false (.agg (.pair I (.pair I (.pair I I))))
abbrev sRU : S := .agg (.pair sTMs (.pair (.slice false I) (.slice false sTMs)))
abbrev sSY : S := .agg (.pair (.slice false (.agg (.pair I (.pair I I)))) (.slice false sRU))
theorem maxLen_eq : maxLen = 9223372036854775807 := by decide
theorem BigS_of {s : SY} (h : Wf sSY s) : BigS s := by
  have hm := maxLen_eq
  obtain ⟨⟨h1, _⟩, h2, h3⟩ := h
  refine ⟨by omega, by omega, fun r hr => ?_⟩
  obtain ⟨⟨a1, _⟩, ⟨a2, _⟩, a3, a4⟩ := h3 r hr
  exact ⟨by omega, by omega, by omega, fun x hx => by have := (a4 x hx).1; omega⟩
end Go.Ev
