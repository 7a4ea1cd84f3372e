/- Plain mathematics on what the functions compute. -/
import Derived.Test.YtgjonkokphlfkaaPO
set_option linter.unusedVariables false
set_option linter.unusedSimpArgs false
namespace Go.Ev
theorem splitOf_length (b : List Int) (m : List Bool) (h : m.length = b.length) : (splitOf b m).length = b.length := by
  unfold splitOf; rw [firsts_length, List.length_zip]; omega
theorem SplitBlocks_eq {k : Nat} (hk : 1048576 < k) (s : SY) (b p : List Int) (hb : BigS s) (hs : SmS s) (hbl : b.length ≤ 1048576) (hp : p.length ≤ 1048576) :
    ∃ r, spec_SplitBlocks.f k s b p = some (r, ()) ∧ impl_SplitBlocks.f k s b p = some (r, ()) ∧ r.1.length ≤ 1048576 := by
  obtain ⟨v, v1, v2, v3⟩ := BlocksValid_eq hk s b hb hs hbl
  rw [spec_SplitBlocks.s, impl_SplitBlocks.s, v1, v2]
  simp only [Option.bind_some]
  cases v with
  | false => exact ⟨([], false), rfl, rfl, by simp⟩
  | true =>
    obtain ⟨h0, hz⟩ := v3 rfl
    obtain ⟨c, c1, c2, c3⟩ := SetValid_eq s p (b.length : Int) (by omega) hz hp hk
    rw [c1, c2]
    simp only [Option.bind_some]
    cases c with
    | false => exact ⟨([], false), rfl, rfl, by simp⟩
    | true =>
      refine ⟨(splitOf b (marksOf p b.length), true), ?_, ?_, by rw [splitOf_length _ _ (marksOf_length _ _)]; exact hbl⟩
      · simp [specSplit_l b p hbl hp hk]
      · simp [marks_eq p b.length hbl hp hk (c3 rfl), splitBlocks_eq b _ (marksOf_length p b.length) hbl hk]
theorem FnExactSplitBlocks_pure {k : Nat} (hk : 1048576 < k) (s : SY) (b p : List Int) (hb : BigS s) (hbl : b.length < 9223372036854775808) (hp : p.length < 9223372036854775808) : laws_FnExactSplitBlocks.f k s b p = some (true, ()) := by
  rw [laws_FnExactSplitBlocks.s]
  by_cases hp1 : p.length ≤ 1048576
  · rw [if_neg (by simp; omega)]
    obtain ⟨r, e, hr⟩ := szSystem_ok hk hb 1048576 (by omega) (by omega)
    rw [e]; simp only [Option.bind_some]
    rcases hr with hr | ⟨h1, h2, hs⟩
    · rw [if_pos (by simpa using hr)]
    rw [if_neg (by simpa using h1)]
    obtain ⟨r2, e2, hr2⟩ := szBlocks_ok (k := k) hbl r h1 h2
    rw [e2]; simp only [Option.bind_some]
    rcases hr2 with hr | ⟨g1, g2, hpl⟩
    · rw [if_pos (by simpa using hr)]
    rw [if_neg (by simpa using g1)]
    obtain ⟨⟨x, y⟩, s1, s2, hx⟩ := SplitBlocks_eq hk s b p hb hs hpl hp1
    have hx : x.length ≤ 1048576 := hx
    obtain ⟨m1, q1, a1, a2, a3, -⟩ := markSystem_ok hk hs 1 (by omega) (by omega)
    obtain ⟨m2, q2, b1, b2, b3, -⟩ := markBlocks_ok hk hpl m1 (by omega) (by omega)
    obtain ⟨m3, q3, c1, c2, c3, -⟩ := markIntS_ok hk hp1 m2 (by omega) (by omega)
    obtain ⟨m4, q4, d1, d2, d3, d4, d5⟩ := markBlocks_ok hk hx 1 (by omega) (by omega)
    have ti : laws_toIntS.f k p = some (p, ()) := toIntS_eq (by omega) (by omega)
    have ei : laws_eqIntS.f k p p = some (true, ()) := by rw [eqIntS_eq (by omega) (by omega)]; simp
    have hh := heldBlocks_ok (k := k) (by omega) (by omega) (by omega) (by omega) d5
    simp only [toSystem_eq hk hs, toBlocks_eq hk hpl, ti, ei, Option.bind_some, s1, s2, eqSystem_eq hk hs, eqBlocks_eq hk hpl, eqBlocks_eq hk hx, a1, b1, c1, d1, hh]
    simp [show ¬ m3 < 0 by omega, show ¬ m4 < 0 by omega]
  · rw [if_pos (by simp; omega)]
theorem FnExactSplitBlocks_true (s : SY) (b p : List Int) (w0 : Wf sSY s) (w1 : Wf (.agg (.slice false I)) b) (w2 : Wf (.slice false I) p) : ∃ k, laws_FnExactSplitBlocks.f k s b p = some (true, ()) := by
  have hm := maxLen_eq
  exact ⟨1048577, FnExactSplitBlocks_pure (by omega) s b p (BigS_of w0) (by have := w1.1; omega) (by have := w2.1; omega)⟩
end Go.Ev
