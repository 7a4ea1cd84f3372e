/- Plain mathematics on what the functions compute. -/
import Derived.Test.YtgjonkokphlfkaaPB
set_option linter.unusedVariables false
set_option linter.unusedSimpArgs false
namespace Go.Ev

/-! ### loops of a kind -/
/-- A loop that copies element by element. -/
theorem to_loop {α : Type} {l : Nat → List α → Int → Option (List α × Unit)} {p : List α}
    (h : ∀ n (v : List α) (j : Nat) (hj : j < p.length), v.length = p.length → l (n + 1) v (j : Int) = l n (v.set j p[j]) ((j + 1 : Nat) : Int))
    (h0 : ∀ n (v : List α), l (n + 1) v (p.length : Int) = some (v, ())) : ∀ (d n j : Nat) (v : List α), j + d = p.length → d < n → v.length = p.length → l n v (j : Int) = some (v.take j ++ p.drop j, ())
  | 0, n + 1, j, v, hd, hn, hv => by
    have : j = p.length := by omega
    subst this
    rw [h0, List.drop_eq_nil_of_le (Nat.le_refl _), List.append_nil, List.take_of_length_le (by omega)]
  | d + 1, n + 1, j, v, hd, hn, hv => by
    have hj : j < p.length := by omega
    rw [h n v j hj hv, to_loop h h0 d n (j + 1) _ (by omega) (by omega) (by simp [hv]), take_set (by omega), drop_get hj, List.append_assoc]
    rfl
theorem to_all {α : Type} {l : Nat → List α → Int → Option (List α × Unit)} {p : List α}
    (h : ∀ n (v : List α) (j : Nat) (hj : j < p.length), v.length = p.length → l (n + 1) v (j : Int) = l n (v.set j p[j]) ((j + 1 : Nat) : Int))
    (h0 : ∀ n (v : List α), l (n + 1) v (p.length : Int) = some (v, ())) {k : Nat} {v : List α} (hk : p.length < k) (hv : v.length = p.length) : l k v 0 = some (p, ()) := by
  have := to_loop h h0 p.length k 0 v (by omega) hk hv
  simpa using this

/-- A loop that finds all alike. -/
theorem eq_loop {l : Nat → Int → Option (Bool × Unit)} {m : Nat}
    (h : ∀ n (j : Nat), j < m → l (n + 1) (j : Int) = l n ((j + 1 : Nat) : Int))
    (h0 : ∀ n, l (n + 1) (m : Int) = some (true, ())) : ∀ (d n j : Nat), j + d = m → d < n → l n (j : Int) = some (true, ())
  | 0, n + 1, j, hd, hn => by
    have : j = m := by omega
    subst this
    exact h0 n
  | d + 1, n + 1, j, hd, hn => by
    rw [h n j (by omega)]
    exact eq_loop h h0 d n (j + 1) (by omega) (by omega)

/-- A loop that adds sizes up. -/
theorem sz_loop {α : Type} {l : Nat → Int → Int → Option (Int × Unit)} {p : List α} {Q : α → Prop}
    (h : ∀ n (left : Int) (j : Nat) (hj : j < p.length), 0 ≤ left → left ≤ 1048576 → l (n + 1) left (j : Int) = some (-1, ()) ∨ ∃ r, 0 ≤ r ∧ r ≤ left ∧ Q p[j] ∧ l (n + 1) left (j : Int) = l n r ((j + 1 : Nat) : Int))
    (h0 : ∀ n (left : Int), l (n + 1) left (p.length : Int) = some (left, ())) : ∀ (d n j : Nat) (left : Int), j + d = p.length → d < n → 0 ≤ left → left ≤ 1048576 →
    ∃ r, l n left (j : Int) = some (r, ()) ∧ (r < 0 ∨ (0 ≤ r ∧ r ≤ left ∧ ∀ i (hi : i < p.length), j ≤ i → Q p[i]))
  | 0, n + 1, j, left, hd, hn, hl0, hl1 => by
    have : j = p.length := by omega
    subst this
    exact ⟨left, h0 n left, .inr ⟨hl0, Int.le_refl _, fun i hi hj => by omega⟩⟩
  | d + 1, n + 1, j, left, hd, hn, hl0, hl1 => by
    have hj : j < p.length := by omega
    rcases h n left j hj hl0 hl1 with e | ⟨r, h1, h2, h3, e⟩
    · exact ⟨-1, e, .inl (by omega)⟩
    · obtain ⟨r', e', hr⟩ := sz_loop h h0 d n (j + 1) r (by omega) (by omega) h1 (by omega)
      refine ⟨r', e.trans e', hr.imp id fun ⟨g1, g2, g3⟩ => ⟨g1, by omega, fun i hi hji => ?_⟩⟩
      by_cases e : i = j
      · subst e; exact h3
      · exact g3 i hi (by omega)

/-! ### sizes -/
abbrev TM := Int × Int × Int × Int
abbrev VA := Int × Int × Int
abbrev RU := List TM × List Int × List (List TM)
abbrev SY := List VA × List RU
def MB : Nat := 1048576
/-- What sz tells of a value. -/
def SzOk {α : Type} (f : Int → Option (Int × Unit)) (p : α) (Q : α → Prop) : Prop := ∀ left : Int, 0 ≤ left → left ≤ 1048576 → ∃ r, f left = some (r, ()) ∧ (r < 0 ∨ (0 ≤ r ∧ r ≤ left ∧ Q p))

theorem sz_flat {α : Type} {p : List α} {f : Int → Option (Int × Unit)}
    (h : ∀ left, f left = if (decide (w64 (left - (p.length : Int)) < 0)) = true then some (-1, ()) else some (w64 (left - (p.length : Int)), ())) (hp : p.length < 9223372036854775808) : SzOk f p fun p => p.length ≤ 1048576 := by
  intro left h0 h1
  have e : w64 (left - (p.length : Int)) = left - (p.length : Int) := w64_id (by omega) (by omega)
  rw [h, e]
  by_cases hl : left - (p.length : Int) < 0
  · rw [if_pos (by simpa using hl)]
    exact ⟨-1, rfl, .inl (by omega)⟩
  · rw [if_neg (by simpa using hl)]
    exact ⟨_, rfl, .inr ⟨by omega, by omega, by omega⟩⟩
theorem szTermS_ok {k : Nat} {p : List TM} (hp : p.length < 9223372036854775808) : SzOk (laws_szTermS.f k p) p fun p => p.length ≤ 1048576 := sz_flat (fun left => by first | rw [laws_szTermS.s] | rw [laws_szIntS.s] | rw [laws_szVarS.s]) hp
theorem szIntS_ok {k : Nat} {p : List Int} (hp : p.length < 9223372036854775808) : SzOk (laws_szIntS.f k p) p fun p => p.length ≤ 1048576 := sz_flat (fun left => by first | rw [laws_szTermS.s] | rw [laws_szIntS.s] | rw [laws_szVarS.s]) hp
theorem szVarS_ok {k : Nat} {p : List VA} (hp : p.length < 9223372036854775808) : SzOk (laws_szVarS.f k p) p fun p => p.length ≤ 1048576 := sz_flat (fun left => by first | rw [laws_szTermS.s] | rw [laws_szIntS.s] | rw [laws_szVarS.s]) hp

/-- Terms, one list behind the other, that are not too long. -/
def SmTSS (p : List (List TM)) : Prop := p.length ≤ 1048576 ∧ ∀ x ∈ p, x.length ≤ 1048576
theorem szTermSS_ok {k : Nat} {p : List (List TM)} (hk : 1048576 < k) (hp : p.length < 9223372036854775808) (hx : ∀ x ∈ p, x.length < 9223372036854775808) : SzOk (laws_szTermSS.f k p) p SmTSS := by
  intro left h0 h1
  have e : w64 (left - (p.length : Int)) = left - (p.length : Int) := w64_id (by omega) (by omega)
  rw [laws_szTermSS.s]
  rw [e]
  by_cases hl : left - (p.length : Int) < 0
  · rw [if_pos (by simpa using hl)]
    exact ⟨-1, rfl, .inl (by omega)⟩
  · rw [if_neg (by simpa using hl)]
    obtain ⟨r, e, hr⟩ := sz_loop (l := laws_szTermSS.l5 k p) (p := p) (Q := fun x => x.length ≤ 1048576) (fun n left j hj g0 g1 => by
      simp only [laws_szTermSS.s5, toNat_nat, w64_nat (j := j) (by omega), getD_get hj]
      rw [if_pos (by simp; omega), gd_t (by omega), gd_t (by omega)]
      obtain ⟨r, e, hr⟩ := szTermS_ok (k := k) (hx _ (List.getElem_mem hj)) left g0 g1
      rw [e]; simp only [Option.bind_some]
      rcases hr with hr | ⟨h1, h2, h3⟩
      · rw [if_pos (by simpa using hr)]; exact .inl rfl
      · rw [if_neg (by simpa using h1)]; exact .inr ⟨r, h1, h2, h3, rfl⟩) (fun n left => by
      simp only [laws_szTermSS.s5]
      rw [if_neg (by simp)]) p.length k 0 (left - (p.length : Int)) (by omega) (by omega) (by omega) (by omega)
    refine ⟨r, e, hr.imp id fun ⟨g1, g2, g3⟩ => ⟨g1, by omega, by omega, fun x hx => ?_⟩⟩
    obtain ⟨i, hi, rfl⟩ := List.mem_iff_getElem.1 hx
    exact g3 i hi (by omega)

def SmR (r : RU) : Prop := r.1.length ≤ 1048576 ∧ r.2.1.length ≤ 1048576 ∧ SmTSS r.2.2
/-- Lists as the memory may hold them. -/
def BigR (r : RU) : Prop := r.1.length < 9223372036854775808 ∧ r.2.1.length < 9223372036854775808 ∧ r.2.2.length < 9223372036854775808 ∧ ∀ x ∈ r.2.2, x.length < 9223372036854775808
theorem szRule_ok {k : Nat} {p : RU} (hk : 1048576 < k) (hp : BigR p) : SzOk (laws_szRule.f k p) p SmR := by
  intro left h0 h1
  rw [laws_szRule.s]
  obtain ⟨r1, e1, hr1⟩ := szTermS_ok (k := k) hp.1 left h0 h1
  rw [e1]; simp only [Option.bind_some]
  rcases hr1 with hr | ⟨a1, a2, a3⟩
  · rw [if_pos (by simpa using hr)]; exact ⟨-1, rfl, .inl (by omega)⟩
  rw [if_neg (by simpa using a1)]
  obtain ⟨r2, e2, hr2⟩ := szIntS_ok (k := k) hp.2.1 r1 a1 (by omega)
  rw [e2]; simp only [Option.bind_some]
  rcases hr2 with hr | ⟨b1, b2, b3⟩
  · rw [if_pos (by simpa using hr)]; exact ⟨-1, rfl, .inl (by omega)⟩
  rw [if_neg (by simpa using b1)]
  obtain ⟨r3, e3, hr3⟩ := szTermSS_ok (k := k) hk hp.2.2.1 hp.2.2.2 r2 b1 (by omega)
  rw [e3]; simp only [Option.bind_some]
  rcases hr3 with hr | ⟨c1, c2, c3⟩
  · rw [if_pos (by simpa using hr)]; exact ⟨-1, rfl, .inl (by omega)⟩
  rw [if_neg (by simpa using c1)]
  exact ⟨r3, rfl, .inr ⟨c1, by omega, a3, b3, c3⟩⟩
def SmRS (p : List RU) : Prop := p.length ≤ 1048576 ∧ ∀ x ∈ p, SmR x
theorem szRuleS_ok {k : Nat} {p : List RU} (hk : 1048576 < k) (hp : p.length < 9223372036854775808) (hx : ∀ x ∈ p, BigR x) : SzOk (laws_szRuleS.f k p) p SmRS := by
  intro left h0 h1
  have e : w64 (left - (p.length : Int)) = left - (p.length : Int) := w64_id (by omega) (by omega)
  rw [laws_szRuleS.s]
  rw [e]
  by_cases hl : left - (p.length : Int) < 0
  · rw [if_pos (by simpa using hl)]
    exact ⟨-1, rfl, .inl (by omega)⟩
  · rw [if_neg (by simpa using hl)]
    obtain ⟨r, e, hr⟩ := sz_loop (l := laws_szRuleS.l5 k p) (p := p) (Q := SmR) (fun n left j hj g0 g1 => by
      simp only [laws_szRuleS.s5, toNat_nat, w64_nat (j := j) (by omega), getD_get hj]
      rw [if_pos (by simp; omega), gd_t (by omega), gd_t (by omega)]
      obtain ⟨r, e, hr⟩ := szRule_ok (k := k) hk (hx _ (List.getElem_mem hj)) left g0 g1
      rw [e]; simp only [Option.bind_some]
      rcases hr with hr | ⟨h1, h2, h3⟩
      · rw [if_pos (by simpa using hr)]; exact .inl rfl
      · rw [if_neg (by simpa using h1)]; exact .inr ⟨r, h1, h2, h3, rfl⟩) (fun n left => by
      simp only [laws_szRuleS.s5]
      rw [if_neg (by simp)]) p.length k 0 (left - (p.length : Int)) (by omega) (by omega) (by omega) (by omega)
    refine ⟨r, e, hr.imp id fun ⟨g1, g2, g3⟩ => ⟨g1, by omega, by omega, fun x hx => ?_⟩⟩
    obtain ⟨i, hi, rfl⟩ := List.mem_iff_getElem.1 hx
    exact g3 i hi (by omega)
def SmS (s : SY) : Prop := s.1.length ≤ 1048576 ∧ SmRS s.2
def BigS (s : SY) : Prop := s.1.length < 9223372036854775808 ∧ s.2.length < 9223372036854775808 ∧ ∀ x ∈ s.2, BigR x
theorem szSystem_ok {k : Nat} {p : SY} (hk : 1048576 < k) (hp : BigS p) : SzOk (laws_szSystem.f k p) p SmS := by
  intro left h0 h1
  rw [laws_szSystem.s]
  obtain ⟨r1, e1, hr1⟩ := szVarS_ok (k := k) hp.1 left h0 h1
  rw [e1]; simp only [Option.bind_some]
  rcases hr1 with hr | ⟨a1, a2, a3⟩
  · rw [if_pos (by simpa using hr)]; exact ⟨-1, rfl, .inl (by omega)⟩
  rw [if_neg (by simpa using a1)]
  obtain ⟨r3, e3, hr3⟩ := szRuleS_ok (k := k) hk hp.2.1 hp.2.2 r1 a1 (by omega)
  rw [e3]; simp only [Option.bind_some]
  rcases hr3 with hr | ⟨c1, c2, c3⟩
  · rw [if_pos (by simpa using hr)]; exact ⟨-1, rfl, .inl (by omega)⟩
  rw [if_neg (by simpa using c1)]
  exact ⟨r3, rfl, .inr ⟨c1, by omega, a3, c3⟩⟩
end Go.Ev
