/- Plain mathematics on what the functions compute. -/
import Derived.Test.YtgjonkokphlfkaaPH
set_option linter.unusedVariables false
set_option linter.unusedSimpArgs false
namespace Go.Ev

/-! ### kinds of terms -/
def kind10 (op a b : Int) (ks : List Int) (q : Int) : Int :=
  if ks.getD a.toNat 0 ≠ q then 0 else if ks.getD b.toNat 0 ≠ q then 0 else if op = 7 ∧ b ≠ a then 0 else if 5 ≤ op then 2 else 1
def kind5 (op n a b : Int) (ks : List Int) : Int :=
  if ¬(2 ≤ op ∧ op ≤ 9) then 0 else if n ≠ 0 then 0 else if ¬(0 ≤ a ∧ a ≤ (ks.length : Int) - 1) then 0 else if ¬(0 ≤ b ∧ b ≤ (ks.length : Int) - 1) then 0 else
  if 7 ≤ op then kind10 op a b ks 2 else kind10 op a b ks 1
def kind3 (op n a b : Int) (ks : List Int) (vars : Int) : Int :=
  if op = 1 ∧ (0 ≤ n ∧ n ≤ vars - 1) ∧ a = 0 ∧ b = 0 then 1 else kind5 op n a b ks
def kind1 (t : TM) (ks : List Int) (vars : Int) : Int :=
  if t.1 = 0 ∧ (-9999 ≤ t.2.1 ∧ t.2.1 ≤ 9999) ∧ t.2.2.1 = 0 ∧ t.2.2.2 = 0 then 1 else kind3 t.1 t.2.1 t.2.2.1 t.2.2.2 ks vars

theorem l1Kind_eq {k : Nat} (hk : 0 < k) (t : TM) (ks : List Int) (vars : Int) (hks : ks.length ≤ 1000) (hv : 0 ≤ vars ∧ vars ≤ 1000) : spec_l1Kind.f k t ks vars = some (kind1 t ks vars, ()) := by
  obtain ⟨m, rfl⟩ : ∃ m, k = m + 1 := ⟨k - 1, by omega⟩
  obtain ⟨op, n, a, b⟩ := t
  have e1 : w64 ((ks.length : Int) - 1) = (ks.length : Int) - 1 := w64_id (by omega) (by omega)
  have e2 : w64 (vars - 1) = vars - 1 := w64_id (by omega) (by omega)
  have t10 : ∀ q : Int, (0 ≤ a ∧ a ≤ (ks.length : Int) - 1) → (0 ≤ b ∧ b ≤ (ks.length : Int) - 1) → spec_l1Kind.lj10 (m + 1) (op, n, a, b) ks (m + 1) q = some (kind10 op a b ks q, ()) := by
    intro q ha hb
    rw [spec_l1Kind.sj10]
    unfold kind10
    simp only [spec_l1One.s]
    have ha' : a < (ks.length : Int) := by omega
    have hb' : b < (ks.length : Int) := by omega
    simp only [gd_t ha.1, gd_t ha', gd_t hb.1, gd_t hb', Option.bind_some]
    generalize ks.getD a.toNat 0 = x
    generalize ks.getD b.toNat 0 = y
    by_cases h1 : x = q <;> by_cases h2 : y = q <;> by_cases h3 : op = 7 <;> by_cases h4 : b = a <;> by_cases h5 : 5 ≤ op <;> simp [h1, h2, h3, h4, h5] <;> omega
  have t5 : spec_l1Kind.lj5 (m + 1) (op, n, a, b) ks (m + 1) = some (kind5 op n a b ks, ()) := by
    rw [spec_l1Kind.sj5]
    unfold kind5
    dsimp only
    rw [spec_in_eq, e1]
    simp only [Option.bind_some]
    by_cases h1 : (2 ≤ op ∧ op ≤ 9)
    · rw [if_neg (c := (!decide (2 ≤ op ∧ op ≤ 9)) = true) (by simp [h1]), if_neg (c := ¬(2 ≤ op ∧ op ≤ 9)) (fun h => h h1)]
      by_cases h2 : n = 0
      · rw [if_neg (c := (n != 0) = true) (by simpa using h2), if_neg (c := n ≠ 0) (fun h => h h2), spec_in_eq]
        simp only [Option.bind_some]
        by_cases ha : (0 ≤ a ∧ a ≤ (ks.length : Int) - 1)
        · rw [if_neg (c := (!decide (0 ≤ a ∧ a ≤ (ks.length : Int) - 1)) = true) (by simp [ha]), if_neg (c := ¬(0 ≤ a ∧ a ≤ (ks.length : Int) - 1)) (fun h => h ha), spec_in_eq]
          simp only [Option.bind_some]
          by_cases hb : (0 ≤ b ∧ b ≤ (ks.length : Int) - 1)
          · rw [if_neg (c := (!decide (0 ≤ b ∧ b ≤ (ks.length : Int) - 1)) = true) (by simp [hb]), if_neg (c := ¬(0 ≤ b ∧ b ≤ (ks.length : Int) - 1)) (fun h => h hb)]
            by_cases h7 : 7 ≤ op
            · rw [if_pos (c := decide (op ≥ 7) = true) (by simpa using h7), if_pos h7, t10 2 ha hb]
            · rw [if_neg (c := decide (op ≥ 7) = true) (by simpa using h7), if_neg h7, t10 1 ha hb]
          · rw [if_pos (c := (!decide (0 ≤ b ∧ b ≤ (ks.length : Int) - 1)) = true) (by rw [decide_eq_false hb]; rfl), if_pos (c := ¬(0 ≤ b ∧ b ≤ (ks.length : Int) - 1)) hb]
        · rw [if_pos (c := (!decide (0 ≤ a ∧ a ≤ (ks.length : Int) - 1)) = true) (by rw [decide_eq_false ha]; rfl), if_pos (c := ¬(0 ≤ a ∧ a ≤ (ks.length : Int) - 1)) ha]
      · rw [if_pos (c := (n != 0) = true) (by simpa using h2), if_pos (c := n ≠ 0) h2]
    · rw [if_pos (c := (!decide (2 ≤ op ∧ op ≤ 9)) = true) (by rw [decide_eq_false h1]; rfl), if_pos (c := ¬(2 ≤ op ∧ op ≤ 9)) h1]
  have t3 : spec_l1Kind.lj3 (m + 1) (op, n, a, b) ks vars (m + 1) = some (kind3 op n a b ks vars, ()) := by
    rw [spec_l1Kind.sj3]
    unfold kind3
    dsimp only
    rw [t5, spec_in_eq, e2]
    simp only [Option.bind_some]
    by_cases h1 : op = 1 <;> by_cases h2 : (0 ≤ n ∧ n ≤ vars - 1) <;> by_cases h3 : a = 0 <;> by_cases h4 : b = 0 <;> simp [h1, h2, h3, h4]
  rw [spec_l1Kind.s]
  unfold kind1
  dsimp only
  rw [t3, spec_in_eq]
  simp only [Option.bind_some]
  by_cases h1 : op = 0 <;> by_cases h2 : (-9999 ≤ n ∧ n ≤ 9999) <;> by_cases h3 : a = 0 <;> by_cases h4 : b = 0 <;> simp [h1, h2, h3, h4]

/-- What the program's own loop makes of a term. -/
def partsP (op : Int) : Int × Int × Int :=
  if op = 2 ∨ op = 3 ∨ op = 4 then (2, 1, 1) else if op = 5 ∨ op = 6 then (2, 1, 2) else if op = 7 then (1, 2, 2) else if op = 8 ∨ op = 9 then (2, 2, 2) else (0, 0, 1)
theorem parts_eq {k : Nat} (hk : 0 < k) (op : Int) : impl_parts.f k op = some (partsP op, ()) := by
  obtain ⟨m, rfl⟩ : ∃ m, k = m + 1 := ⟨k - 1, by omega⟩
  rw [impl_parts.s]
  unfold partsP
  simp only [impl_parts.sj8]
  by_cases h2 : op = 2
  · subst h2; rfl
  by_cases h3 : op = 3
  · subst h3; rfl
  by_cases h4 : op = 4
  · subst h4; rfl
  by_cases h5 : op = 5
  · subst h5; rfl
  by_cases h6 : op = 6
  · subst h6; rfl
  by_cases h7 : op = 7
  · subst h7; rfl
  by_cases h8 : op = 8
  · subst h8; rfl
  by_cases h9 : op = 9
  · subst h9; rfl
  simp [h2, h3, h4, h5, h6, h7, h8, h9]
theorem kindsOf_step {k : Nat} (hk : 0 < k) (n : Nat) (p : List TM) (vars : Int) (hv : 0 ≤ vars ∧ vars ≤ 1000) (ks : List Int) (j : Nat) (hj : j < p.length) (hks : ks.length = j) (hp : p.length ≤ 1000) :
    impl_kindsOf.l5 k p vars (n + 1) ks (j : Int) = if kind1 p[j] ks vars = 0 then some ([], ()) else impl_kindsOf.l5 k p vars n (ks ++ [kind1 p[j] ks vars]) ((j + 1 : Nat) : Int) := by
  have e1 : w64 ((j : Int) - 1) = (j : Int) - 1 := w64_id (by omega) (by omega)
  have e2 : w64 (vars - 1) = vars - 1 := w64_id (by omega) (by omega)
  have hlim : ∀ x : Int, (ks.length : Int) + ([x].length : Int) ≤ 1099511627776 := fun x => by simp; omega
  simp only [impl_kindsOf.s5, toNat_nat, w64_nat (j := j) (by omega), getD_get hj]
  rw [if_pos (by simp; omega), gd_t (by omega), gd_t (by omega), parts_eq hk, impl_in_eq]
  simp only [Option.bind_some, impl_in_eq, e1, e2, gd_t (hlim _)]
  generalize p[j] = t
  obtain ⟨op, m, a, b⟩ := t
  dsimp only
  generalize hE : (fun x : Int => impl_kindsOf.l5 k p vars n (ks ++ [x]) ((j + 1 : Nat) : Int)) = E
  have hE' : ∀ x, impl_kindsOf.l5 k p vars n (ks ++ [x]) ((j + 1 : Nat) : Int) = E x := fun x => by rw [← hE]
  simp only [hE']
  by_cases h0 : op = 0
  · subst h0
    have hp0 : partsP 0 = (0, 0, 1) := rfl
    have h5 : kind5 0 m a b ks = 0 := by unfold kind5; rw [if_pos (by omega)]
    simp only [hp0, kind1, kind3, h5]
    by_cases h2 : (-9999 ≤ m ∧ m ≤ 9999) <;> by_cases h3 : a = 0 <;> by_cases h4 : b = 0 <;> simp [h2, h3, h4]
  by_cases h1 : op = 1
  · subst h1
    have hp0 : partsP 1 = (0, 0, 1) := rfl
    have h5 : kind5 1 m a b ks = 0 := by unfold kind5; rw [if_pos (by omega)]
    simp only [hp0, kind1, kind3, h5]
    by_cases h2 : (0 ≤ m ∧ m ≤ vars - 1) <;> by_cases h3 : a = 0 <;> by_cases h4 : b = 0 <;> simp [h2, h3, h4]
  have hkd : kind1 (op, m, a, b) ks vars = kind5 op m a b ks := by
    unfold kind1 kind3
    rw [if_neg (fun h => h0 h.1), if_neg (fun h => h1 h.1)]
  rw [hkd, if_neg (c := (op == 0) = true) (by simpa using h0), if_neg (c := (op == 1) = true) (by simpa using h1)]
  by_cases h9 : 0 ≤ op ∧ op ≤ 9
  · rw [if_pos (c := decide (0 ≤ op ∧ op ≤ 9) = true) (by simpa using h9)]
    have hpp : (partsP op).2.1 = (if 7 ≤ op then 2 else 1) ∧ (partsP op).2.2 = (if 5 ≤ op then 2 else 1) ∧ ((partsP op).1 = 2 ↔ op ≠ 7) := by
      have : op = 2 ∨ op = 3 ∨ op = 4 ∨ op = 5 ∨ op = 6 ∨ op = 7 ∨ op = 8 ∨ op = 9 := by omega
      rcases this with h | h | h | h | h | h | h | h <;> subst h <;> decide
    obtain ⟨q1, q2, q3⟩ := hpp
    generalize (partsP op).1 = g at q3
    rw [q1, q2]
    unfold kind5
    rw [if_neg (c := ¬(2 ≤ op ∧ op ≤ 9)) (by omega), hks]
    by_cases hm : m = 0
    · rw [if_pos (c := (m == 0) = true) (by simpa using hm), if_neg (c := m ≠ 0) (fun h => h hm)]
      by_cases ha : 0 ≤ a ∧ a ≤ (j : Int) - 1
      · rw [if_pos (c := decide (0 ≤ a ∧ a ≤ (j : Int) - 1) = true) (by simpa using ha), if_neg (c := ¬(0 ≤ a ∧ a ≤ (j : Int) - 1)) (fun h => h ha)]
        by_cases hb : 0 ≤ b ∧ b ≤ (j : Int) - 1
        · rw [if_pos (c := decide (0 ≤ b ∧ b ≤ (j : Int) - 1) = true) (by simpa using hb), if_neg (c := ¬(0 ≤ b ∧ b ≤ (j : Int) - 1)) (fun h => h hb)]
          have ha' : a < (j : Int) := by omega
          have hb' : b < (j : Int) := by omega
          simp only [gd_t ha.1, gd_t ha', gd_t hb.1, gd_t hb', kind10]
          by_cases h7 : op = 7
          · have hg : g ≠ 2 := fun e => (q3.1 e) h7
            subst h7
            by_cases hx : ks.getD a.toNat 0 = 2 <;> by_cases hy : ks.getD b.toNat 0 = 2 <;> by_cases hab : a = b <;> simp [hx, hy, hab, hg, -List.getD_eq_getElem?_getD] <;> (intro h; exact absurd h.symm hab)
          · have hg : g = 2 := q3.2 h7
            subst hg
            by_cases h77 : 7 ≤ op
            · have h55 : 5 ≤ op := by omega
              by_cases hx : ks.getD a.toNat 0 = 2 <;> by_cases hy : ks.getD b.toNat 0 = 2 <;> simp [h77, h55, hx, hy, h7, -List.getD_eq_getElem?_getD]
            · by_cases h55 : 5 ≤ op <;> by_cases hx : ks.getD a.toNat 0 = 1 <;> by_cases hy : ks.getD b.toNat 0 = 1 <;> simp [h77, h55, hx, hy, h7, -List.getD_eq_getElem?_getD]
        · rw [if_neg (c := decide (0 ≤ b ∧ b ≤ (j : Int) - 1) = true) (by simpa using hb), if_pos (c := ¬(0 ≤ b ∧ b ≤ (j : Int) - 1)) hb]
          rfl
      · rw [if_neg (c := decide (0 ≤ a ∧ a ≤ (j : Int) - 1) = true) (by simpa using ha), if_pos (c := ¬(0 ≤ a ∧ a ≤ (j : Int) - 1)) ha]
        rfl
    · rw [if_neg (c := (m == 0) = true) (by simpa using hm), if_pos (c := m ≠ 0) hm]
      rfl
  · rw [if_neg (c := decide (0 ≤ op ∧ op ≤ 9) = true) (by rw [decide_eq_false h9]; simp)]
    unfold kind5
    rw [if_pos (c := ¬(2 ≤ op ∧ op ≤ 9)) (by omega), if_pos (by rw [decide_eq_false h9]; rfl)]
    rfl
theorem kinds_l {k : Nat} (hk : 0 < k) (p : List TM) (vars : Int) (hv : 0 ≤ vars ∧ vars ≤ 1000) (hp : p.length ≤ 1000) (hp0 : 1 ≤ p.length) : ∀ (d n n' j : Nat) (ks : List Int), j + d = p.length → d < n → d < n' → ks.length = j →
    ∃ r, spec_KindsOf.l5 k p vars n ks (j : Int) = some (r, ()) ∧ impl_kindsOf.l5 k p vars n' ks (j : Int) = some (r, ()) ∧ (r = [] ∨ r.length = p.length)
  | 0, n + 1, n' + 1, j, ks, hd, hn, hn', hks => by
    refine ⟨ks, ?_, ?_, .inr (by omega)⟩
    · simp only [spec_KindsOf.s5]
      rw [if_neg (by simp; omega)]
    · simp only [impl_kindsOf.s5]
      rw [if_neg (by simp; omega), gd_t (by omega)]
  | d + 1, n + 1, n' + 1, j, ks, hd, hn, hn', hks => by
    have hj : j < p.length := by omega
    have hs : spec_KindsOf.l5 k p vars (n + 1) ks (j : Int) = if kind1 p[j] ks vars = 0 then some ([], ()) else spec_KindsOf.l5 k p vars n (ks ++ [kind1 p[j] ks vars]) ((j + 1 : Nat) : Int) := by
      simp only [spec_KindsOf.s5, toNat_nat, w64_nat (j := j) (by omega), getD_get hj]
      rw [if_pos (by simp; omega), gd_t (by omega), gd_t (by omega), l1Kind_eq hk _ _ _ (by omega) hv]
      simp only [Option.bind_some]
      by_cases h : kind1 p[j] ks vars = 0
      · rw [if_pos (by simpa using h), if_pos h]
      · rw [if_neg (by simpa using h), if_neg h, gd_t (by simp; omega)]
    rw [hs, kindsOf_step hk n' p vars hv ks j hj hks hp]
    by_cases h : kind1 p[j] ks vars = 0
    · exact ⟨[], by rw [if_pos h], by rw [if_pos h], .inl rfl⟩
    · rw [if_neg h, if_neg h]
      exact kinds_l hk p vars hv hp hp0 d n n' (j + 1) _ (by omega) (by omega) (by omega) (by simp [hks])
/-- Both find the same kinds. -/
theorem kinds_eq {k : Nat} (hk : 1000 < k) (p : List TM) (vars : Int) (hp : p.length < 9223372036854775808) : ∃ r, spec_KindsOf.f k p vars = some (r, ()) ∧ impl_kindsOf.f k p vars = some (r, ()) ∧ r.length ≤ 40 := by
  rw [spec_KindsOf.s, impl_kindsOf.s]
  rw [spec_in_eq, impl_in_eq]
  simp only [Option.bind_some]
  by_cases h1 : 0 ≤ vars ∧ vars ≤ 5
  · rw [if_neg (c := (!decide (0 ≤ vars ∧ vars ≤ 5)) = true) (by simp [h1]), if_neg (c := (!decide (0 ≤ vars ∧ vars ≤ 5)) = true) (by simp [h1]), spec_in_eq, impl_in_eq]
    simp only [Option.bind_some]
    by_cases h2 : 1 ≤ (p.length : Int) ∧ (p.length : Int) ≤ 40
    · rw [if_neg (c := (!decide (1 ≤ (p.length : Int) ∧ (p.length : Int) ≤ 40)) = true) (by rw [decide_eq_true h2]; simp), if_neg (c := (!decide (1 ≤ (p.length : Int) ∧ (p.length : Int) ≤ 40)) = true) (by rw [decide_eq_true h2]; simp), gd_t (by omega), gd_t (by omega), gd_t (by omega)]
      obtain ⟨r, e1, e2, hr⟩ := kinds_l (k := k) (by omega) p vars (by omega) (by omega) (by omega) p.length k k 0 [] (by omega) (by omega) (by omega) rfl
      refine ⟨r, e1, e2, ?_⟩
      rcases hr with hr | hr
      · rw [hr]; simp
      · omega
    · rw [if_pos (c := (!decide (1 ≤ (p.length : Int) ∧ (p.length : Int) ≤ 40)) = true) (by rw [decide_eq_false h2]; rfl), if_pos (c := (!decide (1 ≤ (p.length : Int) ∧ (p.length : Int) ≤ 40)) = true) (by rw [decide_eq_false h2]; rfl)]
      exact ⟨[], rfl, rfl, by simp⟩
  · rw [if_pos (c := (!decide (0 ≤ vars ∧ vars ≤ 5)) = true) (by rw [decide_eq_false h1]; rfl), if_pos (c := (!decide (0 ≤ vars ∧ vars ≤ 5)) = true) (by rw [decide_eq_false h1]; rfl)]
    exact ⟨[], rfl, rfl, by simp⟩
/-- The reference asks whether an expression is of a kind; the program asks for its kind. -/
theorem isKind_eq {k : Nat} (hk : 1000 < k) (p : List TM) (vars q : Int) (hq : q ≠ 0) (hp : p.length < 9223372036854775808) : ∃ g, impl_kindOf.f k p vars = some (g, ()) ∧ spec_l2Is.f k p vars q = some (g == q, ()) := by
  obtain ⟨r, e1, e2, hr⟩ := kinds_eq hk p vars hp
  rw [impl_kindOf.s, spec_l2Is.s]
  rw [e1, e2]
  simp only [Option.bind_some]
  by_cases h : r.length = 0
  · refine ⟨0, by rw [if_pos (by simpa using h)], ?_⟩
    rw [if_neg (by rw [decide_eq_false (by omega)]; simp)]
    have : (0 : Int) ≠ q := fun e => hq e.symm
    simp [this]
  · rw [if_neg (by simpa using h), if_pos (by rw [decide_eq_true (by omega)]), w64_id (by omega) (by omega), gd_t (by omega), gd_t (by omega), gd_t (by omega), gd_t (by omega)]
    exact ⟨_, rfl, rfl⟩
end Go.Ev
