/- Plain mathematics on what the functions compute. -/
import Derived.Test.YtnbanheipmginaaPB
set_option linter.unusedVariables false
set_option linter.unusedSimpArgs false
namespace Go.Ev

/-! ### orders -/
def SpecOV (p : List Int) (v : Int) : Prop := (0 ≤ v ∧ v ≤ 12) ∧ (p.length : Int) = v ∧ ∀ i : Nat, (i : Int) < v → (i : Int) ∈ p
def ImplOV (p : List Int) (v : Int) : Prop := (0 ≤ v ∧ v ≤ 12) ∧ (p.length : Int) = v ∧ ∀ i (h : i < p.length), (0 ≤ p[i] ∧ p[i] ≤ v - 1) ∧ p[i] ∉ p.take i
open Classical in
theorem spec_OV_l (k : Nat) (p : List Int) (v : Nat) (hp : p.length < k) (hp2 : p.length < 4611686018427387904) (hv : v < 13) : ∀ (d n j : Nat), j + d = v → d < n → spec_OrderValid.l4 k p v n (j : Int) = some (decide (∀ i : Nat, j ≤ i → i < v → (i : Int) ∈ p), ())
  | 0, n + 1, j, h, hn => by
    simp only [spec_OrderValid.l4, spec_OrderValid.b4]
    rw [if_neg (by simp; omega), decide_eq_true (fun i h1 h2 => by omega)]
  | d + 1, n + 1, j, h, hn => by
    simp only [spec_OrderValid.l4, spec_OrderValid.b4, w64_nat (j := j) (by omega)]
    rw [if_pos (by simp; omega), l2Has_eq hp2 hp]
    simp only [Option.bind_some]
    by_cases e : (j : Int) ∈ p
    · rw [if_neg (by simp [e]), spec_OV_l k p v hp hp2 hv d n (j + 1) (by omega) (by omega)]
      congr 2
      rw [decide_eq_decide]
      constructor
      · intro h i h1 h2
        rcases Nat.lt_or_ge j i with h3 | h3
        · exact h i h3 h2
        · have : i = j := by omega
          rw [this]; exact e
      · exact fun h i h1 h2 => h i (by omega) h2
    · rw [if_pos (by simp [e]), decide_eq_false (fun h => e (h j (Nat.le_refl _) (by omega)))]
open Classical in
theorem spec_OV_eq {k : Nat} {p : List Int} {v : Int} (hp : p.length < k) (hk : 13 < k) (hp2 : p.length < 4611686018427387904) : spec_OrderValid.f k p v = some (decide (SpecOV p v), ()) := by
  unfold spec_OrderValid.f spec_OrderValid.bt
  rw [spec_in_eq]
  simp only [Option.bind_some]
  by_cases h1 : 0 ≤ v ∧ v ≤ 12
  · rw [if_neg (by simp [h1])]
    by_cases h2 : (p.length : Int) = v
    · rw [if_neg (by simp [h2])]
      obtain ⟨n, rfl⟩ : ∃ n : Nat, v = n := ⟨p.length, h2.symm⟩
      have := spec_OV_l k p n hp hp2 (by omega) n k 0 (by omega) (by omega)
      have this : spec_OrderValid.l4 k p n k 0 = _ := this
      rw [this]
      congr 2
      rw [decide_eq_decide]
      constructor
      · intro h; exact ⟨h1, h2, fun i hi => h i (by omega) (by omega)⟩
      · rintro ⟨_, _, h⟩ i _ hi; exact h i (by omega)
    · rw [if_pos (by simp [h2]), decide_eq_false (fun h => h2 h.2.1)]
  · rw [if_pos (by simp; omega), decide_eq_false (fun h => h1 h.1)]
open Classical in
theorem impl_OV_l (k : Nat) (p : List Int) (v : Int) (hv0 : 0 ≤ v) (hv : v ≤ 12) (hlen : (p.length : Int) = v) (hk : 13 < k) : ∀ (d n j : Nat), j + d = p.length → d < n → impl_OrderValid.l4 k p v n (j : Int) = some (decide (∀ i (h : i < p.length), j ≤ i → (0 ≤ p[i] ∧ p[i] ≤ v - 1) ∧ p[i] ∉ p.take i), ())
  | 0, n + 1, j, h, hn => by
    simp only [impl_OrderValid.l4, impl_OrderValid.b4]
    rw [if_neg (by simp; omega), decide_eq_true (fun i h1 h2 => by omega)]
  | d + 1, n + 1, j, h, hn => by
    have hj : j < p.length := by omega
    simp only [impl_OrderValid.l4, impl_OrderValid.b4, toNat_nat, w64_nat (j := j) (by omega)]
    rw [if_pos (by simp; omega), gd_t (by omega), gd_t (by omega), impl_in_eq, getD_get hj, w64_id (x := v - 1) (by omega) (by omega)]
    simp only [Option.bind_some]
    by_cases e : 0 ≤ p[j] ∧ p[j] ≤ v - 1
    · rw [if_neg (by simp [e]), gd_t (by omega), gd_t (by omega), gd_t (by omega)]
      have hz : (Int.toNat 0) = 0 := rfl
      rw [hz, List.drop_zero, Contains_eq (by rw [List.length_take]; omega) (by rw [List.length_take]; omega)]
      simp only [Option.bind_some]
      by_cases e2 : p[j] ∈ p.take j
      · rw [if_pos (by simpa using e2), decide_eq_false (fun h => (h j hj (Nat.le_refl _)).2 e2)]
      · rw [if_neg (by simpa using e2), impl_OV_l k p v hv0 hv hlen hk d n (j + 1) (by omega) (by omega)]
        congr 2
        rw [decide_eq_decide]
        constructor
        · intro h i h1 h2
          rcases Nat.lt_or_ge j i with h3 | h3
          · exact h i h1 h3
          · have : i = j := by omega
            subst this; exact ⟨e, e2⟩
        · exact fun h i h1 h2 => h i h1 (by omega)
    · rw [if_pos (by simp; omega), decide_eq_false (fun h => e (h j hj (Nat.le_refl _)).1)]
open Classical in
theorem impl_OV_eq {k : Nat} {p : List Int} {v : Int} (hk : 13 < k) : impl_OrderValid.f k p v = some (decide (ImplOV p v), ()) := by
  unfold impl_OrderValid.f impl_OrderValid.bt
  rw [impl_in_eq]
  simp only [Option.bind_some]
  by_cases h1 : 0 ≤ v ∧ v ≤ 12
  · rw [if_neg (by simp [h1])]
    by_cases h2 : (p.length : Int) = v
    · rw [if_neg (by simp [h2])]
      have := impl_OV_l k p v h1.1 h1.2 h2 hk p.length k 0 (by omega) (by omega)
      have this : impl_OrderValid.l4 k p v k 0 = _ := this
      rw [this]
      congr 2
      rw [decide_eq_decide]
      constructor
      · intro h; exact ⟨h1, h2, fun i hi => h i hi (by omega)⟩
      · rintro ⟨_, _, h⟩ i hi _; exact h i hi
    · rw [if_pos (by simp [h2]), decide_eq_false (fun h => h2 h.2.1)]
  · rw [if_pos (by simp; omega), decide_eq_false (fun h => h1 h.1)]

/-! as many numbers as places -/
theorem filter_split (l : List Int) (x : Int) : (l.filter (· ≠ x)).length + (l.filter (· = x)).length = l.length := by
  induction l with
  | nil => rfl
  | cons a l ih =>
    by_cases h : a = x
    · simp [h]; simp at ih; omega
    · simp [h]; simp at ih; omega
/-- A row that holds n numbers is at least so long; if it is no longer, none stands twice and it holds no other. -/
theorem pigeon : ∀ (n : Nat) (l : List Int), (∀ i : Nat, i < n → (i : Int) ∈ l) → n ≤ l.length ∧ (l.length = n → ∀ x ∈ l, (0 ≤ x ∧ x < n) ∧ (l.filter (· = x)).length = 1)
  | 0, l, _ => ⟨Nat.zero_le _, fun h x hx => by rw [List.length_eq_zero_iff.1 h] at hx; simp at hx⟩
  | n + 1, l, h => by
    obtain ⟨h1, h2⟩ := pigeon n (l.filter (· ≠ (n : Int))) (fun i hi => by
      rw [List.mem_filter]
      exact ⟨h i (by omega), by simp; omega⟩)
    have hs := filter_split l n
    have hn : 0 < (l.filter (· = (n : Int))).length := List.length_pos_of_mem (List.mem_filter.2 ⟨h n (by omega), by simp⟩)
    refine ⟨by omega, fun hl x hx => ?_⟩
    by_cases hxn : x = n
    · subst hxn
      exact ⟨⟨by omega, by omega⟩, by omega⟩
    · obtain ⟨g1, g2⟩ := h2 (by omega) x (List.mem_filter.2 ⟨hx, by simp [hxn]⟩)
      refine ⟨⟨g1.1, by omega⟩, ?_⟩
      rw [← g2]
      rw [List.filter_filter]
      congr 1
      apply List.filter_congr
      intro y hy
      by_cases hyx : y = x
      · simp [hyx, hxn]
      · simp [hyx]
theorem once_iff (l : List Int) : (∀ i (h : i < l.length), l[i] ∉ l.take i) → ∀ x ∈ l, (l.filter (· = x)).length = 1 := by
  intro h
  have key : ∀ n, n ≤ l.length → ∀ x, ((l.take n).filter (· = x)).length ≤ 1 := by
    intro n
    induction n with
    | zero => intro _ x; simp
    | succ n ih =>
      intro hn x
      have hn' : n < l.length := by omega
      rw [List.take_succ_eq_append_getElem hn', List.filter_append, List.length_append]
      by_cases e : l[n] = x
      · have h0 : (l.take n).filter (· = x) = [] := by
          rw [List.filter_eq_nil_iff]
          intro y hy
          have := h n hn'
          rw [e] at this
          intro e2
          simp at e2
          subst e2
          exact this hy
        rw [h0]; simp [e]
      · have := ih (by omega) x
        simp [e]
        simpa using this
  intro x hx
  have h1 := key l.length (Nat.le_refl _) x
  rw [List.take_length] at h1
  have h2 : 0 < (l.filter (· = x)).length := List.length_pos_of_mem (List.mem_filter.2 ⟨hx, by simp⟩)
  omega
theorem covers : ∀ (n : Nat) (l : List Int), l.length = n → (∀ x ∈ l, 0 ≤ x ∧ x < n) → (∀ x ∈ l, (l.filter (· = x)).length = 1) → ∀ i : Nat, i < n → (i : Int) ∈ l := by
  intro n
  -- how many of the first m numbers stand in a row
  have count : ∀ (m : Nat) (l : List Int), (∀ x ∈ l, 0 ≤ x ∧ x < m) → (∀ x ∈ l, (l.filter (· = x)).length = 1) → l.length ≤ m ∧ (l.length = m → ∀ i : Nat, i < m → (i : Int) ∈ l) := by
    intro m
    induction m with
    | zero =>
      intro l h _
      cases l with
      | nil => exact ⟨Nat.le_refl _, fun _ i hi => by omega⟩
      | cons x l => have := h x (by simp); omega
    | succ m ih =>
      intro l h h1
      have hs := filter_split l m
      have hle : (l.filter (· = (m : Int))).length ≤ 1 := by
        by_cases hm : (m : Int) ∈ l
        · rw [h1 _ hm]; exact Nat.le_refl _
        · have : l.filter (· = (m : Int)) = [] := by
            rw [List.filter_eq_nil_iff]
            intro y hy e
            simp at e
            subst e
            exact hm hy
          rw [this]; simp
      obtain ⟨g1, g2⟩ := ih (l.filter (· ≠ (m : Int))) (fun x hx => by
        rw [List.mem_filter] at hx
        have := h x hx.1
        have hne : x ≠ m := by simpa using hx.2
        omega) (fun x hx => by
        have hx' := List.mem_filter.1 hx
        rw [← h1 x hx'.1, List.filter_filter]
        congr 1
        apply List.filter_congr
        intro y hy
        by_cases hyx : y = x
        · have hne : x ≠ m := by simpa using hx'.2
          simp [hyx, hne]
        · simp [hyx])
      refine ⟨by omega, fun hl i hi => ?_⟩
      by_cases him : i = m
      · subst him
        have : 0 < (l.filter (· = (i : Int))).length := by omega
        obtain ⟨y, hy⟩ := List.exists_mem_of_length_pos this
        rw [List.mem_filter] at hy
        have : y = i := by simpa using hy.2
        rw [← this]; exact hy.1
      · have := g2 (by omega) i (by omega)
        exact (List.mem_filter.1 this).1
  exact fun l hl h h1 i hi => (count n l h h1).2 hl i hi

theorem OV_iff (p : List Int) (v : Int) : SpecOV p v ↔ ImplOV p v := by
  constructor
  · rintro ⟨h1, h2, h3⟩
    refine ⟨h1, h2, fun i hi => ?_⟩
    have hp := (pigeon p.length p (fun j hj => h3 j (by omega))).2 rfl p[i] (List.getElem_mem hi)
    refine ⟨by omega, fun hm => ?_⟩
    -- it would stand twice
    have hsp : p = p.take i ++ p[i] :: p.drop (i + 1) := by
      rw [← drop_get hi, List.take_append_drop]
    have h4 := hp.2
    generalize hy : p[i] = y at h4 hm hsp
    have : 0 < ((p.take i).filter (· = y)).length := List.length_pos_of_mem (List.mem_filter.2 ⟨hm, by simp⟩)
    have h5 : (p.filter (· = y)).length = ((p.take i).filter (· = y)).length + 1 + ((p.drop (i + 1)).filter (· = y)).length := by
      have := congrArg (fun l : List Int => (l.filter (· = y)).length) hsp
      rw [this]
      simp
      omega
    omega
  · rintro ⟨h1, h2, h3⟩
    refine ⟨h1, h2, fun i hi => ?_⟩
    refine covers p.length p rfl (fun x hx => ?_) (once_iff p (fun i hi => (h3 i hi).2)) i (by omega)
    obtain ⟨j, hj, rfl⟩ := List.getElem_of_mem hx
    have := (h3 j hj).1
    omega

end Go.Ev
