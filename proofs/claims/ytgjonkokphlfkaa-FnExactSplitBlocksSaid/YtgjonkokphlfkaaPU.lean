/- Plain mathematics on what the functions compute. -/
import Derived.Test.YtgjonkokphlfkaaEv4
import Derived.Test.YtgjonkokphlfkaaPB
set_option linter.unusedVariables false
set_option linter.unusedSimpArgs false
namespace Go.Ev

/-! ### loops of a kind -/
/-- A loop that asks each for C, and ends with b0 if none lacks it. -/
theorem check_loop {R : Type} {l : Nat → Int → Option (Bool × R)} {m : Nat} {b0 : Bool} {r : R} (C : Nat → Prop)
    (h : ∀ n j, j < m → (∀ i, i < j → C i) → (C j ∧ l (n + 1) (j : Int) = l n ((j : Int) + 1)) ∨ (¬ C j ∧ l (n + 1) (j : Int) = some (false, r)))
    (h0 : ∀ n, (∀ i, i < m → C i) → l (n + 1) (m : Int) = some (b0, r)) {k : Nat} (hk : m < k) : ∃ b, l k 0 = some (b, r) ∧ (b = true ↔ b0 = true ∧ ∀ i, i < m → C i) := by
  refine for_post (m := m) (l := fun n (_ : Unit) j => l n j) (fun j _ => ∀ i, i < j → C i) (fun x => ∃ b, x = some (b, r) ∧ (b = true ↔ b0 = true ∧ ∀ i, i < m → C i)) (fun n s hI => ?_) (fun n j s hj hI ih => ?_) (s := ()) hk (fun i hi => by omega)
  · exact ⟨b0, h0 n hI, fun hb => ⟨hb, hI⟩, fun hb => hb.1⟩
  · rcases h n j hj hI with ⟨hc, e⟩ | ⟨hc, e⟩
    · simp only [e]
      exact ih () fun i hi => by
        by_cases hij : i = j
        · subst hij; exact hc
        · exact hI i (by omega)
    · exact ⟨false, e, fun h => (by cases h), fun h => absurd (h.2 j hj) hc⟩
/-- A loop that looks for one with C. -/
theorem any_loop {R : Type} {l : Nat → Int → Option (Bool × R)} {m : Nat} {r : R} (C : Nat → Prop)
    (h : ∀ n j, j < m → (C j ∧ l (n + 1) (j : Int) = some (true, r)) ∨ (¬ C j ∧ l (n + 1) (j : Int) = l n ((j : Int) + 1)))
    (h0 : ∀ n, l (n + 1) (m : Int) = some (false, r)) {k : Nat} (hk : m < k) : ∃ b, l k 0 = some (b, r) ∧ (b = true ↔ ∃ i, i < m ∧ C i) := by
  refine for_post (m := m) (l := fun n (_ : Unit) j => l n j) (fun j _ => ∀ i, i < j → ¬ C i) (fun x => ∃ b, x = some (b, r) ∧ (b = true ↔ ∃ i, i < m ∧ C i)) (fun n s hI => ?_) (fun n j s hj hI ih => ?_) (s := ()) hk (fun i hi => by omega)
  · exact ⟨false, h0 n, fun h => (by cases h), fun ⟨i, hi, hc⟩ => absurd hc (hI i hi)⟩
  · rcases h n j hj with ⟨hc, e⟩ | ⟨hc, e⟩
    · exact ⟨true, e, fun _ => ⟨j, hj, hc⟩, fun _ => rfl⟩
    · simp only [e]
      exact ih () fun i hi => by
        by_cases hij : i = j
        · subst hij; exact hc
        · exact hI i (by omega)
/-- A loop that puts a value for each behind what it has. -/
theorem push_loop {α Q : Type} {l : Nat → List α → Int → Q} {ys : List α} {m : Nat} (hm : ys.length = m) {r : Q}
    (h : ∀ n j (v : List α) (hj : j < m), v.length = j → l (n + 1) v (j : Int) = l n (v ++ [ys[j]'(by omega)]) ((j : Int) + 1))
    (h0 : ∀ n, l (n + 1) ys (m : Int) = r) {k : Nat} (hk : m < k) : l k [] 0 = r := by
  refine for_post (m := m) (l := l) (fun j v => v = ys.take j ∧ j ≤ m) (fun x => x = r) (fun n s hI => ?_) (fun n j s hj hI ih => ?_) hk ⟨by simp, by omega⟩
  · rw [hI.1, List.take_of_length_le (by omega)]; exact h0 n
  · have hl : s.length = j := by rw [hI.1, List.length_take]; omega
    rw [h n j s hj hl]
    exact ih _ ⟨by rw [hI.1, List.take_succ_eq_append_getElem (by omega)], by omega⟩
/-- A loop over numbers that keeps what it has or takes a new one. -/
theorem fold_loop {σ Q : Type} {l : Nat → σ → Int → Q} {m : Nat} (g : σ → Nat → σ) (I : Nat → σ → Prop) {r : σ → Q}
    (h : ∀ n j s, j < m → I j s → l (n + 1) s (j : Int) = l n (g s j) ((j : Int) + 1) ∧ I (j + 1) (g s j))
    (h0 : ∀ n s, I m s → l (n + 1) s (m : Int) = r s) {k : Nat} (hk : m < k) (s : σ) (hs : I 0 s) : l k s 0 = r ((List.range m).foldl g s) ∧ I m ((List.range m).foldl g s) := by
  have := for_post (m := m) (l := l) (fun j v => v = (List.range j).foldl g s ∧ I j v) (fun x => x = r ((List.range m).foldl g s) ∧ I m ((List.range m).foldl g s)) (fun n t hI => ?_) (fun n j t hj hI ih => ?_) hk ⟨by simp, hs⟩
  · exact this
  · rw [h0 n t hI.2, hI.1]; exact ⟨rfl, hI.1 ▸ hI.2⟩
  · have := h n j t hj hI.2
    rw [this.1]
    exact ih _ ⟨by rw [List.range_succ, List.foldl_append, hI.1]; rfl, this.2⟩
end Go.Ev
