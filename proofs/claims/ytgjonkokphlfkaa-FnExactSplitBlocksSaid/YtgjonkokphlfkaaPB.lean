/- Plain mathematics on what the functions compute. -/
import Derived.Test.YtgjonkokphlfkaaPA
set_option linter.unusedVariables false
set_option linter.unusedSimpArgs false
namespace Go.Ev

/-! ### laws.eqIntS -/
theorem eqIntS_l (k : Nat) (p q : List Int) (hq : q.length = p.length) (hp : p.length < 4611686018427387904) : ∀ (d n j : Nat), j + d = p.length → d < n → laws_eqIntS.l4 k p q n (j : Int) = some (decide (p.drop j = q.drop j), ())
  | 0, n + 1, j, h, hn => by
    simp only [laws_eqIntS.s4]
    rw [if_neg (by simp; omega), List.drop_eq_nil_of_le (by omega), List.drop_eq_nil_of_le (by omega)]
    simp
  | d + 1, n + 1, j, h, hn => by
    have hj : j < p.length := by omega
    have hj' : j < q.length := by omega
    simp only [laws_eqIntS.s4, toNat_nat, w64_nat (j := j) (by omega)]
    rw [if_pos (by simp; omega), gd_t (by omega), gd_t (by omega), gd_t (by omega), gd_t (by omega), getD_get hj, getD_get hj']
    have key : p.drop j = q.drop j ↔ p[j] = q[j] ∧ p.drop (j + 1) = q.drop (j + 1) := by
      rw [drop_get hj, drop_get hj', List.cons.injEq]
    by_cases e : p[j] = q[j]
    · rw [if_neg (by simp [e]), eqIntS_l k p q hq hp d n (j + 1) (by omega) (by omega)]
      simp only [key, e, true_and]
    · rw [if_pos (by simp [e])]
      simp only [key, e, false_and, decide_false]
theorem eqIntS_eq {k : Nat} {p q : List Int} (hp : p.length < 4611686018427387904) (hk : p.length < k) : laws_eqIntS.f k p q = some (decide (p = q), ()) := by
  rw [laws_eqIntS.s]
  by_cases h : q.length = p.length
  · rw [if_neg (by simp [h])]
    have := eqIntS_l k p q h hp p.length k 0 (by omega) hk
    simpa using this
  · rw [if_pos (by simp; omega), decide_eq_false (fun e => h (by rw [e]))]

/-! ### marks -/
/-- The numbers from k on. -/
def upTo (k : Int) : Nat → List Int
  | 0 => []
  | n + 1 => k :: upTo (k + 1) n
theorem length_upTo (k : Int) : ∀ n, (upTo k n).length = n := by
  intro n
  induction n generalizing k with
  | zero => rfl
  | succ n ih => simp [upTo, ih]
theorem upTo_get (k : Int) : ∀ (n j : Nat) (h : j < n), (upTo k n)[j]'(by rw [length_upTo]; exact h) = k + j := by
  intro n
  induction n generalizing k with
  | zero => intro j h; omega
  | succ n ih =>
    intro j h
    cases j with
    | zero => simp [upTo]
    | succ j =>
      simp only [upTo, List.getElem_cons_succ]
      rw [ih (k + 1) j (by omega)]; omega
theorem upTo_snoc (k : Int) : ∀ n, upTo k (n + 1) = upTo k n ++ [k + n] := by
  intro n
  induction n generalizing k with
  | zero => simp [upTo]
  | succ n ih =>
    rw [upTo, ih (k + 1), upTo]
    simp only [List.cons_append]
    congr 2
    simp; omega
theorem markIntS_l (k : Nat) (L : Nat) (hL : L < 1099511627777) (c0 : Int) (h0 : 0 ≤ c0) (h1 : c0 ≤ 1099511627776) : ∀ (d n j : Nat) (v : List Int), j + d = L → d < n → v.length = L →
    laws_markIntS.l2 k n v (c0 + j) (j : Int) = some (c0 + L, v.take j ++ upTo (c0 + j) d)
  | 0, n + 1, j, v, h, hn, hv => by
    simp only [laws_markIntS.s2]
    rw [if_neg (by simp; omega), List.take_of_length_le (by omega)]
    simp [upTo, ← h]
  | d + 1, n + 1, j, v, h, hn, hv => by
    simp only [laws_markIntS.s2, toNat_nat, w64_nat (j := j) (by omega)]
    rw [if_pos (by simp; omega), gd_t (by omega), gd_t (by omega), w64_id (by omega) (by omega)]
    have e : c0 + (j : Int) + 1 = c0 + ((j + 1 : Nat) : Int) := by omega
    rw [e, markIntS_l k L hL c0 h0 h1 d n (j + 1) _ (by omega) (by omega) (by simpa using hv), take_set (by omega), ← e]
    simp [upTo]
theorem markIntS_eq {k : Nat} {p : List Int} {c : Int} (hp : p.length < 1099511627777) (hk : p.length < k) (h0 : 0 ≤ c) (h1 : c ≤ 1099511627776) : laws_markIntS.f k p c = some (c + p.length, upTo c p.length) := by
  rw [laws_markIntS.s]
  have := markIntS_l k p.length hp c h0 h1 p.length k 0 p (by omega) hk rfl
  simpa using this
theorem heldIntS_l (k : Nat) (L : Nat) (hL : L < 1099511627777) (c0 : Int) (h0 : 0 ≤ c0) (h1 : c0 ≤ 1099511627776) : ∀ (d n j : Nat), j + d = L → d < n → laws_heldIntS.l2 k (upTo c0 L) n (c0 + j) (j : Int) = some (c0 + L, ())
  | 0, n + 1, j, h, hn => by
    simp only [laws_heldIntS.s2]
    rw [if_neg (by simp [length_upTo]; omega)]
    simp [← h]
  | d + 1, n + 1, j, h, hn => by
    simp only [laws_heldIntS.s2, toNat_nat, w64_nat (j := j) (by omega)]
    rw [if_pos (by simp [length_upTo]; omega), gd_t (by omega), gd_t (by rw [length_upTo]; omega), getD_get (by rw [length_upTo]; omega), upTo_get _ _ _ (by omega), if_neg (by simp), w64_id (by omega) (by omega)]
    have e : c0 + (j : Int) + 1 = c0 + ((j + 1 : Nat) : Int) := by omega
    rw [e, heldIntS_l k L hL c0 h0 h1 d n (j + 1) (by omega) (by omega)]
theorem heldIntS_eq {k : Nat} {L : Nat} {c : Int} (hp : L < 1099511627777) (hk : L < k) (h0 : 0 ≤ c) (h1 : c ≤ 1099511627776) : laws_heldIntS.f k (upTo c L) c = some (c + L, ()) := by
  rw [laws_heldIntS.s]
  have := heldIntS_l k L hp c h0 h1 L k 0 (by omega) hk
  simpa using this

/-! ### impl.clone -/
theorem clone_int_eq {k : Nat} {p : List Int} (hp : p.length ≤ 1099511627776) : impl_clone_int.f k p = some (p, ()) := by
  rw [impl_clone_int.s]
  by_cases h : p.length = 0
  · have : p = [] := List.length_eq_zero_iff.1 h
    subst this
    rfl
  · rw [if_neg (by simp; intro e; exact h (by rw [e]; rfl)), gd_t (by omega), gd_t (by omega)]
    simp

end Go.Ev
