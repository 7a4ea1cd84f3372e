/- Plain mathematics on what the functions compute. -/
import Derived.Test.YtgjonkokphlfkaaFn1
import Derived.Test.YtgjonkokphlfkaaEv4
import Derived.IntWalk
set_option linter.unusedVariables false
set_option linter.unusedSimpArgs false
namespace Go.Ev

/-! ### words -/
theorem w64_nat {j : Nat} (h : j < 4611686018427387904) : w64 ((j : Int) + 1) = ((j + 1 : Nat) : Int) := by
  rw [w64_id (by omega) (by omega)]; omega
theorem LIM_eq : LIM = 1099511627776 := rfl
theorem toNat_nat (j : Nat) : ((j : Int)).toNat = j := Int.toNat_natCast j
theorem dec_lt {a b : Int} (h : a < b) : decide (a < b) = true := decide_eq_true h
theorem take_set {α : Type} {v : List α} {j : Nat} {x : α} (h : j < v.length) : (v.set j x).take (j + 1) = v.take j ++ [x] := by
  rw [List.take_succ_eq_append_getElem (by simpa using h), List.take_set_of_le (Nat.le_refl j)]
  simp
theorem drop_get {α : Type} {p : List α} {j : Nat} (h : j < p.length) : p.drop j = p[j] :: p.drop (j + 1) := List.drop_eq_getElem_cons h

theorem mem_drop {α : Type} {p : List α} {j : Nat} (h : j < p.length) (x : α) : x ∈ p.drop j ↔ x = p[j] ∨ x ∈ p.drop (j + 1) := by rw [drop_get h, List.mem_cons]

/-! ### laws.toIntS -/
theorem toIntS_l (k : Nat) (p : List Int) (hp : p.length < 4611686018427387904) : ∀ (d n j : Nat) (v : List Int), j + d = p.length → d < n → v.length = p.length → laws_toIntS.l3 k p n v (j : Int) = some (v.take j ++ p.drop j, ())
  | 0, n + 1, j, v, h, hn, hv => by
    simp only [laws_toIntS.s3]
    rw [if_neg (by simp; omega), List.take_of_length_le (by omega), List.drop_eq_nil_of_le (by omega), List.append_nil]
  | d + 1, n + 1, j, v, h, hn, hv => by
    have hj : j < p.length := by omega
    simp only [laws_toIntS.s3, toNat_nat, w64_nat (j := j) (by omega)]
    rw [if_pos (by simp; omega), gd_t (by omega), gd_t (by omega), gd_t (by omega), gd_t (by omega), toIntS_l k p hp d n (j + 1) _ (by omega) (by omega) (by simpa using hv), take_set (by omega), getD_get hj, drop_get hj]
    simp
theorem toIntS_eq {k : Nat} {p : List Int} (hp : p.length ≤ 1099511627776) (hk : p.length < k) : laws_toIntS.f k p = some (p, ()) := by
  rw [laws_toIntS.s]
  
  rw [gd_t (by omega), gd_t (by omega)]
  have := toIntS_l k p (by omega) p.length k 0 (List.replicate p.length 0) (by omega) hk (by simp)
  simp only [Int.toNat_natCast]
  simpa using this

/-! ### in -/
theorem spec_in_eq (k : Nat) (a b c : Int) : spec_l1In.f k a b c = some (decide (b ≤ a ∧ a ≤ c), ()) := by
  rw [spec_l1In.s]
  by_cases h : b ≤ a
  · simp [h]
  · simp [h]
theorem impl_in_eq (k : Nat) (a b c : Int) : impl_in.f k a b c = some (decide (b ≤ a ∧ a ≤ c), ()) := by
  rw [impl_in.s]
  by_cases h : b ≤ a
  · simp [h]
  · simp [h]

/-! ### spec.l2Has, slices.Index, slices.Contains -/
theorem l2Has_l (k : Nat) (p : List Int) (x : Int) (hp : p.length < 4611686018427387904) : ∀ (d n j : Nat), j + d = p.length → d < n → spec_l2Has.l2 k p x n (j : Int) = some (decide (x ∈ p.drop j), ())
  | 0, n + 1, j, h, hn => by
    simp only [spec_l2Has.s2]
    rw [if_neg (by simp; omega), List.drop_eq_nil_of_le (by omega)]
    simp
  | d + 1, n + 1, j, h, hn => by
    have hj : j < p.length := by omega
    simp only [spec_l2Has.s2, toNat_nat, w64_nat (j := j) (by omega)]
    rw [if_pos (by simp; omega), gd_t (by omega), gd_t (by omega), getD_get hj]
    by_cases e : p[j] = x
    · rw [if_pos (by simp [e]), decide_eq_true ((mem_drop hj x).2 (.inl e.symm))]
    · rw [if_neg (by simp [e]), l2Has_l k p x hp d n (j + 1) (by omega) (by omega)]
      have : x ≠ p[j] := fun h => e h.symm
      simp only [mem_drop hj x, this, false_or]
theorem l2Has_eq {k : Nat} {p : List Int} {x : Int} (hp : p.length < 4611686018427387904) (hk : p.length < k) : spec_l2Has.f k p x = some (decide (x ∈ p), ()) := by
  rw [spec_l2Has.s]
  have := l2Has_l k p x hp p.length k 0 (by omega) hk
  simpa using this
end Go.Ev
