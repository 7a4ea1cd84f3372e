/- Plain mathematics on what the functions compute. -/
import Derived.Test.YtnbanheipmginaaPC
set_option linter.unusedVariables false
set_option linter.unusedSimpArgs false
namespace Go.Ev

/-! ### exchanges -/
def exch (a p : List Int) : List Int := p.map fun i => a.getD i.toNat 0
theorem impl_exchanged_l (k : Nat) (a p : List Int) (hl : p.length = a.length) (hb : ∀ x ∈ p, 0 ≤ x ∧ x < (a.length : Int)) (hp : p.length < 4611686018427387904) : ∀ (d n j : Nat) (v : List Int), j + d = p.length → d < n → v.length = a.length →
    impl_exchanged.l3 k a p n v (j : Int) = some (v.take j ++ exch a (p.drop j), ())
  | 0, n + 1, j, v, h, hn, hv => by
    simp only [impl_exchanged.l3, impl_exchanged.b3]
    rw [if_neg (by simp; omega), List.take_of_length_le (by omega), List.drop_eq_nil_of_le (by omega)]
    simp [exch]
  | d + 1, n + 1, j, v, h, hn, hv => by
    have hj : j < p.length := by omega
    have hx := hb p[j] (List.getElem_mem hj)
    simp only [impl_exchanged.l3, impl_exchanged.b3, toNat_nat, w64_nat (j := j) (by omega), getD_get hj]
    rw [if_pos (by simp; omega), gd_t (by omega), gd_t (by omega), gd_t (by omega), gd_t (by omega), gd_t (by omega), gd_t (by omega), impl_exchanged_l k a p hl hb hp d n (j + 1) _ (by omega) (by omega) (by simpa using hv), take_set (by omega), drop_get hj, List.append_assoc]
    rfl
theorem impl_exchanged_eq {k : Nat} {a p : List Int} (hl : p.length = a.length) (hb : ∀ x ∈ p, 0 ≤ x ∧ x < (a.length : Int)) (hp : p.length ≤ 1099511627776) (hk : p.length < k) : impl_exchanged.f k a p = some (exch a p, ()) := by
  unfold impl_exchanged.f impl_exchanged.bt
  rw [gd_t (by omega), gd_t (by omega)]
  have := impl_exchanged_l k a p hl hb (by omega) p.length k 0 (List.replicate ((a.length : Int)).toNat 0) (by omega) hk (by simp)
  simpa using this
theorem ImplOV.bounds {a p : List Int} (h : ImplOV p (a.length : Int)) : p.length = a.length ∧ ∀ x ∈ p, 0 ≤ x ∧ x < (a.length : Int) := by
  obtain ⟨_, h2, h3⟩ := h
  refine ⟨by omega, fun x hx => ?_⟩
  obtain ⟨i, hi, rfl⟩ := List.getElem_of_mem hx
  have := (h3 i hi).1
  omega
theorem length_exch (a p : List Int) : (exch a p).length = p.length := by simp [exch]

open Classical in
theorem impl_Exchanged_eq {k : Nat} {a p : List Int} (hk : 13 < k) : impl_Exchanged.f k a p = some (if ImplOV p (a.length : Int) then exch a p else [], ()) := by
  unfold impl_Exchanged.f impl_Exchanged.bt
  rw [impl_OV_eq hk]
  simp only [Option.bind_some]
  by_cases h : ImplOV p (a.length : Int)
  · obtain ⟨h1, h2⟩ := h.bounds
    have h12 := h.1
    have hpl : p.length ≤ 12 := by omega
    rw [if_neg (by simp [h]), impl_exchanged_eq h1 h2 (by omega) (by omega)]
    simp only [Option.bind_some]
    rw [clone_int_eq (by rw [length_exch]; omega), if_pos h]
    rfl
  · rw [if_pos (by simp [h]), if_neg h]
open Classical in
theorem impl_OrderWith_eq {k : Nat} {a b : List Int} (hk : 13 < k) : impl_OrderWith.f k a b = some (if ImplOV a (a.length : Int) ∧ ImplOV b (a.length : Int) then exch a b else [], ()) := by
  unfold impl_OrderWith.f impl_OrderWith.bt
  rw [impl_OV_eq hk]
  simp only [Option.bind_some]
  by_cases h0 : ImplOV a (a.length : Int)
  · rw [if_neg (by simp [h0]), impl_OV_eq hk]
    simp only [Option.bind_some]
    by_cases h : ImplOV b (a.length : Int)
    · obtain ⟨h1, h2⟩ := h.bounds
      have h12 := h.1
      have hpl : b.length ≤ 12 := by omega
      rw [if_neg (by simp [h]), impl_exchanged_eq h1 h2 (by omega) (by omega)]
      simp only [Option.bind_some]
      rw [clone_int_eq (by rw [length_exch]; omega), if_pos ⟨h0, h⟩]
      rfl
    · rw [if_pos (by simp [h]), if_neg (fun h' => h h'.2)]
  · rw [if_pos (by simp [h0]), if_neg (fun h' => h0 h'.1)]

open Classical in
theorem spec_Exchanged_l (k : Nat) (a p : List Int) (hk : 13 < k) (hpk : p.length < k) (h : SpecOV p (a.length : Int)) : ∀ (d n j : Nat) (v : List Int), j + d = p.length → d < n → v.length = j →
    spec_Exchanged.l3 k a p n v (j : Int) = some (v ++ exch a (p.drop j), ())
  | 0, n + 1, j, v, hd, hn, hv => by
    simp only [spec_Exchanged.l3, spec_Exchanged.b3]
    rw [if_neg (by simp; omega), List.drop_eq_nil_of_le (by omega)]
    simp [exch]
  | d + 1, n + 1, j, v, hd, hn, hv => by
    have hj : j < p.length := by omega
    have h1 := h.1
    have h2 := h.2.1
    obtain ⟨_, hb⟩ := ((OV_iff _ _).1 h).bounds
    have hx := hb p[j] (List.getElem_mem hj)
    simp only [spec_Exchanged.l3, spec_Exchanged.b3, toNat_nat, w64_nat (j := j) (by omega), getD_get hj]
    rw [if_pos (by simp; omega), spec_OV_eq hpk hk (by omega)]
    simp only [Option.bind_some]
    rw [if_pos (by simp [h]), gd_t (by omega), gd_t (by omega), gd_t (by omega), gd_t (by omega), gd_t (by simp; omega), spec_Exchanged_l k a p hk hpk h d n (j + 1) _ (by omega) (by omega) (by simp [hv]), drop_get hj, List.append_assoc]
    rfl
open Classical in
theorem spec_Exchanged_eq {k : Nat} {a p : List Int} (hk : 13 < k) (hpk : p.length < k) (hp : p.length < 4611686018427387904) : spec_Exchanged.f k a p = some (if ImplOV p (a.length : Int) then exch a p else [], ()) := by
  unfold spec_Exchanged.f spec_Exchanged.bt
  by_cases h : SpecOV p (a.length : Int)
  · rw [if_pos ((OV_iff _ _).1 h)]
    have := spec_Exchanged_l k a p hk hpk h p.length k 0 [] (by omega) hpk rfl
    simpa using this
  · rw [if_neg (fun h' => h ((OV_iff _ _).2 h'))]
    obtain ⟨n, rfl⟩ : ∃ n, k = n + 1 := ⟨k - 1, by omega⟩
    simp only [spec_Exchanged.l3, spec_Exchanged.b3]
    by_cases h0 : (0 : Int) < (p.length : Int)
    · rw [if_pos (by simpa using h0), spec_OV_eq hpk hk hp]
      simp only [Option.bind_some]
      rw [if_neg (by simp [h])]
    · rw [if_neg (by simpa using h0)]

open Classical in
theorem spec_OrderWith_l (k : Nat) (a p : List Int) (hp : p.length ≤ 12) (hb : ∀ x ∈ p, 0 ≤ x ∧ x < (a.length : Int)) : ∀ (d n j : Nat) (v : List Int), j + d = p.length → d < n → v.length = j →
    spec_OrderWith.l5 k a p n v (j : Int) = some (v ++ exch a (p.drop j), ())
  | 0, n + 1, j, v, hd, hn, hv => by
    simp only [spec_OrderWith.l5, spec_OrderWith.b5]
    rw [if_neg (by simp; omega), List.drop_eq_nil_of_le (by omega)]
    simp [exch]
  | d + 1, n + 1, j, v, hd, hn, hv => by
    have hj : j < p.length := by omega
    have hx := hb p[j] (List.getElem_mem hj)
    simp only [spec_OrderWith.l5, spec_OrderWith.b5, toNat_nat, w64_nat (j := j) (by omega), getD_get hj]
    rw [if_pos (by simp; omega), gd_t (by omega), gd_t (by omega), gd_t (by omega), gd_t (by omega), gd_t (by simp; omega), spec_OrderWith_l k a p hp hb d n (j + 1) _ (by omega) (by omega) (by simp [hv]), drop_get hj, List.append_assoc]
    rfl
open Classical in
theorem spec_OrderWith_eq {k : Nat} {a b : List Int} (hk : 13 < k) (hak : a.length < k) (hbk : b.length < k) (ha : a.length < 4611686018427387904) (hb : b.length < 4611686018427387904) : spec_OrderWith.f k a b = some (if ImplOV a (a.length : Int) ∧ ImplOV b (a.length : Int) then exch a b else [], ()) := by
  unfold spec_OrderWith.f spec_OrderWith.bt
  rw [spec_OV_eq hak hk ha]
  simp only [Option.bind_some]
  by_cases h0 : SpecOV a (a.length : Int)
  · rw [if_neg (by simp [h0]), spec_OV_eq hbk hk hb]
    simp only [Option.bind_some]
    by_cases h : SpecOV b (a.length : Int)
    · have h' := (OV_iff _ _).1 h
      obtain ⟨h1, h2⟩ := h'.bounds
      have h12 := h.1
      rw [if_neg (by simp [h]), if_pos ⟨(OV_iff _ _).1 h0, h'⟩]
      have := spec_OrderWith_l k a b (by omega) h2 b.length k 0 [] (by omega) hbk rfl
      simpa using this
    · rw [if_pos (by simp [h]), if_neg (fun h' => h ((OV_iff _ _).2 h'.2))]
  · rw [if_pos (by simp [h0]), if_neg (fun h' => h0 ((OV_iff _ _).2 h'.1))]

open Classical in
theorem FnExactExchanged_true (a p : List Int) : ∃ k, laws_FnExactExchanged.f k a p = some (true, ()) := by
  refine ⟨a.length + p.length + 20, ?_⟩
  unfold laws_FnExactExchanged.f laws_FnExactExchanged.bt
  by_cases h1 : (a.length : Int) > 1048576
  · rw [if_pos (by simpa using h1)]
  rw [if_neg (by simpa using h1)]
  by_cases h2 : (p.length : Int) > 1048576
  · rw [if_pos (by simpa using h2)]
  rw [if_neg (by simpa using h2)]
  generalize hk : a.length + p.length + 20 = k
  have ta : laws_toIntS.f k a = some (a, ()) := toIntS_eq (by omega) (by omega)
  have tp : laws_toIntS.f k p = some (p, ()) := toIntS_eq (by omega) (by omega)
  have hs : spec_Exchanged.f k a p = _ := spec_Exchanged_eq (by omega) (by omega) (by omega)
  have hi : impl_Exchanged.f k a p = _ := impl_Exchanged_eq (by omega)
  generalize hx : (if ImplOV p (a.length : Int) then exch a p else [] : List Int) = x at hs hi
  have hxl : x.length ≤ p.length := by
    rw [← hx]; split
    · rw [length_exch]; exact Nat.le_refl _
    · simp
  have eq : ∀ l : List Int, l.length < k → laws_eqIntS.f k l l = some (true, ()) := fun l hl => by
    rw [eqIntS_eq (by omega) hl]; simp
  simp only [ta, tp, hs, hi, Option.bind_some, eq x (by omega), eq a (by omega), eq p (by omega)]
  rw [markIntS_eq (p := a) (by omega) (by omega) (by omega) (by omega)]
  simp only [Option.bind_some]
  rw [markIntS_eq (p := p) (by omega) (by omega) (by omega) (by omega)]
  simp only [Option.bind_some]
  rw [markIntS_eq (p := x) (by omega) (by omega) (by omega) (by omega)]
  simp only [Option.bind_some]
  rw [heldIntS_eq (by omega) (by omega) (by omega) (by omega)]
  simp only [Option.bind_some]
  rw [if_neg (by simp), if_neg (by simp), if_neg (by simp), if_neg (by simp; omega), if_neg (by simp), if_neg (by simp; omega), if_neg (by simp), if_neg (by simp), if_neg (by simp; omega), if_neg (by simp)]

open Classical in
theorem FnExactOrderWith_true (a p : List Int) : ∃ k, laws_FnExactOrderWith.f k a p = some (true, ()) := by
  refine ⟨a.length + p.length + 20, ?_⟩
  unfold laws_FnExactOrderWith.f laws_FnExactOrderWith.bt
  by_cases h1 : (a.length : Int) > 1048576
  · rw [if_pos (by simpa using h1)]
  rw [if_neg (by simpa using h1)]
  by_cases h2 : (p.length : Int) > 1048576
  · rw [if_pos (by simpa using h2)]
  rw [if_neg (by simpa using h2)]
  generalize hk : a.length + p.length + 20 = k
  have ta : laws_toIntS.f k a = some (a, ()) := toIntS_eq (by omega) (by omega)
  have tp : laws_toIntS.f k p = some (p, ()) := toIntS_eq (by omega) (by omega)
  have hs : spec_OrderWith.f k a p = _ := spec_OrderWith_eq (by omega) (by omega) (by omega) (by omega) (by omega)
  have hi : impl_OrderWith.f k a p = _ := impl_OrderWith_eq (by omega)
  generalize hx : (if ImplOV a (a.length : Int) ∧ ImplOV p (a.length : Int) then exch a p else [] : List Int) = x at hs hi
  have hxl : x.length ≤ p.length := by
    rw [← hx]; split
    · rw [length_exch]; exact Nat.le_refl _
    · simp
  have eq : ∀ l : List Int, l.length < k → laws_eqIntS.f k l l = some (true, ()) := fun l hl => by
    rw [eqIntS_eq (by omega) hl]; simp
  simp only [ta, tp, hs, hi, Option.bind_some, eq x (by omega), eq a (by omega), eq p (by omega)]
  rw [markIntS_eq (p := a) (by omega) (by omega) (by omega) (by omega)]
  simp only [Option.bind_some]
  rw [markIntS_eq (p := p) (by omega) (by omega) (by omega) (by omega)]
  simp only [Option.bind_some]
  rw [markIntS_eq (p := x) (by omega) (by omega) (by omega) (by omega)]
  simp only [Option.bind_some]
  rw [heldIntS_eq (by omega) (by omega) (by omega) (by omega)]
  simp only [Option.bind_some]
  rw [if_neg (by simp), if_neg (by simp), if_neg (by simp), if_neg (by simp; omega), if_neg (by simp), if_neg (by simp; omega), if_neg (by simp), if_neg (by simp), if_neg (by simp; omega), if_neg (by simp)]

end Go.Ev
