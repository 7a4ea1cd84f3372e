/- Plain mathematics on what the functions compute. -/
import Derived.Test.YtnbanheipmginaaPD
import Derived.Test.YtnbanheipmginaaPE
import Derived.Test.YtnbanheipmginaaEv4
set_option linter.unusedVariables false
set_option linter.unusedSimpArgs false
namespace Go.Ev

/-! ### laws.wcInts -/
theorem wcInts_l (k : Nat) (p q : List Int) (hq : q.length = p.length) (hp : p.length < 4611686018427387904) : ∀ (d n j : Nat), j + d = p.length → d < n → laws_wcInts.l4 k p q n (j : Int) = some (decide (p.drop j = q.drop j), ())
  | 0, n + 1, j, h, hn => by
    simp only [laws_wcInts.l4, laws_wcInts.b4]
    rw [if_neg (by simp; omega), List.drop_eq_nil_of_le (by omega), List.drop_eq_nil_of_le (by omega)]
    simp
  | d + 1, n + 1, j, h, hn => by
    have hj : j < p.length := by omega
    have hj' : j < q.length := by omega
    simp only [laws_wcInts.l4, laws_wcInts.b4, toNat_nat, w64_nat (j := j) (by omega)]
    rw [if_pos (by simp; omega), gd_t (by omega), gd_t (by omega), gd_t (by omega), gd_t (by omega), getD_get hj, getD_get hj']
    have key : p.drop j = q.drop j ↔ p[j] = q[j] ∧ p.drop (j + 1) = q.drop (j + 1) := by
      rw [drop_get hj, drop_get hj', List.cons.injEq]
    by_cases e : p[j] = q[j]
    · rw [if_neg (by simp [e]), wcInts_l k p q hq hp d n (j + 1) (by omega) (by omega)]
      simp only [key, e, true_and]
    · rw [if_pos (by simp; exact fun h => e h.symm)]
      simp only [key, e, false_and, decide_false]
theorem wcInts_eq {k : Nat} {p q : List Int} (hp : p.length < 4611686018427387904) (hk : p.length < k) : laws_wcInts.f k p q = some (decide (p = q), ()) := by
  unfold laws_wcInts.f laws_wcInts.bt
  by_cases h : q.length = p.length
  · rw [if_neg (by simp [h])]
    have := wcInts_l k p q h hp p.length k 0 (by omega) hk
    simpa using this
  · rw [if_pos (by simp; omega), decide_eq_false (fun e => h (by rw [e]))]

/-! ### marks -/

/-! ### orders, turned back -/
theorem OrderBack_l (k : Nat) (p : List Int) (hb : ∀ x ∈ p, 0 ≤ x ∧ x < (p.length : Int)) (hu : ∀ i (h : i < p.length), p[i] ∉ p.take i) (hp : p.length ≤ 12) : ∀ (d n j : Nat) (v : List Int), j + d = p.length → d < n → v.length = p.length →
    (∀ i (h : i < p.length), i < j → v.getD p[i].toNat 0 = (i : Int)) →
    ∃ r, impl_OrderBack.l5 k p n v (j : Int) = some (r, ()) ∧ r.length = p.length ∧ ∀ i (h : i < p.length), r.getD p[i].toNat 0 = (i : Int)
  | 0, n + 1, j, v, hd, hn, hv, hI => by
    simp only [impl_OrderBack.l5, impl_OrderBack.b5]
    rw [if_neg (by simp; omega), clone_int_eq (by omega)]
    simp only [Option.bind_some]
    exact ⟨v, rfl, hv, fun i h => hI i h (by omega)⟩
  | d + 1, n + 1, j, v, hd, hn, hv, hI => by
    have hj : j < p.length := by omega
    have hx := hb p[j] (List.getElem_mem hj)
    simp only [impl_OrderBack.l5, impl_OrderBack.b5, toNat_nat, getD_get hj]
    rw [if_pos (by simp; omega), gd_t (by omega), gd_t (by omega), gd_t hx.1, gd_t (by omega), w64_nat (by omega)]
    refine OrderBack_l k p hb hu hp d n (j + 1) _ (by omega) (by omega) (by simp [hv]) fun i h hij => ?_
    have hxi := hb p[i] (List.getElem_mem h)
    by_cases e : i = j
    · subst e
      rw [getD_get (by simp; omega)]
      simp
    · have hne : p[i] ≠ p[j] := fun he => hu j hj (by
        rw [← he]
        exact List.mem_take_iff_getElem.2 ⟨i, by omega, rfl⟩)
      have h1 : p[i].toNat < v.length := by omega
      rw [getD_get (by simpa using h1), List.getElem_set_ne (by omega), ← getD_get (d := 0) h1]
      exact hI i h (by omega)
theorem OrderBack_eq {k : Nat} {p : List Int} (hk : 13 < k) (h : ImplOV p (p.length : Int)) :
    ∃ r, impl_OrderBack.f k p = some (r, ()) ∧ r.length = p.length ∧ ∀ i (h : i < p.length), r.getD p[i].toNat 0 = (i : Int) := by
  unfold impl_OrderBack.f impl_OrderBack.bt
  rw [impl_OV_eq hk]
  simp only [Option.bind_some]
  obtain ⟨⟨h0, h1⟩, h2, h3⟩ := h
  rw [if_neg (by simpa using ⟨⟨h0, h1⟩, h2, h3⟩), gd_t (by omega), gd_t (by omega)]
  refine OrderBack_l k p (fun x hx => ?_) (fun i hi => (h3 i hi).2) (by omega) p.length k 0 _ (by omega) (by omega) (by simp) (fun i h hi => by omega)
  obtain ⟨i, hi, rfl⟩ := List.mem_iff_getElem.1 hx
  have := (h3 i hi).1
  omega

theorem exch_get {a p : List Int} {i : Nat} (h : i < p.length) : (exch a p)[i]'(by rw [length_exch]; exact h) = a.getD p[i].toNat 0 := by
  simp [exch]
/-- Two orders, one behind the other, are an order. -/
theorem exch_OV {a b : List Int} {n : Nat} (ha : ImplOV a (n : Int)) (hb : ImplOV b (n : Int)) : ImplOV (exch a b) (n : Int) := by
  have sa := (OV_iff _ _).2 ha
  have sb := (OV_iff _ _).2 hb
  refine (OV_iff _ _).1 ⟨sa.1, by rw [length_exch]; exact sb.2.1, fun i hi => ?_⟩
  obtain ⟨j, hj, ej⟩ := List.mem_iff_getElem.1 (sa.2.2 i hi)
  have hla := sa.2.1
  obtain ⟨l, hl, el⟩ := List.mem_iff_getElem.1 (sb.2.2 j (by omega))
  refine List.mem_iff_getElem.2 ⟨l, by rw [length_exch]; exact hl, ?_⟩
  rw [exch_get hl, el, toNat_nat, getD_get hj, ej]
theorem exch_exch {s a b : List Int} (hb : ∀ x ∈ b, 0 ≤ x ∧ x < (a.length : Int)) : exch s (exch a b) = exch (exch s a) b := by
  unfold exch
  rw [List.map_map]
  refine List.map_congr_left fun x hx => ?_
  have := hb x hx
  have hx : x.toNat < a.length := by omega
  show s.getD (a.getD x.toNat 0).toNat 0 = (a.map fun i => s.getD i.toNat 0).getD x.toNat 0
  rw [getD_get hx, getD_get (xs := a.map fun i => s.getD i.toNat 0) (by simpa using hx)]
  simp
theorem exch_back {s p r : List Int} (h : ImplOV p (s.length : Int)) (hr : r.length = p.length) (hi : ∀ i (h : i < p.length), r.getD p[i].toNat 0 = (i : Int)) :
    ImplOV r (s.length : Int) ∧ exch (exch s p) r = s := by
  have sp := (OV_iff _ _).2 h
  have hb := h.bounds
  have hlen := hb.1
  constructor
  · refine (OV_iff _ _).1 ⟨sp.1, by rw [hr]; exact sp.2.1, fun i h => ?_⟩
    have hip : i < p.length := by omega
    have hx := hb.2 _ (List.getElem_mem hip)
    have hk : p[i].toNat < r.length := by omega
    rw [← hi i hip, getD_get hk]
    exact List.getElem_mem hk
  · refine List.ext_getElem (by simp [exch]; omega) fun y h1 h2 => ?_
    rw [exch_get (by simpa [exch] using h1)]
    obtain ⟨i, hip, ei⟩ := List.mem_iff_getElem.1 (sp.2.2 y (by omega))
    have e := hi i hip
    rw [ei, toNat_nat] at e
    have hyr : y < r.length := by omega
    rw [getD_get hyr] at e
    rw [e, toNat_nat, getD_get (by rw [length_exch]; exact hip), exch_get hip, ei, toNat_nat, getD_get h2]

/-! ### drawn arguments -/
theorem many_ok {k : Nat} {s : List Int × Int} (h : RdOk s 0) : ∃ m : Nat, spec_l40Rd_num.f k s [2, 3, 1, 0, 4] = some ((m : Int), (s.1, s.2 + 1)) ∧ m ≤ 4 := by
  obtain ⟨v, e, hv⟩ := num_ok (k := k) h (by omega) (l := [2, 3, 1, 0, 4]) (by simp)
  have : 0 ≤ v ∧ v ≤ 4 := by
    simp only [List.mem_cons, List.not_mem_nil, or_false] at hv
    omega
  obtain ⟨m, rfl⟩ := Int.eq_ofNat_of_zero_le this.1
  exact ⟨m, e, by omega⟩

theorem DrawExchanged_ok {k : Nat} {b : List Int} (hk : 100 < k) (hb : ∀ x ∈ b, 0 ≤ x ∧ x ≤ 255) : ∃ s o, spec_DrawExchanged.f k b = some ((s, o), ()) ∧ s.length ≤ 4 ∧ o.length ≤ 5 := by
  unfold spec_DrawExchanged.f spec_DrawExchanged.bt
  obtain ⟨s0, e0, h0⟩ := l40Open_ok (k := k) hb
  rw [e0]; simp only [Option.bind_some]
  obtain ⟨m, e1, hm⟩ := many_ok (k := k) h0
  rw [e1]; simp only [Option.bind_some]
  obtain ⟨s, s1, e2, hs, h1⟩ := l1Numbers_ok (k := k) (m := m) (by omega) (by omega) h0.next (by omega)
  rw [e2]; simp only [Option.bind_some]
  obtain ⟨o, s2, e3, ho, h2⟩ := l9Order_ok (k := k) (m := m) (by omega) (by omega) h1 (by omega)
  rw [e3]; simp only [Option.bind_some]
  exact ⟨s, o, rfl, by omega, by omega⟩

theorem DrawOrderWith_ok {k : Nat} {c : List Int} (hk : 100 < k) (hc : ∀ x ∈ c, 0 ≤ x ∧ x ≤ 255) : ∃ a b, spec_DrawOrderWith.f k c = some ((a, b), ()) ∧ a.length ≤ 5 ∧ b.length ≤ 5 ∧ (ImplOV a (a.length : Int) → a.length ≤ 4) := by
  unfold spec_DrawOrderWith.f spec_DrawOrderWith.bt
  obtain ⟨s0, e0, h0⟩ := l40Open_ok (k := k) hc
  rw [e0]; simp only [Option.bind_some]
  obtain ⟨m, e1, hm⟩ := many_ok (k := k) h0
  rw [e1]; simp only [Option.bind_some]
  obtain ⟨a, s1, e2, ha, h1⟩ := l9Order_ok (k := k) (m := m) (by omega) (by omega) h0.next (by omega)
  rw [e2]; simp only [Option.bind_some]
  obtain ⟨b, s2, e3, hb, h2⟩ := l9Order_ok (k := k) (m := m) (by omega) (by omega) h1 (by omega)
  rw [e3]; simp only [Option.bind_some]
  refine ⟨a, b, rfl, by omega, by omega, fun hov => ?_⟩
  rcases ha with ha | ⟨ha, hx⟩
  · omega
  · by_cases h4 : m = 4
    · have := ((OV_iff _ _).2 hov).2.2 4 (by omega)
      rcases hx _ this with h | h <;> omega
    · omega

open Classical in
theorem FnExchanged_true (code : List Int) (hw : Wf (.slice false (.int .u8)) code) : ∃ k, laws_FnExchanged.f k code = some (true, ()) := by
  have hb : ∀ x ∈ code, 0 ≤ x ∧ x ≤ 255 := fun x hx => hw.2 x hx
  refine ⟨1000, ?_⟩
  unfold laws_FnExchanged.f laws_FnExchanged.bt
  by_cases h1 : (code.length : Int) > 1048576
  · rw [if_pos (by simpa using h1)]
  rw [if_neg (by simpa using h1)]
  generalize hk : 1000 = k
  obtain ⟨s, o, e1, hs, ho⟩ := DrawExchanged_ok (k := k) (by omega) hb
  obtain ⟨a, b, e2, ha, hbl, hov⟩ := DrawOrderWith_ok (k := k) (by omega) hb
  rw [e1]; simp only [Option.bind_some]
  rw [e2]; simp only [Option.bind_some]
  rw [impl_Exchanged_eq (by omega)]; simp only [Option.bind_some]
  rw [impl_OrderWith_eq (by omega)]; simp only [Option.bind_some]
  rw [spec_Exchanged_eq (by omega) (by omega) (by omega)]; simp only [Option.bind_some]
  have wc : ∀ l : List Int, l.length ≤ 5 → laws_wcInts.f k l l = some (true, ()) := fun l hl => by
    rw [wcInts_eq (by omega) (by omega)]; simp
  have lx : (if ImplOV o (s.length : Int) then exch s o else [] : List Int).length ≤ 5 := by
    split
    · rw [length_exch]; exact ho
    · simp
  have lb : (if ImplOV a (a.length : Int) ∧ ImplOV b (a.length : Int) then exch a b else [] : List Int).length ≤ 5 := by
    split
    · rw [length_exch]; exact hbl
    · simp
  rw [wc _ lx]; simp only [Option.bind_some]
  rw [if_neg (by simp), spec_OrderWith_eq (by omega) (by omega) (by omega) (by omega) (by omega)]; simp only [Option.bind_some]
  rw [wc _ lb]; simp only [Option.bind_some]
  rw [if_neg (by simp)]
  have tail : laws_FnExchanged.lj13 k k s o (if ImplOV o (s.length : Int) then exch s o else []) = some (true, ()) := by
    rw [← hk]
    show laws_FnExchanged.bj13 1000 s o _ = _
    rw [hk]
    unfold laws_FnExchanged.bj13
    by_cases hO : ImplOV o (s.length : Int)
    · rw [if_pos hO]
      have hol := hO.bounds.1
      by_cases h0 : ((exch s o).length : Int) = 0
      · rw [if_pos (by simpa using h0)]
      · rw [if_neg (by simpa using h0)]
        obtain ⟨r, er, hr, hi⟩ := OrderBack_eq (k := k) (p := o) (by omega) (by rw [hol]; exact hO)
        rw [er]; simp only [Option.bind_some]
        obtain ⟨g1, g2⟩ := exch_back hO hr hi
        rw [impl_Exchanged_eq (by omega)]; simp only [Option.bind_some]
        rw [if_pos (by rw [length_exch, hol]; exact g1), g2, wc s (by omega)]
        rfl
    · rw [if_neg hO]
      rfl
  by_cases hA : ImplOV a (a.length : Int) ∧ ImplOV b (a.length : Int)
  · rw [if_pos hA]
    by_cases hpos : ((exch a b).length : Int) > 0
    · rw [if_pos (by simpa using hpos)]
      have ha4 := hov hA.1
      have hrow : ∀ n : Nat, n ≤ 4 → (([7, 5, 3, 2] : List Int).take n).length = n := fun n hn => by simp; omega
      rw [gd_t (by omega), gd_t (by omega), gd_t (by simp; omega)]
      simp only [toNat_nat]
      have hd : (([7, 5, 3, 2] : List Int).take a.length).drop (Int.toNat 0) = ([7, 5, 3, 2] : List Int).take a.length := rfl
      rw [hd]
      have hR := hrow a.length ha4
      generalize ([7, 5, 3, 2] : List Int).take a.length = row at hR ⊢
      rw [impl_Exchanged_eq (by omega)]; simp only [Option.bind_some]
      rw [impl_Exchanged_eq (by omega)]; simp only [Option.bind_some]
      rw [impl_Exchanged_eq (by omega)]; simp only [Option.bind_some]
      rw [hR, if_pos (exch_OV hA.1 hA.2), if_pos hA.1, if_pos (by rw [length_exch]; exact hA.2), exch_exch hA.2.bounds.2]
      rw [wc _ (by rw [length_exch]; exact hbl)]; simp only [Option.bind_some]
      rw [if_neg (by simp)]
      exact tail
    · rw [if_neg (by simpa using hpos)]
      exact tail
  · rw [if_neg hA, if_neg (by simp)]
    exact tail

end Go.Ev
