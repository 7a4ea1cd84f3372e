/- Plain mathematics on what the functions compute. -/
import Derived.Test.YtnbanheipmginaaPA
set_option linter.unusedVariables false
set_option linter.unusedSimpArgs false
namespace Go.Ev

/-! ### the drawn numbers -/
/-- A reader whose bytes are bytes, and that has been asked at most c times. -/
def RdOk (s : List Int × Int) (c : Nat) : Prop := (∀ x ∈ s.1, 0 ≤ x ∧ x ≤ 255) ∧ s.1.length ≤ 2000 ∧ 0 ≤ s.2 ∧ s.2 ≤ (c : Int)
theorem RdOk.next {s : List Int × Int} {c : Nat} (h : RdOk s c) : RdOk (s.1, s.2 + 1) (c + 1) := by
  obtain ⟨h1, h2, h3, h4⟩ := h
  refine ⟨h1, h2, ?_, ?_⟩
  · show 0 ≤ s.2 + 1
    omega
  · show s.2 + 1 ≤ ((c + 1 : Nat) : Int)
    omega
theorem RdOk.weak {s : List Int × Int} {c c' : Nat} (h : RdOk s c) (hc : c ≤ c') : RdOk s c' := by
  obtain ⟨h1, h2, h3, h4⟩ := h
  exact ⟨h1, h2, h3, by omega⟩

theorem xor_ok {x y : Int} (hx : 0 ≤ x) (hx' : x < 4611686018427387904) (hy : 0 ≤ y) (hy' : y < 4611686018427387904) :
    0 ≤ w64 ((BitVec.ofInt IntKind.i64.bits x ^^^ BitVec.ofInt IntKind.i64.bits y).toNat : Int) := by
  obtain ⟨x, rfl⟩ := Int.eq_ofNat_of_zero_le hx
  obtain ⟨y, rfl⟩ := Int.eq_ofNat_of_zero_le hy
  have e : ∀ z : Nat, z < 4611686018427387904 → (BitVec.ofInt IntKind.i64.bits (z : Int)).toNat = z := by
    intro z hz
    show (BitVec.ofInt 64 (z : Int)).toNat = z
    rw [BitVec.ofInt_natCast, BitVec.toNat_ofNat]
    exact Nat.mod_eq_of_lt (by omega)
  have hlt : (x ^^^ y) < 2 ^ 62 := Nat.xor_lt_two_pow (by omega) (by omega)
  rw [BitVec.toNat_xor, e x (by omega), e y (by omega), w64_id (by omega) (by omega)]
  omega

theorem getD_byte {b : List Int} (h : ∀ x ∈ b, 0 ≤ x ∧ x ≤ 255) (i : Nat) : 0 ≤ b.getD i 0 ∧ b.getD i 0 ≤ 255 := by
  by_cases hi : i < b.length
  · rw [getD_get hi]; exact h _ (List.getElem_mem hi)
  · rw [List.getD_eq_getElem?_getD, List.getElem?_eq_none (by omega)]
    simp

theorem pick_ok {k : Nat} {s : List Int × Int} {c : Nat} (h : RdOk s c) (hc : c < 1000000000) (n : Int) :
    ∃ v, spec_l40Rd_pick.f k s n = some (v, (s.1, s.2 + 1)) ∧ 0 ≤ v ∧ (1 ≤ n → v < n) ∧ (n < 1 → v = 0) := by
  obtain ⟨b, p⟩ := s
  obtain ⟨hb, hl, hp, hpc⟩ := h
  dsimp only at hb hl hp hpc ⊢
  obtain ⟨p, rfl⟩ := Int.eq_ofNat_of_zero_le hp
  have e1 : w64 ((p : Int) + 1) = (p : Int) + 1 := w64_id (by omega) (by omega)
  have e2 : w64 ((p : Int) + 1 - 1) = (p : Int) := by rw [w64_id (by omega) (by omega)]; omega
  have e3 : w64 ((p : Int) * 7) = (p : Int) * 7 := w64_id (by omega) (by omega)
  have e4 : w64 ((p : Int) * 7 + 3) = (p : Int) * 7 + 3 := w64_id (by omega) (by omega)
  have e5 : w64 ((p : Int) * 29) = (p : Int) * 29 := w64_id (by omega) (by omega)
  unfold spec_l40Rd_pick.f spec_l40Rd_pick.bt
  simp only [e1, e2, e3, e4, e5]
  by_cases h1 : n < 1
  · rw [if_pos (by simpa using h1)]
    exact ⟨0, rfl, Int.le_refl _, fun h => by omega, fun _ => rfl⟩
  rw [if_neg (by simpa using h1)]
  have fin : ∀ x : Int, 0 ≤ x → 0 ≤ x.tmod n ∧ (1 ≤ n → x.tmod n < n) ∧ (n < 1 → x.tmod n = 0) := by
    intro x hx
    exact ⟨Int.tmod_nonneg _ hx, fun h => Int.tmod_lt_of_pos _ (by omega), fun h => by omega⟩
  by_cases h2 : b.length = 0
  · rw [if_pos (by simp [h2])]
    exact ⟨0, rfl, Int.le_refl _, fun h => by omega, fun _ => rfl⟩
  rw [if_neg (by simp; intro h; exact h2 (by rw [h]; rfl))]
  by_cases h3 : (p : Int) < (b.length : Int)
  · rw [if_pos (by simpa using h3), gd_t (by omega), gd_t h3, gd_t (by omega)]
    have hx := getD_byte hb ((p : Int)).toNat
    rw [w64_id (by omega) (by omega)]
    exact ⟨_, rfl, fin _ hx.1⟩
  · rw [if_neg (by simpa using h3)]
    have hl0 : (0 : Int) < (b.length : Int) := by omega
    have t1 : 0 ≤ (p : Int).tmod (b.length : Int) := Int.tmod_nonneg _ (by omega)
    have t2 : (p : Int).tmod (b.length : Int) < (b.length : Int) := Int.tmod_lt_of_pos _ hl0
    have t3 : 0 ≤ ((p : Int) * 7 + 3).tmod (b.length : Int) := Int.tmod_nonneg _ (by omega)
    have t4 : ((p : Int) * 7 + 3).tmod (b.length : Int) < (b.length : Int) := Int.tmod_lt_of_pos _ hl0
    rw [gd_t (by omega), gd_t t1, gd_t t2, gd_t (by omega), gd_t t3, gd_t t4, gd_t (by omega), gd_t (by omega), gd_t (by omega)]
    have hx := getD_byte hb ((p : Int).tmod (b.length : Int)).toNat
    have hy := getD_byte hb (((p : Int) * 7 + 3).tmod (b.length : Int)).toNat
    generalize b.getD ((p : Int).tmod (b.length : Int)).toNat 0 = x at hx ⊢
    generalize b.getD (((p : Int) * 7 + 3).tmod (b.length : Int)).toNat 0 = y at hy ⊢
    have hq : 0 ≤ (p : Int).tdiv (b.length : Int) ∧ (p : Int).tdiv (b.length : Int) ≤ (p : Int) :=
      ⟨Int.tdiv_nonneg (by omega) (by omega), Int.tdiv_le_self _ (by omega)⟩
    generalize (p : Int).tdiv (b.length : Int) = q at hq ⊢
    have a1 : w64 x = x := w64_id (by omega) (by omega)
    have a2 : w64 (x * 131) = x * 131 := w64_id (by omega) (by omega)
    have a3 : w64 y = y := w64_id (by omega) (by omega)
    have a4 : w64 (y * 1117) = y * 1117 := w64_id (by omega) (by omega)
    have a5 : w64 (x * 131 + y * 1117) = x * 131 + y * 1117 := w64_id (by omega) (by omega)
    have a6 : w64 (x * 131 + y * 1117 + (p : Int) * 29) = x * 131 + y * 1117 + (p : Int) * 29 := w64_id (by omega) (by omega)
    have a7 : w64 q = q := w64_id (by omega) (by omega)
    have a8 : w64 (q * 53) = q * 53 := w64_id (by omega) (by omega)
    have a9 : w64 (x * 131 + y * 1117 + (p : Int) * 29 + q * 53) = x * 131 + y * 1117 + (p : Int) * 29 + q * 53 := w64_id (by omega) (by omega)
    simp only [a1, a2, a3, a4, a5, a6, a7, a8, a9]
    have hS : 0 ≤ x * 131 + y * 1117 + (p : Int) * 29 + q * 53 ∧ x * 131 + y * 1117 + (p : Int) * 29 + q * 53 < 4611686018427387904 := by omega
    generalize x * 131 + y * 1117 + (p : Int) * 29 + q * 53 = S at hS ⊢
    have hT : 0 ≤ S.tdiv 64 ∧ S.tdiv 64 ≤ S := ⟨Int.tdiv_nonneg (by omega) (by omega), Int.tdiv_le_self _ (by omega)⟩
    have a10 : w64 (S.tdiv 64) = S.tdiv 64 := w64_id (by omega) (by omega)
    simp only [a10]
    exact ⟨_, rfl, fin _ (xor_ok (by omega) (by omega) (by omega) (by omega))⟩

theorem num_ok {k : Nat} {s : List Int × Int} {c : Nat} (h : RdOk s c) (hc : c < 1000000000) {l : List Int} (hl : l ≠ []) :
    ∃ v, spec_l40Rd_num.f k s l = some (v, (s.1, s.2 + 1)) ∧ v ∈ l := by
  obtain ⟨v, e, h0, h1, _⟩ := pick_ok (k := k) h hc (l.length : Int)
  have hpos : 0 < l.length := List.length_pos_iff.2 hl
  have hv := h1 (by omega)
  unfold spec_l40Rd_num.f spec_l40Rd_num.bt
  rw [e]
  simp only [Option.bind_some]
  rw [gd_t h0, gd_t hv]
  have hn : v.toNat < l.length := by omega
  rw [getD_get hn]
  exact ⟨_, rfl, List.getElem_mem hn⟩

theorem l40Open_ok {k : Nat} {b : List Int} (hb : ∀ x ∈ b, 0 ≤ x ∧ x ≤ 255) : ∃ s, spec_l40Open.f k b = some (s, ()) ∧ RdOk s 0 := by
  unfold spec_l40Open.f spec_l40Open.bt
  by_cases h : (b.length : Int) > 2000
  · rw [if_pos (by simpa using h), gd_t (by omega), gd_t (by omega), gd_t (by omega)]
    refine ⟨_, rfl, fun x hx => hb x (List.mem_of_mem_take (List.mem_of_mem_drop hx)), ?_, Int.le_refl _, Int.le_refl _⟩
    show (List.drop _ (List.take _ b)).length ≤ 2000
    simp
    omega
  · rw [if_neg (by simpa using h)]
    exact ⟨_, rfl, hb, by show b.length ≤ 2000; omega, Int.le_refl _, Int.le_refl _⟩

/-! ### numbers -/
theorem l1Number_ok {k : Nat} {s : List Int × Int} {c : Nat} (h : RdOk s c) (hc : c < 1000000) : ∃ v s', spec_l1Number.f k s = some (v, s') ∧ RdOk s' (c + 6) := by
  unfold spec_l1Number.f spec_l1Number.bt
  obtain ⟨v1, e1, _⟩ := pick_ok (k := k) h (by omega) 4
  rw [e1]; simp only [Option.bind_some]
  have h := h.next
  obtain ⟨v2, e2, _⟩ := pick_ok (k := k) h (by omega) 4
  rw [e2]; simp only [Option.bind_some]
  have h := h.next
  obtain ⟨v3, e3, _⟩ := pick_ok (k := k) h (by omega) 7
  rw [e3]; simp only [Option.bind_some]
  have h := h.next
  obtain ⟨v4, e4, _⟩ := pick_ok (k := k) h (by omega) 200
  rw [e4]; simp only [Option.bind_some]
  have h := h.next
  obtain ⟨v5, e5, g0, g1, _⟩ := pick_ok (k := k) h (by omega) 4
  rw [e5]; simp only [Option.bind_some]
  have h := h.next
  rw [gd_t g0, gd_t (by simp; have := g1 (by omega); omega)]
  obtain ⟨v6, e6, _⟩ := num_ok (k := k) h (by omega) (l := [v1, v2, w64 (v3 - 3), 1, 0, w64 (v4 - 100), [9999, -9999, 5000, 100].getD v5.toNat 0]) (by simp)
  rw [e6]; simp only [Option.bind_some]
  exact ⟨_, _, rfl, h.next⟩

theorem l1Numbers_l (k : Nat) (m : Nat) (hm : m ≤ 1000) : ∀ (d n j c : Nat) (s : List Int × Int) (v : List Int), j + d = m → d < n → v.length = j → RdOk s c → c + 6 * d < 100000 →
    ∃ out s', spec_l1Numbers.l3 k (m : Int) n s v (j : Int) = some (out, s') ∧ out.length = m ∧ RdOk s' (c + 6 * d + 2)
  | 0, n + 1, j, c, s, v, hd, hn, hv, h, hc => by
    simp only [spec_l1Numbers.l3, spec_l1Numbers.b3]
    rw [if_neg (by simp; omega)]
    by_cases h0 : (m : Int) > 0
    · rw [if_pos (by simpa using h0)]
      obtain ⟨v1, e1, _⟩ := pick_ok (k := k) h (by omega) 30
      rw [e1]; simp only [Option.bind_some]
      have h := h.next
      by_cases h1 : v1 = 0
      · rw [if_pos (by simp [h1])]
        obtain ⟨v2, e2, _⟩ := num_ok (k := k) h (by omega) (l := [10000, -10000]) (by simp)
        rw [e2]; simp only [Option.bind_some]
        rw [gd_t (by omega), gd_t (by omega)]
        exact ⟨_, _, rfl, by simp; omega, h.next⟩
      · rw [if_neg (by simp [h1])]
        exact ⟨_, _, rfl, by omega, h.weak (by omega)⟩
    · rw [if_neg (by simpa using h0)]
      exact ⟨_, _, rfl, by omega, h.weak (by omega)⟩
  | d + 1, n + 1, j, c, s, v, hd, hn, hv, h, hc => by
    simp only [spec_l1Numbers.l3, spec_l1Numbers.b3]
    rw [if_pos (by simp; omega)]
    obtain ⟨x, s1, e1, h1⟩ := l1Number_ok (k := k) h (by omega)
    rw [e1]; simp only [Option.bind_some]
    rw [gd_t (by simp; omega), w64_nat (by omega)]
    obtain ⟨out, s', e2, g1, g2⟩ := l1Numbers_l k m hm d n (j + 1) (c + 6) s1 (v ++ [x]) (by omega) (by omega) (by simp [hv]) h1 (by omega)
    exact ⟨out, s', e2, g1, g2.weak (by omega)⟩
theorem l1Numbers_ok {k : Nat} {m c : Nat} {s : List Int × Int} (hm : m ≤ 1000) (hk : m < k) (h : RdOk s c) (hc : c + 6 * m < 100000) :
    ∃ out s', spec_l1Numbers.f k s (m : Int) = some (out, s') ∧ out.length = m ∧ RdOk s' (c + 6 * m + 2) :=
  l1Numbers_l k m hm m k 0 c s [] (by omega) hk rfl h hc

/-! ### orders -/
theorem l9Plain_l (k : Nat) (m : Nat) (hm : m ≤ 1000) : ∀ (d n j : Nat) (v : List Int), j + d = m → d < n → v.length = j → (∀ x ∈ v, 0 ≤ x ∧ x < (m : Int)) →
    ∃ out, spec_l9Plain.l3 k (m : Int) n v (j : Int) = some (out, ()) ∧ out.length = m ∧ ∀ x ∈ out, 0 ≤ x ∧ x < (m : Int)
  | 0, n + 1, j, v, hd, hn, hv, hx => by
    simp only [spec_l9Plain.l3, spec_l9Plain.b3]
    rw [if_neg (by simp; omega)]
    exact ⟨_, rfl, by omega, hx⟩
  | d + 1, n + 1, j, v, hd, hn, hv, hx => by
    simp only [spec_l9Plain.l3, spec_l9Plain.b3]
    rw [if_pos (by simp; omega), gd_t (by simp; omega), w64_nat (by omega)]
    refine l9Plain_l k m hm d n (j + 1) (v ++ [(j : Int)]) (by omega) (by omega) (by simp [hv]) fun x h => ?_
    rcases List.mem_append.1 h with h | h
    · exact hx x h
    · rw [List.mem_singleton.1 h]; omega
theorem l9Plain_ok {k m : Nat} (hm : m ≤ 1000) (hk : m < k) : ∃ out, spec_l9Plain.f k (m : Int) = some (out, ()) ∧ out.length = m ∧ ∀ x ∈ out, 0 ≤ x ∧ x < (m : Int) :=
  l9Plain_l k m hm m k 0 [] (by omega) hk rfl (by simp)

theorem mem_set {v : List Int} {i : Nat} {x y : Int} (h : y ∈ v.set i x) : y ∈ v ∨ y = x := List.mem_or_eq_of_mem_set h

theorem l9Order_l (k : Nat) (m : Nat) (hm : m ≤ 1000) : ∀ (d n j c : Nat) (s : List Int × Int) (v : List Int), j + d = m → d < n → v.length = m → (∀ x ∈ v, 0 ≤ x ∧ x < (m : Int)) → RdOk s c → c + d < 100000 →
    ∃ out s', spec_l9Order.l3 k (m : Int) n s v (j : Int) = some (out, s') ∧ (out.length = m ∨ (out.length = m + 1 ∧ ∀ x ∈ out, x = 0 ∨ x < (m : Int))) ∧ RdOk s' (c + d + 3)
  | 0, n + 1, j, c, s, v, hd, hn, hv, hx, h, hc => by
    simp only [spec_l9Order.l3, spec_l9Order.b3]
    rw [if_neg (by simp; omega)]
    have happ : ∀ x ∈ v ++ [(0 : Int)], x = 0 ∨ x < (m : Int) := fun x h => by
      rcases List.mem_append.1 h with h | h
      · exact .inr (hx x h).2
      · exact .inl (List.mem_singleton.1 h)
    obtain ⟨v1, e1, _⟩ := pick_ok (k := k) h (by omega) 14
    rw [e1]; simp only [Option.bind_some]
    have h := h.next
    by_cases h1 : v1 = 0
    · rw [if_pos (by simp [h1])]
      obtain ⟨v2, e2, _⟩ := pick_ok (k := k) h (by omega) 2
      rw [e2]; simp only [Option.bind_some]
      have h := h.next
      by_cases h2 : v2 = 0
      · rw [if_pos (by simp [h2]), gd_t (by simp; omega)]
        exact ⟨_, _, rfl, .inr ⟨by simp [hv], happ⟩, h.weak (by omega)⟩
      · rw [if_neg (by simp [h2])]
        by_cases h3 : m = 0
        · rw [if_pos (by simp [h3]), gd_t (by simp; omega)]
          exact ⟨_, _, rfl, .inr ⟨by simp [hv], happ⟩, h.weak (by omega)⟩
        · rw [if_neg (by simp; omega), w64_id (by omega) (by omega), gd_t (by omega), gd_t (by omega)]
          obtain ⟨v3, e3, _⟩ := num_ok (k := k) h (by omega) (l := [(m : Int), -1, v.getD ((m : Int) - 1).toNat 0]) (by simp)
          rw [e3]; simp only [Option.bind_some]
          rw [gd_t (by omega), gd_t (by omega)]
          exact ⟨_, _, rfl, .inl (by simp [hv]), h.next⟩
    · rw [if_neg (by simp [h1])]
      exact ⟨_, _, rfl, .inl hv, h.weak (by omega)⟩
  | d + 1, n + 1, j, c, s, v, hd, hn, hv, hx, h, hc => by
    simp only [spec_l9Order.l3, spec_l9Order.b3]
    rw [if_pos (by simp; omega)]
    obtain ⟨y, e1, g0, g1, _⟩ := pick_ok (k := k) h (by omega) (m : Int)
    have g1 := g1 (by omega)
    rw [e1]; simp only [Option.bind_some]
    rw [gd_t (by omega), gd_t (by omega), gd_t g0, gd_t (by omega), gd_t (by omega), gd_t (by omega), gd_t g0, gd_t (by simp; omega), w64_nat (by omega)]
    obtain ⟨y, rfl⟩ := Int.eq_ofNat_of_zero_le g0
    have hj : j < v.length := by omega
    have hy : y < v.length := by omega
    have hxj := hx _ (List.getElem_mem hj)
    have hxy := hx _ (List.getElem_mem hy)
    obtain ⟨out, s', e2, g1, g2⟩ := l9Order_l k m hm d n (j + 1) (c + 1) _ ((v.set ((j : Int)).toNat (v.getD ((y : Int)).toNat 0)).set ((y : Int)).toNat (v.getD ((j : Int)).toNat 0)) (by omega) (by omega) (by simp [hv]) (fun x h => by
      rw [toNat_nat, toNat_nat, getD_get hj, getD_get hy] at h
      rcases mem_set h with h | h
      · rcases mem_set h with h | h
        · exact hx x h
        · rw [h]; exact hxy
      · rw [h]; exact hxj) h.next (by omega)
    exact ⟨out, s', e2, g1, g2.weak (by omega)⟩
theorem l9Order_ok {k : Nat} {m c : Nat} {s : List Int × Int} (hm : m ≤ 1000) (hk : m < k) (h : RdOk s c) (hc : c + m < 100000) :
    ∃ out s', spec_l9Order.f k s (m : Int) = some (out, s') ∧ (out.length = m ∨ (out.length = m + 1 ∧ ∀ x ∈ out, x = 0 ∨ x < (m : Int))) ∧ RdOk s' (c + m + 3) := by
  unfold spec_l9Order.f spec_l9Order.bt
  obtain ⟨out, e, h1, h2⟩ := l9Plain_ok (k := k) hm hk
  rw [e]; simp only [Option.bind_some]
  exact l9Order_l k m hm m k 0 c s out (by omega) hk h1 h2 h hc

end Go.Ev
