/- Plain mathematics on what the functions compute. -/
import Derived.Test.YtfhhagbbfiiiiaaGreatFn2
import Derived.Test.YtfhhagbbfiiiiaaGreatEv4
import Derived.IntWalk
import Derived.Lib.SlicesCompact
namespace Go.Ev
theorem w64_nat {j : Nat} (h : j < 4611686018427387904) : w64 ((j : Int) + 1) = ((j + 1 : Nat) : Int) := by
  rw [w64_id (by omega) (by omega)]; omega
theorem toNat_nat (j : Nat) : ((j : Int)).toNat = j := Int.toNat_natCast j
theorem take_set {α : Type} {v : List α} {j : Nat} {x : α} (h : j < v.length) : (v.set j x).take (j + 1) = v.take j ++ [x] := by
  rw [List.take_succ_eq_append_getElem (by simpa using h), List.take_set_of_le (Nat.le_refl j)]
  simp
theorem drop_get {α : Type} {p : List α} {j : Nat} (h : j < p.length) : p.drop j = p[j] :: p.drop (j + 1) := List.drop_eq_getElem_cons h
theorem mem_drop {α : Type} {p : List α} {j : Nat} (h : j < p.length) (x : α) : x ∈ p.drop j ↔ x = p[j] ∨ x ∈ p.drop (j + 1) := by rw [drop_get h, List.mem_cons]
theorem spec_in_eq (k : Nat) (a b c : Int) : spec_l1In.f k a b c = some (decide (b ≤ a ∧ a ≤ c), ()) := by
  rw [spec_l1In.s]
  by_cases h : b ≤ a
  · simp [h]
  · simp [h]
theorem impl_in_eq (k : Nat) (a b c : Int) : impl_in.f k a b c = some (decide (b ≤ a ∧ a ≤ c), ()) := by
  rw [impl_in.s]
  by_cases h : b ≤ a
  · simp [h]
  · simp [h]
theorem l2Has_l (k : Nat) (p : List Int) (x : Int) (hp : p.length < 4611686018427387904) : ∀ (d n j : Nat), j + d = p.length → d < n → spec_l2Has.l2 k p x n (j : Int) = some (decide (x ∈ p.drop j), ())
  | 0, n + 1, j, h, hn => by
    simp only [spec_l2Has.s2]
    rw [if_neg (by simp; omega), List.drop_eq_nil_of_le (by omega)]
    simp
  | d + 1, n + 1, j, h, hn => by
    have hj : j < p.length := by omega
    simp only [spec_l2Has.s2, toNat_nat, w64_nat (j := j) (by omega)]
    rw [if_pos (by simp; omega), gd_t (by omega), gd_t (by omega), getD_get hj]
    by_cases e : p[j] = x
    · rw [if_pos (by simp [e]), decide_eq_true ((mem_drop hj x).2 (.inl e.symm))]
    · rw [if_neg (by simp [e]), l2Has_l k p x hp d n (j + 1) (by omega) (by omega)]
      have : x ≠ p[j] := fun h => e h.symm
      simp only [mem_drop hj x, this, false_or]
theorem l2Has_eq {k : Nat} {p : List Int} {x : Int} (hp : p.length < 4611686018427387904) (hk : p.length < k) : spec_l2Has.f k p x = some (decide (x ∈ p), ()) := by
  rw [spec_l2Has.s]
  have := l2Has_l k p x hp p.length k 0 (by omega) hk
  simpa using this
end Go.Ev

namespace Go.Ev
theorem clone_int_eq {k : Nat} {p : List Int} (hp : p.length ≤ 1099511627776) : impl_clone_int.f k p = some (p, ()) := by
  rw [impl_clone_int.s]
  by_cases h : p.length = 0
  · have : p = [] := List.length_eq_zero_iff.1 h
    subst this
    rfl
  · rw [if_neg (by simp; intro e; exact h (by rw [e]; rfl)), gd_t (by omega), gd_t (by omega)]
    simp
end Go.Ev

namespace Go.Ev
abbrev TM := Int × Int × Int × Int
abbrev VA := Int × Int × Int
abbrev RU := List TM × List Int × List (List TM)
abbrev SY := List VA × List RU
def SmTSS (p : List (List TM)) : Prop := p.length ≤ 1048576 ∧ ∀ x ∈ p, x.length ≤ 1048576
def SmR (r : RU) : Prop := r.1.length ≤ 1048576 ∧ r.2.1.length ≤ 1048576 ∧ SmTSS r.2.2
def BigR (r : RU) : Prop := r.1.length < 9223372036854775808 ∧ r.2.1.length < 9223372036854775808 ∧ r.2.2.length < 9223372036854775808 ∧ ∀ x ∈ r.2.2, x.length < 9223372036854775808
def SmRS (p : List RU) : Prop := p.length ≤ 1048576 ∧ ∀ x ∈ p, SmR x
def SmS (s : SY) : Prop := s.1.length ≤ 1048576 ∧ SmRS s.2
def BigS (s : SY) : Prop := s.1.length < 9223372036854775808 ∧ s.2.length < 9223372036854775808 ∧ ∀ x ∈ s.2, BigR x
end Go.Ev

namespace Go.Ev
def kind10 (op a b : Int) (ks : List Int) (q : Int) : Int :=
  if ks.getD a.toNat 0 ≠ q then 0 else if ks.getD b.toNat 0 ≠ q then 0 else if op = 7 ∧ b ≠ a then 0 else if 5 ≤ op then 2 else 1
def kind5 (op n a b : Int) (ks : List Int) : Int :=
  if ¬(2 ≤ op ∧ op ≤ 9) then 0 else if n ≠ 0 then 0 else if ¬(0 ≤ a ∧ a ≤ (ks.length : Int) - 1) then 0 else if ¬(0 ≤ b ∧ b ≤ (ks.length : Int) - 1) then 0 else
  if 7 ≤ op then kind10 op a b ks 2 else kind10 op a b ks 1
def kind3 (op n a b : Int) (ks : List Int) (vars : Int) : Int :=
  if op = 1 ∧ (0 ≤ n ∧ n ≤ vars - 1) ∧ a = 0 ∧ b = 0 then 1 else kind5 op n a b ks
def kind1 (t : TM) (ks : List Int) (vars : Int) : Int :=
  if t.1 = 0 ∧ (-9999 ≤ t.2.1 ∧ t.2.1 ≤ 9999) ∧ t.2.2.1 = 0 ∧ t.2.2.2 = 0 then 1 else kind3 t.1 t.2.1 t.2.2.1 t.2.2.2 ks vars
theorem l1Kind_eq {k : Nat} (hk : 0 < k) (t : TM) (ks : List Int) (vars : Int) (hks : ks.length ≤ 1000) (hv : 0 ≤ vars ∧ vars ≤ 1000) : spec_l1Kind.f k t ks vars = some (kind1 t ks vars, ()) := by
  obtain ⟨m, rfl⟩ : ∃ m, k = m + 1 := ⟨k - 1, by omega⟩
  obtain ⟨op, n, a, b⟩ := t
  have e1 : w64 ((ks.length : Int) - 1) = (ks.length : Int) - 1 := w64_id (by omega) (by omega)
  have e2 : w64 (vars - 1) = vars - 1 := w64_id (by omega) (by omega)
  have t10 : ∀ q : Int, (0 ≤ a ∧ a ≤ (ks.length : Int) - 1) → (0 ≤ b ∧ b ≤ (ks.length : Int) - 1) → spec_l1Kind.lj10 (m + 1) (op, n, a, b) ks (m + 1) q = some (kind10 op a b ks q, ()) := by
    intro q ha hb
    rw [spec_l1Kind.sj10]
    unfold kind10
    simp only [spec_l1One.s]
    have ha' : a < (ks.length : Int) := by omega
    have hb' : b < (ks.length : Int) := by omega
    simp only [gd_t ha.1, gd_t ha', gd_t hb.1, gd_t hb', Option.bind_some]
    generalize ks.getD a.toNat 0 = x
    generalize ks.getD b.toNat 0 = y
    by_cases h1 : x = q <;> by_cases h2 : y = q <;> by_cases h3 : op = 7 <;> by_cases h4 : b = a <;> by_cases h5 : 5 ≤ op <;> simp [h1, h2, h3, h4, h5] <;> omega
  have t5 : spec_l1Kind.lj5 (m + 1) (op, n, a, b) ks (m + 1) = some (kind5 op n a b ks, ()) := by
    rw [spec_l1Kind.sj5]
    unfold kind5
    dsimp only
    rw [spec_in_eq, e1]
    simp only [Option.bind_some]
    by_cases h1 : (2 ≤ op ∧ op ≤ 9)
    · rw [if_neg (c := (!decide (2 ≤ op ∧ op ≤ 9)) = true) (by simp [h1]), if_neg (c := ¬(2 ≤ op ∧ op ≤ 9)) (fun h => h h1)]
      by_cases h2 : n = 0
      · rw [if_neg (c := (n != 0) = true) (by simpa using h2), if_neg (c := n ≠ 0) (fun h => h h2), spec_in_eq]
        simp only [Option.bind_some]
        by_cases ha : (0 ≤ a ∧ a ≤ (ks.length : Int) - 1)
        · rw [if_neg (c := (!decide (0 ≤ a ∧ a ≤ (ks.length : Int) - 1)) = true) (by simp [ha]), if_neg (c := ¬(0 ≤ a ∧ a ≤ (ks.length : Int) - 1)) (fun h => h ha), spec_in_eq]
          simp only [Option.bind_some]
          by_cases hb : (0 ≤ b ∧ b ≤ (ks.length : Int) - 1)
          · rw [if_neg (c := (!decide (0 ≤ b ∧ b ≤ (ks.length : Int) - 1)) = true) (by simp [hb]), if_neg (c := ¬(0 ≤ b ∧ b ≤ (ks.length : Int) - 1)) (fun h => h hb)]
            by_cases h7 : 7 ≤ op
            · rw [if_pos (c := decide (op ≥ 7) = true) (by simpa using h7), if_pos h7, t10 2 ha hb]
            · rw [if_neg (c := decide (op ≥ 7) = true) (by simpa using h7), if_neg h7, t10 1 ha hb]
          · rw [if_pos (c := (!decide (0 ≤ b ∧ b ≤ (ks.length : Int) - 1)) = true) (by rw [decide_eq_false hb]; rfl), if_pos (c := ¬(0 ≤ b ∧ b ≤ (ks.length : Int) - 1)) hb]
        · rw [if_pos (c := (!decide (0 ≤ a ∧ a ≤ (ks.length : Int) - 1)) = true) (by rw [decide_eq_false ha]; rfl), if_pos (c := ¬(0 ≤ a ∧ a ≤ (ks.length : Int) - 1)) ha]
      · rw [if_pos (c := (n != 0) = true) (by simpa using h2), if_pos (c := n ≠ 0) h2]
    · rw [if_pos (c := (!decide (2 ≤ op ∧ op ≤ 9)) = true) (by rw [decide_eq_false h1]; rfl), if_pos (c := ¬(2 ≤ op ∧ op ≤ 9)) h1]
  have t3 : spec_l1Kind.lj3 (m + 1) (op, n, a, b) ks vars (m + 1) = some (kind3 op n a b ks vars, ()) := by
    rw [spec_l1Kind.sj3]
    unfold kind3
    dsimp only
    rw [t5, spec_in_eq, e2]
    simp only [Option.bind_some]
    by_cases h1 : op = 1 <;> by_cases h2 : (0 ≤ n ∧ n ≤ vars - 1) <;> by_cases h3 : a = 0 <;> by_cases h4 : b = 0 <;> simp [h1, h2, h3, h4]
  rw [spec_l1Kind.s]
  unfold kind1
  dsimp only
  rw [t3, spec_in_eq]
  simp only [Option.bind_some]
  by_cases h1 : op = 0 <;> by_cases h2 : (-9999 ≤ n ∧ n ≤ 9999) <;> by_cases h3 : a = 0 <;> by_cases h4 : b = 0 <;> simp [h1, h2, h3, h4]
def partsP (op : Int) : Int × Int × Int :=
  if op = 2 ∨ op = 3 ∨ op = 4 then (2, 1, 1) else if op = 5 ∨ op = 6 then (2, 1, 2) else if op = 7 then (1, 2, 2) else if op = 8 ∨ op = 9 then (2, 2, 2) else (0, 0, 1)
theorem parts_eq {k : Nat} (hk : 0 < k) (op : Int) : impl_parts.f k op = some (partsP op, ()) := by
  obtain ⟨m, rfl⟩ : ∃ m, k = m + 1 := ⟨k - 1, by omega⟩
  rw [impl_parts.s]
  unfold partsP
  simp only [impl_parts.sj8]
  by_cases h2 : op = 2
  · subst h2; rfl
  by_cases h3 : op = 3
  · subst h3; rfl
  by_cases h4 : op = 4
  · subst h4; rfl
  by_cases h5 : op = 5
  · subst h5; rfl
  by_cases h6 : op = 6
  · subst h6; rfl
  by_cases h7 : op = 7
  · subst h7; rfl
  by_cases h8 : op = 8
  · subst h8; rfl
  by_cases h9 : op = 9
  · subst h9; rfl
  simp [h2, h3, h4, h5, h6, h7, h8, h9]
theorem kindsOf_step {k : Nat} (hk : 0 < k) (n : Nat) (p : List TM) (vars : Int) (hv : 0 ≤ vars ∧ vars ≤ 1000) (ks : List Int) (j : Nat) (hj : j < p.length) (hks : ks.length = j) (hp : p.length ≤ 1000) :
    impl_kindsOf.l5 k p vars (n + 1) ks (j : Int) = if kind1 p[j] ks vars = 0 then some ([], ()) else impl_kindsOf.l5 k p vars n (ks ++ [kind1 p[j] ks vars]) ((j + 1 : Nat) : Int) := by
  have e1 : w64 ((j : Int) - 1) = (j : Int) - 1 := w64_id (by omega) (by omega)
  have e2 : w64 (vars - 1) = vars - 1 := w64_id (by omega) (by omega)
  have hlim : ∀ x : Int, (ks.length : Int) + ([x].length : Int) ≤ 1099511627776 := fun x => by simp; omega
  simp only [impl_kindsOf.s5, toNat_nat, w64_nat (j := j) (by omega), getD_get hj]
  rw [if_pos (by simp; omega), gd_t (by omega), gd_t (by omega), parts_eq hk, impl_in_eq]
  simp only [Option.bind_some, impl_in_eq, e1, e2, gd_t (hlim _)]
  generalize p[j] = t
  obtain ⟨op, m, a, b⟩ := t
  dsimp only
  generalize hE : (fun x : Int => impl_kindsOf.l5 k p vars n (ks ++ [x]) ((j + 1 : Nat) : Int)) = E
  have hE' : ∀ x, impl_kindsOf.l5 k p vars n (ks ++ [x]) ((j + 1 : Nat) : Int) = E x := fun x => by rw [← hE]
  simp only [hE']
  by_cases h0 : op = 0
  · subst h0
    have hp0 : partsP 0 = (0, 0, 1) := rfl
    have h5 : kind5 0 m a b ks = 0 := by unfold kind5; rw [if_pos (by omega)]
    simp only [hp0, kind1, kind3, h5]
    by_cases h2 : (-9999 ≤ m ∧ m ≤ 9999) <;> by_cases h3 : a = 0 <;> by_cases h4 : b = 0 <;> simp [h2, h3, h4]
  by_cases h1 : op = 1
  · subst h1
    have hp0 : partsP 1 = (0, 0, 1) := rfl
    have h5 : kind5 1 m a b ks = 0 := by unfold kind5; rw [if_pos (by omega)]
    simp only [hp0, kind1, kind3, h5]
    by_cases h2 : (0 ≤ m ∧ m ≤ vars - 1) <;> by_cases h3 : a = 0 <;> by_cases h4 : b = 0 <;> simp [h2, h3, h4]
  have hkd : kind1 (op, m, a, b) ks vars = kind5 op m a b ks := by
    unfold kind1 kind3
    rw [if_neg (fun h => h0 h.1), if_neg (fun h => h1 h.1)]
  rw [hkd, if_neg (c := (op == 0) = true) (by simpa using h0), if_neg (c := (op == 1) = true) (by simpa using h1)]
  by_cases h9 : 0 ≤ op ∧ op ≤ 9
  · rw [if_pos (c := decide (0 ≤ op ∧ op ≤ 9) = true) (by simpa using h9)]
    have hpp : (partsP op).2.1 = (if 7 ≤ op then 2 else 1) ∧ (partsP op).2.2 = (if 5 ≤ op then 2 else 1) ∧ ((partsP op).1 = 2 ↔ op ≠ 7) := by
      have : op = 2 ∨ op = 3 ∨ op = 4 ∨ op = 5 ∨ op = 6 ∨ op = 7 ∨ op = 8 ∨ op = 9 := by omega
      rcases this with h | h | h | h | h | h | h | h <;> subst h <;> decide
    obtain ⟨q1, q2, q3⟩ := hpp
    generalize (partsP op).1 = g at q3
    rw [q1, q2]
    unfold kind5
    rw [if_neg (c := ¬(2 ≤ op ∧ op ≤ 9)) (by omega), hks]
    by_cases hm : m = 0
    · rw [if_pos (c := (m == 0) = true) (by simpa using hm), if_neg (c := m ≠ 0) (fun h => h hm)]
      by_cases ha : 0 ≤ a ∧ a ≤ (j : Int) - 1
      · rw [if_pos (c := decide (0 ≤ a ∧ a ≤ (j : Int) - 1) = true) (by simpa using ha), if_neg (c := ¬(0 ≤ a ∧ a ≤ (j : Int) - 1)) (fun h => h ha)]
        by_cases hb : 0 ≤ b ∧ b ≤ (j : Int) - 1
        · rw [if_pos (c := decide (0 ≤ b ∧ b ≤ (j : Int) - 1) = true) (by simpa using hb), if_neg (c := ¬(0 ≤ b ∧ b ≤ (j : Int) - 1)) (fun h => h hb)]
          have ha' : a < (j : Int) := by omega
          have hb' : b < (j : Int) := by omega
          simp only [gd_t ha.1, gd_t ha', gd_t hb.1, gd_t hb', kind10]
          by_cases h7 : op = 7
          · have hg : g ≠ 2 := fun e => (q3.1 e) h7
            subst h7
            by_cases hx : ks.getD a.toNat 0 = 2 <;> by_cases hy : ks.getD b.toNat 0 = 2 <;> by_cases hab : a = b <;> simp [hx, hy, hab, hg, -List.getD_eq_getElem?_getD] <;> (intro h; exact absurd h.symm hab)
          · have hg : g = 2 := q3.2 h7
            subst hg
            by_cases h77 : 7 ≤ op
            · have h55 : 5 ≤ op := by omega
              by_cases hx : ks.getD a.toNat 0 = 2 <;> by_cases hy : ks.getD b.toNat 0 = 2 <;> simp [h77, h55, hx, hy, h7, -List.getD_eq_getElem?_getD]
            · by_cases h55 : 5 ≤ op <;> by_cases hx : ks.getD a.toNat 0 = 1 <;> by_cases hy : ks.getD b.toNat 0 = 1 <;> simp [h77, h55, hx, hy, h7, -List.getD_eq_getElem?_getD]
        · rw [if_neg (c := decide (0 ≤ b ∧ b ≤ (j : Int) - 1) = true) (by simpa using hb), if_pos (c := ¬(0 ≤ b ∧ b ≤ (j : Int) - 1)) hb]
          rfl
      · rw [if_neg (c := decide (0 ≤ a ∧ a ≤ (j : Int) - 1) = true) (by simpa using ha), if_pos (c := ¬(0 ≤ a ∧ a ≤ (j : Int) - 1)) ha]
        rfl
    · rw [if_neg (c := (m == 0) = true) (by simpa using hm), if_pos (c := m ≠ 0) hm]
      rfl
  · rw [if_neg (c := decide (0 ≤ op ∧ op ≤ 9) = true) (by rw [decide_eq_false h9]; simp)]
    unfold kind5
    rw [if_pos (c := ¬(2 ≤ op ∧ op ≤ 9)) (by omega), if_pos (by rw [decide_eq_false h9]; rfl)]
    rfl
def KindsAt (p : List TM) (vars : Int) (ks : List Int) : Prop := ∀ i (h : i < ks.length) (h' : i < p.length), kind1 p[i] (ks.take i) vars = ks[i] ∧ ks[i] ≠ 0
theorem KindsAt.snoc {p : List TM} {vars : Int} {ks : List Int} (h : KindsAt p vars ks) (hj : ks.length < p.length) (h0 : kind1 p[ks.length] ks vars ≠ 0) : KindsAt p vars (ks ++ [kind1 p[ks.length] ks vars]) := by
  intro i h1 h2
  by_cases e : i < ks.length
  · rw [List.getElem_append_left e, List.take_append_of_le_length (by omega)]
    exact h i e h2
  · have : i = ks.length := by simp at h1; omega
    subst this
    rw [List.getElem_append_right (by omega)]
    simp [h0]
def KindIs (p : List TM) (vars q : Int) : Prop := ∃ ks, KindsAt p vars ks ∧ ks.length = p.length ∧ 1 ≤ p.length ∧ p.length ≤ 40 ∧ ks.getD (ks.length - 1) 0 = q
theorem kinds_l {k : Nat} (hk : 0 < k) (p : List TM) (vars : Int) (hv : 0 ≤ vars ∧ vars ≤ 1000) (hp : p.length ≤ 1000) (hp0 : 1 ≤ p.length) : ∀ (d n n' j : Nat) (ks : List Int), j + d = p.length → d < n → d < n' → ks.length = j → KindsAt p vars ks →
    ∃ r, spec_KindsOf.l5 k p vars n ks (j : Int) = some (r, ()) ∧ impl_kindsOf.l5 k p vars n' ks (j : Int) = some (r, ()) ∧ (r = [] ∨ r.length = p.length ∧ KindsAt p vars r)
  | 0, n + 1, n' + 1, j, ks, hd, hn, hn', hks, hK => by
    refine ⟨ks, ?_, ?_, .inr ⟨by omega, hK⟩⟩
    · simp only [spec_KindsOf.s5]
      rw [if_neg (by simp; omega)]
    · simp only [impl_kindsOf.s5]
      rw [if_neg (by simp; omega), gd_t (by omega)]
  | d + 1, n + 1, n' + 1, j, ks, hd, hn, hn', hks, hK => by
    have hj : j < p.length := by omega
    have hs : spec_KindsOf.l5 k p vars (n + 1) ks (j : Int) = if kind1 p[j] ks vars = 0 then some ([], ()) else spec_KindsOf.l5 k p vars n (ks ++ [kind1 p[j] ks vars]) ((j + 1 : Nat) : Int) := by
      simp only [spec_KindsOf.s5, toNat_nat, w64_nat (j := j) (by omega), getD_get hj]
      rw [if_pos (by simp; omega), gd_t (by omega), gd_t (by omega), l1Kind_eq hk _ _ _ (by omega) hv]
      simp only [Option.bind_some]
      by_cases h : kind1 p[j] ks vars = 0
      · rw [if_pos (by simpa using h), if_pos h]
      · rw [if_neg (by simpa using h), if_neg h, gd_t (by simp; omega)]
    rw [hs, kindsOf_step hk n' p vars hv ks j hj hks hp]
    by_cases h : kind1 p[j] ks vars = 0
    · exact ⟨[], by rw [if_pos h], by rw [if_pos h], .inl rfl⟩
    · rw [if_neg h, if_neg h]
      subst hks
      exact kinds_l hk p vars hv hp hp0 d n n' (ks.length + 1) _ (by omega) (by omega) (by omega) (by simp) (hK.snoc hj h)
theorem kinds_eq {k : Nat} (hk : 1000 < k) (p : List TM) (vars : Int) (hp : p.length < 9223372036854775808) : ∃ r, spec_KindsOf.f k p vars = some (r, ()) ∧ impl_kindsOf.f k p vars = some (r, ()) ∧ r.length ≤ 40 ∧ (r.length = 0 ∨ r.length = p.length ∧ KindsAt p vars r ∧ 1 ≤ p.length) := by
  rw [spec_KindsOf.s, impl_kindsOf.s]
  rw [spec_in_eq, impl_in_eq]
  simp only [Option.bind_some]
  by_cases h1 : 0 ≤ vars ∧ vars ≤ 5
  · rw [if_neg (c := (!decide (0 ≤ vars ∧ vars ≤ 5)) = true) (by simp [h1]), if_neg (c := (!decide (0 ≤ vars ∧ vars ≤ 5)) = true) (by simp [h1]), spec_in_eq, impl_in_eq]
    simp only [Option.bind_some]
    by_cases h2 : 1 ≤ (p.length : Int) ∧ (p.length : Int) ≤ 40
    · rw [if_neg (c := (!decide (1 ≤ (p.length : Int) ∧ (p.length : Int) ≤ 40)) = true) (by rw [decide_eq_true h2]; simp), if_neg (c := (!decide (1 ≤ (p.length : Int) ∧ (p.length : Int) ≤ 40)) = true) (by rw [decide_eq_true h2]; simp), gd_t (by omega), gd_t (by omega), gd_t (by omega)]
      obtain ⟨r, e1, e2, hr⟩ := kinds_l (k := k) (by omega) p vars (by omega) (by omega) (by omega) p.length k k 0 [] (by omega) (by omega) (by omega) rfl (fun i h => by simp at h)
      refine ⟨r, e1, e2, ?_, ?_⟩
      · rcases hr with hr | hr
        · rw [hr]; simp
        · omega
      · rcases hr with hr | hr
        · exact .inl (by rw [hr]; rfl)
        · exact .inr ⟨hr.1, hr.2, by omega⟩
    · rw [if_pos (c := (!decide (1 ≤ (p.length : Int) ∧ (p.length : Int) ≤ 40)) = true) (by rw [decide_eq_false h2]; rfl), if_pos (c := (!decide (1 ≤ (p.length : Int) ∧ (p.length : Int) ≤ 40)) = true) (by rw [decide_eq_false h2]; rfl)]
      exact ⟨[], rfl, rfl, by simp, .inl rfl⟩
  · rw [if_pos (c := (!decide (0 ≤ vars ∧ vars ≤ 5)) = true) (by rw [decide_eq_false h1]; rfl), if_pos (c := (!decide (0 ≤ vars ∧ vars ≤ 5)) = true) (by rw [decide_eq_false h1]; rfl)]
    exact ⟨[], rfl, rfl, by simp, .inl rfl⟩
theorem isKind_eq {k : Nat} (hk : 1000 < k) (p : List TM) (vars q : Int) (hq : q ≠ 0) (hp : p.length < 9223372036854775808) : ∃ g, impl_kindOf.f k p vars = some (g, ()) ∧ spec_l2Is.f k p vars q = some (g == q, ()) ∧ (g = q → KindIs p vars q) := by
  obtain ⟨r, e1, e2, hr, hR⟩ := kinds_eq hk p vars hp
  rw [impl_kindOf.s, spec_l2Is.s]
  rw [e1, e2]
  simp only [Option.bind_some]
  by_cases h : r.length = 0
  · refine ⟨0, by rw [if_pos (by simpa using h)], ?_, fun e => absurd e.symm hq⟩
    rw [if_neg (by rw [decide_eq_false (by omega)]; simp)]
    have : (0 : Int) ≠ q := fun e => hq e.symm
    simp [this]
  · rw [if_neg (by simpa using h), if_pos (by rw [decide_eq_true (by omega)]), w64_id (by omega) (by omega), gd_t (by omega), gd_t (by omega), gd_t (by omega), gd_t (by omega)]
    rcases hR with hR | ⟨h1, h2, h3⟩
    · exact absurd hR h
    refine ⟨_, rfl, rfl, fun e => ⟨r, h2, h1, h3, by omega, ?_⟩⟩
    rw [← e]; congr 1; omega
end Go.Ev

namespace Go.Ev
def RuleAt (r : RU) (vars : Int) (j : Nat) : Prop := ∀ i (h : i < r.2.1.length), j ≤ i → (0 ≤ r.2.1[i] ∧ r.2.1[i] ≤ vars - 1) ∧ (∀ h0 : 0 < i, r.2.1[i - 1]'(by omega) < r.2.1[i]) ∧ ∀ h2 : i < r.2.2.length, KindIs r.2.2[i] vars 1
theorem rule_l {k : Nat} (hk : 1000 < k) (r : RU) (vars : Int) (hv : 0 ≤ vars ∧ vars ≤ 1000) (hl : r.2.1.length = r.2.2.length) (hb : BigR r) (hbl : r.2.1.length ≤ 1048576) : ∀ (d n n' j : Nat), j + d = r.2.1.length → d < n → d < n' →
    ∃ b, spec_l2Rule.l4 k r vars n (j : Int) = some (b, ()) ∧ impl_ruleOk.l4 k r vars n' (j : Int) = some (b, ()) ∧ (b = true → RuleAt r vars j)
  | 0, n + 1, n' + 1, j, hd, hn, hn' => by
    refine ⟨true, ?_, ?_, fun _ i h hi => by omega⟩
    · simp only [spec_l2Rule.s4]
      rw [if_neg (by simp; omega)]
    · simp only [impl_ruleOk.s4]
      rw [if_neg (by simp; omega)]
  | d + 1, n + 1, n' + 1, j, hd, hn, hn' => by
    have hj : j < r.2.1.length := by omega
    have hj2 : j < r.2.2.length := by omega
    have e1 : w64 (vars - 1) = vars - 1 := w64_id (by omega) (by omega)
    have e2 : 0 < j → w64 ((j : Int) - 1) = ((j - 1 : Nat) : Int) := fun h => by rw [w64_id (by omega) (by omega)]; omega
    obtain ⟨g, g1, g2, gk⟩ := isKind_eq hk (r.2.2[j]) vars 1 (by omega) (hb.2.2.2 _ (List.getElem_mem hj2))
    obtain ⟨b, h1, h2, h3⟩ := rule_l hk r vars hv hl hb hbl d n n' (j + 1) (by omega) (by omega) (by omega)
    have fin : ∀ hin : (0 ≤ r.2.1[j] ∧ r.2.1[j] ≤ vars - 1), (∀ h0 : 0 < j, r.2.1[j - 1]'(by omega) < r.2.1[j]) → g = 1 → b = true → RuleAt r vars j := fun hin hlt hg hbt i h hi => by
      by_cases e : i = j
      · subst e; exact ⟨hin, hlt, fun _ => gk hg⟩
      · exact h3 hbt i h (by omega)
    have d1 : decide ((j : Int) < (r.2.1.length : Int)) = true := decide_eq_true (by omega)
    have gA := fun (K : Option (Bool × Unit)) => gd_t (show (0 : Int) ≤ (j : Int) by omega) K
    have gB := fun (K : Option (Bool × Unit)) => gd_t (show (j : Int) < (r.2.1.length : Int) by omega) K
    have gC := fun (K : Option (Bool × Unit)) => gd_t (show (j : Int) < (r.2.2.length : Int) by omega) K
    simp only [spec_l2Rule.s4, impl_ruleOk.s4, toNat_nat, w64_nat (j := j) (by omega), getD_get hj, getD_get hj2, h1, h2, spec_in_eq, impl_in_eq, e1, Option.bind_some, g1, g2, d1, gA, gB, gC, if_true, ite_true]
    by_cases hin : 0 ≤ r.2.1[j] ∧ r.2.1[j] ≤ vars - 1
    · have c1 : decide (0 ≤ r.2.1[j] ∧ r.2.1[j] ≤ vars - 1) = true := decide_eq_true hin
      by_cases h0 : 0 < j
      · have hj1 : j - 1 < r.2.1.length := by omega
        have c2 : decide ((j : Int) > 0) = true := decide_eq_true (by omega)
        have gD := fun (K : Option (Bool × Unit)) => gd_t (show (0 : Int) ≤ ((j - 1 : Nat) : Int) by omega) K
        have gE := fun (K : Option (Bool × Unit)) => gd_t (show ((j - 1 : Nat) : Int) < (r.2.1.length : Int) by omega) K
        simp only [e2 h0, toNat_nat, getD_get hj1, gD, gE]
        by_cases hlt : r.2.1[j - 1] < r.2.1[j]
        · have c3 : decide (r.2.1[j] ≤ r.2.1[j - 1]) = false := decide_eq_false (by omega)
          have c4 : decide (r.2.1[j - 1] ≥ r.2.1[j]) = false := decide_eq_false (by omega)
          simp only [c1, c2, c3, c4]
          by_cases hg : g = 1
          · subst hg
            exact ⟨b, rfl, rfl, fin hin (fun _ => hlt) rfl⟩
          · exact ⟨false, by simp [hg], by simp [hg], fun h => by cases h⟩
        · have c3 : decide (r.2.1[j] ≤ r.2.1[j - 1]) = true := decide_eq_true (by omega)
          have c4 : decide (r.2.1[j - 1] ≥ r.2.1[j]) = true := decide_eq_true (by omega)
          simp only [c1, c2, c3, c4]
          exact ⟨false, rfl, rfl, fun h => by cases h⟩
      · have c2 : decide ((j : Int) > 0) = false := decide_eq_false (by omega)
        simp only [c1, c2]
        by_cases hg : g = 1
        · subst hg
          exact ⟨b, rfl, rfl, fin hin (fun h => absurd h h0) rfl⟩
        · exact ⟨false, by simp [hg], by simp [hg], fun h => by cases h⟩
    · have c1 : decide (0 ≤ r.2.1[j] ∧ r.2.1[j] ≤ vars - 1) = false := decide_eq_false hin
      simp only [c1]
      exact ⟨false, rfl, rfl, fun h => by cases h⟩
theorem RuleAt.few {r : RU} {vars : Int} (h : RuleAt r vars 0) (hv : 0 ≤ vars) : (r.2.1.length : Int) ≤ vars := by
  have key : ∀ i (hi : i < r.2.1.length), (i : Int) ≤ r.2.1[i] := by
    intro i
    induction i with
    | zero => intro hi; have := (h 0 hi (Nat.le_refl _)).1.1; omega
    | succ i ih =>
      intro hi
      have h1 := ih (by omega)
      have h2 := (h (i + 1) hi (by omega)).2.1 (by omega)
      have h2 : r.2.1[i] < r.2.1[i + 1] := h2
      omega
  by_cases h0 : r.2.1.length = 0
  · omega
  · have h1 := key (r.2.1.length - 1) (by omega)
    have h2 := (h (r.2.1.length - 1) (by omega) (by omega)).1.2
    omega
def RuleP (r : RU) (vars : Int) : Prop := KindIs r.1 vars 2 ∧ r.2.1.length = r.2.2.length ∧ RuleAt r vars 0
theorem rule_eq {k : Nat} (hk : 1048576 < k) (r : RU) (vars : Int) (hv : 0 ≤ vars ∧ vars ≤ 1000) (hb : BigR r) (hs : SmR r) : ∃ b, spec_l2Rule.f k r vars = some (b, ()) ∧ impl_ruleOk.f k r vars = some (b, ()) ∧ (b = true → RuleP r vars) := by
  rw [spec_l2Rule.s, impl_ruleOk.s]
  obtain ⟨g, g1, g2, gk⟩ := isKind_eq (k := k) (by omega) r.1 vars 2 (by omega) hb.1
  rw [g1, g2]
  simp only [Option.bind_some]
  by_cases hg : g = 2
  · rw [if_neg (c := (!g == 2) = true) (by simp [hg]), if_neg (c := (g != 2) = true) (by simp [hg])]
    by_cases hl : r.2.1.length = r.2.2.length
    · rw [if_neg (c := ((r.2.1.length : Int) != (r.2.2.length : Int)) = true) (by simp [hl]), if_neg (c := ((r.2.1.length : Int) != (r.2.2.length : Int)) = true) (by simp [hl])]
      obtain ⟨b, h1, h2, h3⟩ := rule_l (k := k) (by omega) r vars hv hl hb hs.2.1 r.2.1.length k k 0 (by omega) (by have := hs.2.1; omega) (by have := hs.2.1; omega)
      have h1 : spec_l2Rule.l4 k r vars k 0 = some (b, ()) := h1
      have h2 : impl_ruleOk.l4 k r vars k 0 = some (b, ()) := h2
      rw [h1, h2]
      by_cases hf : (r.2.1.length : Int) > vars
      · rw [if_pos (by simpa using hf)]
        cases b with
        | false => exact ⟨false, rfl, rfl, fun h => by cases h⟩
        | true => have := (h3 rfl).few hv.1; omega
      · rw [if_neg (by simpa using hf)]
        exact ⟨b, rfl, rfl, fun h => ⟨gk hg, hl, h3 h⟩⟩
    · have : (r.2.1.length : Int) ≠ (r.2.2.length : Int) := by omega
      rw [if_pos (c := ((r.2.1.length : Int) != (r.2.2.length : Int)) = true) (by simpa using this), if_pos (c := ((r.2.1.length : Int) != (r.2.2.length : Int)) = true) (by simpa using this)]
      exact ⟨false, rfl, rfl, fun h => by cases h⟩
  · rw [if_pos (c := (!g == 2) = true) (by simp [hg]), if_pos (c := (g != 2) = true) (by simp [hg])]
    exact ⟨false, rfl, rfl, fun h => by cases h⟩
end Go.Ev

namespace Go.Ev
theorem IndexFuncVar_l (k : Nat) (p : List VA) (f : VA → Option Bool) (b : VA → Bool) (hf : ∀ x ∈ p, f x = some (b x)) (hp : p.length < 4611686018427387904) : ∀ (d n j : Nat), j + d = p.length → d < n →
    ∃ r, slices_IndexFunc_impl_Var_impl_Var.l2 k p f n (j : Int) = some (r, ()) ∧ (0 ≤ r ↔ (p.drop j).any b = true)
  | 0, n + 1, j, hd, hn => by
    simp only [slices_IndexFunc_impl_Var_impl_Var.s2]
    rw [if_neg (by simp; omega), List.drop_eq_nil_of_le (by omega)]
    exact ⟨-1, rfl, by simp⟩
  | d + 1, n + 1, j, hd, hn => by
    have hj : j < p.length := by omega
    simp only [slices_IndexFunc_impl_Var_impl_Var.s2, toNat_nat, w64_nat (j := j) (by omega), getD_get hj]
    rw [if_pos (by simp; omega), gd_t (by omega), gd_t (by omega), hf _ (List.getElem_mem hj), drop_get hj]
    simp only [Option.bind_some, List.any_cons]
    cases hb : b p[j]
    · obtain ⟨r, e, hr⟩ := IndexFuncVar_l k p f b hf hp d n (j + 1) (by omega) (by omega)
      exact ⟨r, e, by simpa using hr⟩
    · exact ⟨j, rfl, by simp⟩
theorem ContainsFuncVar_eq {k : Nat} {p : List VA} {f : VA → Option Bool} {b : VA → Bool} (hf : ∀ x ∈ p, f x = some (b x)) (hp : p.length < 4611686018427387904) (hk : p.length < k) :
    slices_ContainsFunc_impl_Var_impl_Var.f k p f = some (p.any b, ()) := by
  obtain ⟨r, e, hr⟩ := IndexFuncVar_l k p f b hf hp p.length k 0 (by omega) hk
  rw [slices_ContainsFunc_impl_Var_impl_Var.s, slices_IndexFunc_impl_Var_impl_Var.s]
  have e : slices_IndexFunc_impl_Var_impl_Var.l2 k p f k 0 = some (r, ()) := e
  rw [e]
  simp only [Option.bind_some]
  rw [List.drop_zero] at hr
  cases h : p.any b
  · rw [decide_eq_false (fun h0 => by rw [hr.1 h0] at h; cases h)]
  · rw [decide_eq_true (hr.2 h)]
theorem IndexFuncRule_l (k : Nat) (p : List RU) (f : RU → Option Bool) (b : RU → Bool) (hf : ∀ x ∈ p, f x = some (b x)) (hp : p.length < 4611686018427387904) : ∀ (d n j : Nat), j + d = p.length → d < n →
    ∃ r, slices_IndexFunc_impl_Rule_impl_Rule.l2 k p f n (j : Int) = some (r, ()) ∧ (0 ≤ r ↔ (p.drop j).any b = true)
  | 0, n + 1, j, hd, hn => by
    simp only [slices_IndexFunc_impl_Rule_impl_Rule.s2]
    rw [if_neg (by simp; omega), List.drop_eq_nil_of_le (by omega)]
    exact ⟨-1, rfl, by simp⟩
  | d + 1, n + 1, j, hd, hn => by
    have hj : j < p.length := by omega
    simp only [slices_IndexFunc_impl_Rule_impl_Rule.s2, toNat_nat, w64_nat (j := j) (by omega), getD_get hj]
    rw [if_pos (by simp; omega), gd_t (by omega), gd_t (by omega), hf _ (List.getElem_mem hj), drop_get hj]
    simp only [Option.bind_some, List.any_cons]
    cases hb : b p[j]
    · obtain ⟨r, e, hr⟩ := IndexFuncRule_l k p f b hf hp d n (j + 1) (by omega) (by omega)
      exact ⟨r, e, by simpa using hr⟩
    · exact ⟨j, rfl, by simp⟩
theorem ContainsFuncRule_eq {k : Nat} {p : List RU} {f : RU → Option Bool} {b : RU → Bool} (hf : ∀ x ∈ p, f x = some (b x)) (hp : p.length < 4611686018427387904) (hk : p.length < k) :
    slices_ContainsFunc_impl_Rule_impl_Rule.f k p f = some (p.any b, ()) := by
  obtain ⟨r, e, hr⟩ := IndexFuncRule_l k p f b hf hp p.length k 0 (by omega) hk
  rw [slices_ContainsFunc_impl_Rule_impl_Rule.s, slices_IndexFunc_impl_Rule_impl_Rule.s]
  have e : slices_IndexFunc_impl_Rule_impl_Rule.l2 k p f k 0 = some (r, ()) := e
  rw [e]
  simp only [Option.bind_some]
  rw [List.drop_zero] at hr
  cases h : p.any b
  · rw [decide_eq_false (fun h0 => by rw [hr.1 h0] at h; cases h)]
  · rw [decide_eq_true (hr.2 h)]
theorem l2Var_tot (k : Nat) (v : VA) : ∃ b, spec_l2Var.f k v = some (b, ()) ∧ impl_varOk.f k v = some (b, ()) ∧ (b = true → v.1 ≤ v.2.1 ∧ -9999 ≤ v.1 ∧ v.2.1 ≤ 9999 ∧ v.2.1 - v.1 < 20 ∧ v.1 ≤ v.2.2 ∧ v.2.2 ≤ v.2.1) := by
  rw [spec_l2Var.s, impl_varOk.s]
  simp only [spec_in_eq, impl_in_eq, Option.bind_some]
  by_cases h1 : -9999 ≤ v.1 ∧ v.1 ≤ 9999
  · by_cases h2 : v.1 ≤ v.2.1 ∧ v.2.1 ≤ 9999
    · have ew : w64 (v.2.1 - v.1) = v.2.1 - v.1 := w64_id (by omega) (by omega)
      rw [ew]
      by_cases h3 : v.2.1 - v.1 < 20
      · simp only [decide_eq_true h1, decide_eq_true h2, decide_eq_true h3, if_true]
        exact ⟨_, rfl, rfl, fun h => ⟨h2.1, h1.1, h2.2, h3, (of_decide_eq_true h).1, (of_decide_eq_true h).2⟩⟩
      · simp only [decide_eq_true h1, decide_eq_true h2, decide_eq_false h3, if_true]
        exact ⟨false, rfl, rfl, fun h => by cases h⟩
    · simp only [decide_eq_true h1, decide_eq_false h2, if_true]
      exact ⟨false, rfl, rfl, fun h => by cases h⟩
  · simp only [decide_eq_false h1]
    exact ⟨false, rfl, rfl, fun h => by cases h⟩
noncomputable def bV (k : Nat) (v : VA) : Bool := ((spec_l2Var.f k v).map (·.1)).getD false
noncomputable def bR (k : Nat) (vars : Int) (r : RU) : Bool := ((spec_l2Rule.f k r vars).map (·.1)).getD false
theorem bV_spec (k : Nat) (v : VA) : spec_l2Var.f k v = some (bV k v, ()) ∧ impl_varOk.f k v = some (bV k v, ()) ∧ (bV k v = true → v.1 ≤ v.2.1 ∧ -9999 ≤ v.1 ∧ v.2.1 ≤ 9999 ∧ v.2.1 - v.1 < 20 ∧ v.1 ≤ v.2.2 ∧ v.2.2 ≤ v.2.1) := by
  obtain ⟨b, h1, h2, h3⟩ := l2Var_tot k v
  have : bV k v = b := by unfold bV; rw [h1]; rfl
  rw [this]; exact ⟨h1, h2, h3⟩
theorem bR_spec {k : Nat} (hk : 1048576 < k) {r : RU} {vars : Int} (hv : 0 ≤ vars ∧ vars ≤ 1000) (hb : BigR r) (hs : SmR r) : spec_l2Rule.f k r vars = some (bR k vars r, ()) ∧ impl_ruleOk.f k r vars = some (bR k vars r, ()) ∧ (bR k vars r = true → RuleP r vars) := by
  obtain ⟨b, h1, h2, h3⟩ := rule_eq hk r vars hv hb hs
  have : bR k vars r = b := by unfold bR; rw [h1]; rfl
  rw [this]; exact ⟨h1, h2, h3⟩
theorem size_tot (k : Nat) (p : List VA) (hp : p.length < 4611686018427387904) : ∀ (d n j : Nat) (acc : Int), j + d = p.length → d < n → ∃ z, impl_size.l3 k p n acc (j : Int) = some (z, ())
  | 0, n + 1, j, acc, hd, hn => by
    simp only [impl_size.s3]
    rw [if_neg (by simp; omega)]
    exact ⟨_, rfl⟩
  | d + 1, n + 1, j, acc, hd, hn => by
    simp only [impl_size.s3, w64_nat (j := j) (by omega)]
    rw [if_pos (by simp; omega), gd_t (by omega), gd_t (by omega)]
    exact size_tot k p hp d n (j + 1) _ (by omega) (by omega)
theorem sizeOf_l (k : Nat) (s : SY) (hp : s.1.length < 4611686018427387904) : ∀ (n j : Nat) (acc : Int), spec_SizeOf.l5 k s n acc (j : Int) = impl_size.l3 k s.1 n acc (j : Int)
  | 0, j, acc => by rw [spec_SizeOf.z5, impl_size.z3]
  | n + 1, j, acc => by
    simp only [spec_SizeOf.s5, impl_size.s3]
    by_cases h : j < s.1.length
    · have d1 : decide ((j : Int) < (s.1.length : Int)) = true := decide_eq_true (by omega)
      simp only [d1, if_true, w64_nat (j := j) (by omega)]
      rw [gd_t (by omega), gd_t (by omega), gd_t (by omega), gd_t (by omega), gd_t (by omega), gd_t (by omega)]
      exact sizeOf_l k s hp n (j + 1) _
    · have d1 : decide ((j : Int) < (s.1.length : Int)) = false := decide_eq_false (by omega)
      simp only [d1]
      rfl
def wid (v : VA) : Nat := (v.2.1 - v.1 + 1).toNat
def prodW : List VA → Nat
  | [] => 1
  | v :: vs => wid v * prodW vs
def VarP (v : VA) : Prop := v.1 ≤ v.2.1 ∧ -9999 ≤ v.1 ∧ v.2.1 ≤ 9999 ∧ v.2.1 - v.1 < 20 ∧ v.1 ≤ v.2.2 ∧ v.2.2 ≤ v.2.1
structure SysP (s : SY) : Prop where
  v1 : 1 ≤ s.1.length
  v5 : s.1.length ≤ 5
  r8 : s.2.length ≤ 8
  vp : ∀ v ∈ s.1, VarP v
  rp : ∀ r ∈ s.2, RuleP r (s.1.length : Int)
  sz : prodW s.1 ≤ 400
theorem sysV_l (k : Nat) (s : SY) (hp : s.1.length ≤ 5) : ∀ (d n n' j : Nat) (acc z : Int), j + d = s.1.length → d < n → d < n' → impl_size.l3 k s.1 n' acc (j : Int) = some (z, ()) →
    spec_SystemValid.l5 k s n acc (j : Int) = (if (s.1.drop j).all (bV k) = true then spec_SystemValid.l11 k s z k 0 else some (false, ())) ∧ ((s.1.drop j).all (bV k) = true → 1 ≤ acc → acc ≤ 20 ^ j → 1 ≤ z ∧ z = acc * (prodW (s.1.drop j) : Nat))
  | 0, n + 1, n' + 1, j, acc, z, hd, hn, hn', hz => by
    simp only [impl_size.s3] at hz
    rw [if_neg (by simp; omega)] at hz
    injection hz with hz
    injection hz with hz
    subst hz
    simp only [spec_SystemValid.s5]
    rw [if_neg (by simp; omega), List.drop_eq_nil_of_le (by omega)]
    exact ⟨by simp, fun _ h _ => ⟨h, by simp [prodW]⟩⟩
  | d + 1, n + 1, n' + 1, j, acc, z, hd, hn, hn', hz => by
    have hj : j < s.1.length := by omega
    simp only [impl_size.s3, toNat_nat, w64_nat (j := j) (by omega), getD_get hj] at hz
    rw [if_pos (by simp; omega), gd_t (by omega), gd_t (by omega)] at hz
    obtain ⟨i1, i2⟩ := sysV_l k s hp d n n' (j + 1) _ z (by omega) (by omega) (by omega) hz
    obtain ⟨v1, _, v3⟩ := bV_spec k s.1[j]
    simp only [spec_SystemValid.s5, toNat_nat, w64_nat (j := j) (by omega), getD_get hj]
    rw [if_pos (by simp; omega), gd_t (by omega), gd_t (by omega), v1, drop_get hj]
    simp only [Option.bind_some, List.all_cons]
    by_cases hb : bV k s.1[j] = true
    · simp only [hb, Bool.not_true, Bool.true_and]
      rw [if_neg (by simp), gd_t (by omega), gd_t (by omega), gd_t (by omega), gd_t (by omega), i1]
      refine ⟨rfl, fun hall h1 h2 => ?_⟩
      obtain ⟨w1, w2, w3, w4, w5, w6⟩ := v3 hb
      have f1 : w64 (s.1[j].2.1 - s.1[j].1) = s.1[j].2.1 - s.1[j].1 := w64_id (by omega) (by omega)
      have f2 : w64 (s.1[j].2.1 - s.1[j].1 + 1) = s.1[j].2.1 - s.1[j].1 + 1 := w64_id (by omega) (by omega)
      have hpow : (20 : Int) ^ j ≤ 160000 := by
        have : j = 0 ∨ j = 1 ∨ j = 2 ∨ j = 3 ∨ j = 4 := by omega
        rcases this with h | h | h | h | h <;> subst h <;> decide
      have m1 : acc * (s.1[j].2.1 - s.1[j].1 + 1) ≤ 20 ^ j * 20 := Int.mul_le_mul h2 (by omega) (by omega) (by omega)
      have m0 : 1 * 1 ≤ acc * (s.1[j].2.1 - s.1[j].1 + 1) := Int.mul_le_mul h1 (by omega) (by decide) (by omega)
      have f3 : w64 (acc * (s.1[j].2.1 - s.1[j].1 + 1)) = acc * (s.1[j].2.1 - s.1[j].1 + 1) := w64_id (by omega) (by omega)
      rw [f1, f2, f3] at i2
      have i2 := i2 hall (by omega) (by rw [Int.pow_succ]; exact m1)
      refine ⟨i2.1, ?_⟩
      rw [i2.2, prodW, Int.natCast_mul, show ((wid s.1[j] : Nat) : Int) = s.1[j].2.1 - s.1[j].1 + 1 by unfold wid; omega, Int.mul_assoc]
    · have hb : bV k s.1[j] = false := by simpa using hb
      simp [hb]
theorem sysR_l {k : Nat} (hk : 1048576 < k) (s : SY) (z : Int) (hv : s.1.length ≤ 5) (hb : BigS s) (hs : SmS s) : ∀ (d n j : Nat), j + d = s.2.length → d < n →
    spec_SystemValid.l11 k s z n (j : Int) = some ((s.2.drop j).all (bR k (s.1.length : Int)) && decide (z ≤ 400), ())
  | 0, n + 1, j, hd, hn => by
    simp only [spec_SystemValid.s11]
    rw [if_neg (by simp; omega), List.drop_eq_nil_of_le (by omega)]
    simp
  | d + 1, n + 1, j, hd, hn => by
    have hj : j < s.2.length := by omega
    have hlb := hs.2.1
    simp only [spec_SystemValid.s11, toNat_nat, w64_nat (j := j) (by omega), getD_get hj]
    rw [if_pos (by simp; omega), gd_t (by omega), gd_t (by omega), (bR_spec hk (by omega) (hb.2.2 _ (List.getElem_mem hj)) (hs.2.2 _ (List.getElem_mem hj))).1, drop_get hj]
    simp only [Option.bind_some, List.all_cons]
    cases hbr : bR k (s.1.length : Int) s.2[j]
    · simp
    · rw [sysR_l hk s z hv hb hs d n (j + 1) (by omega) (by omega)]
      simp
theorem sys_eq {k : Nat} (hk : 1048576 < k) (s : SY) (hb : BigS s) (hs : SmS s) : ∃ V z, spec_SystemValid.f k s = some (V, ()) ∧ impl_SystemValid.f k s = some (V, ()) ∧ impl_size.f k s.1 = some (z, ()) ∧ (V = true → 1 ≤ z ∧ z = (prodW s.1 : Nat) ∧ SysP s) ∧
    spec_SizeOf.f k s = some (if V = true then z else 0, ()) := by
  have hsl := hs.1
  have hrl := hs.2.1
  obtain ⟨z, hz⟩ := size_tot k s.1 (by omega) s.1.length k 0 1 (by omega) (by omega)
  have hz : impl_size.l3 k s.1 k 1 0 = some (z, ()) := hz
  have hsz : impl_size.f k s.1 = some (z, ()) := by rw [impl_size.s]; exact hz
  have hof : spec_SizeOf.l5 k s k 1 0 = some (z, ()) := (sizeOf_l k s (by omega) k 0 1).trans hz
  have main : ∃ V, spec_SystemValid.f k s = some (V, ()) ∧ impl_SystemValid.f k s = some (V, ()) ∧ (V = true → 1 ≤ z ∧ z = (prodW s.1 : Nat) ∧ SysP s) := by
    rw [spec_SystemValid.s, impl_SystemValid.s]
    simp only [spec_in_eq, impl_in_eq, Option.bind_some]
    by_cases h1 : 1 ≤ (s.1.length : Int) ∧ (s.1.length : Int) ≤ 5
    · by_cases h2 : (s.2.length : Int) > 8
      · simp only [decide_eq_true h1, decide_eq_true h2]
        exact ⟨false, rfl, rfl, fun h => by cases h⟩
      · simp only [decide_eq_true h1, decide_eq_false h2]
        have h5 : s.1.length ≤ 5 := by omega
        obtain ⟨v1, v2⟩ := sysV_l k s h5 s.1.length k k 0 1 z (by omega) (by omega) (by omega) hz
        have v1 : spec_SystemValid.l5 k s k 1 0 = _ := v1
        have hr := sysR_l hk s z h5 hb hs s.2.length k 0 (by omega) (by omega)
        have hr : spec_SystemValid.l11 k s z k 0 = _ := hr
        rw [List.drop_zero] at v1 v2 hr
        have cv := ContainsFuncVar_eq (k := k) (p := s.1) (f := fun p => (impl_SystemValid_1.f k p).bind fun r => some r.1) (b := fun v => !bV k v) (fun v _ => by
          rw [impl_SystemValid_1.s]
          rw [(bV_spec k v).2.1]; rfl) (by omega) (by omega)
        have cr := ContainsFuncRule_eq (k := k) (p := s.2) (f := fun p => (impl_SystemValid_2.f k p s).bind fun r => some r.1) (b := fun r => !bR k (s.1.length : Int) r) (fun r hm => by
          rw [impl_SystemValid_2.s]
          rw [(bR_spec hk (by omega) (hb.2.2 r hm) (hs.2.2 r hm)).2.1]; rfl) (by omega) (by omega)
        have av : (s.1.any fun v => !bV k v) = !s.1.all (bV k) := by rw [List.not_all_eq_any_not]
        have ar : (s.2.any fun r => !bR k (s.1.length : Int) r) = !s.2.all (bR k (s.1.length : Int)) := by rw [List.not_all_eq_any_not]
        rw [av] at cv
        rw [ar] at cr
        rw [v1, hr, cv, cr, hsz]
        simp only [Option.bind_some]
        refine ⟨s.1.all (bV k) && (s.2.all (bR k (s.1.length : Int)) && decide (z ≤ 400)), ?_, ?_, fun hV => ?_⟩
        · cases s.1.all (bV k) <;> rfl
        · by_cases h4 : z ≤ 400
          · simp only [decide_eq_true h4, decide_eq_false (show ¬ z > 400 by omega)]
            cases s.1.all (bV k) <;> cases s.2.all (bR k (s.1.length : Int)) <;> rfl
          · simp only [decide_eq_false h4, decide_eq_true (show z > 400 by omega)]
            cases s.1.all (bV k) <;> cases s.2.all (bR k (s.1.length : Int)) <;> rfl
        · rw [Bool.and_eq_true, Bool.and_eq_true, decide_eq_true_iff] at hV
          have v2 := v2 hV.1 (by omega) (by decide)
          have hvp := List.all_eq_true.1 hV.1
          have hrp := List.all_eq_true.1 hV.2.1
          have := v2.2
          exact ⟨v2.1, by omega, by omega, h5, by omega, fun v hv => (bV_spec k v).2.2 (hvp v hv), fun r hr => (bR_spec hk (by omega) (hb.2.2 r hr) (hs.2.2 r hr)).2.2 (hrp r hr), by omega⟩
    · simp only [decide_eq_false h1]
      exact ⟨false, rfl, rfl, fun h => by cases h⟩
  obtain ⟨V, m1, m2, m3⟩ := main
  refine ⟨V, z, m1, m2, hsz, m3, ?_⟩
  rw [spec_SizeOf.s]
  rw [m1, hof]
  simp only [Option.bind_some]
  cases V <;> rfl
end Go.Ev

namespace Go.Ev
theorem blocks_l (k : Nat) (p : List Int) (hp : p.length < 4611686018427387904) : ∀ (d n n' j : Nat), j + d = p.length → d < n → d < n' →
    ∃ b, spec_BlocksValid.l4 k p n (j : Int) = some (b, ()) ∧ impl_blocksOk.l4 k p n' (j : Int) = some (b, ())
  | 0, n + 1, n' + 1, j, hd, hn, hn' => by
    refine ⟨true, ?_, ?_⟩
    · simp only [spec_BlocksValid.s4]
      rw [if_neg (by simp; omega)]
    · simp only [impl_blocksOk.s4]
      rw [if_neg (by simp; omega)]
  | d + 1, n + 1, n' + 1, j, hd, hn, hn' => by
    have hj : j < p.length := by omega
    obtain ⟨b, h1, h2⟩ := blocks_l k p hp d n n' (j + 1) (by omega) (by omega) (by omega)
    have d1 : decide ((j : Int) < (p.length : Int)) = true := decide_eq_true (by omega)
    have gA := fun (K : Option (Bool × Unit)) => gd_t (show (0 : Int) ≤ (j : Int) by omega) K
    have gB := fun (K : Option (Bool × Unit)) => gd_t (show (j : Int) < (p.length : Int) by omega) K
    simp only [spec_BlocksValid.s4, impl_blocksOk.s4, toNat_nat, w64_nat (j := j) (by omega), getD_get hj, h1, h2, spec_in_eq, impl_in_eq, Option.bind_some, d1, gA, gB, if_true]
    by_cases hin : 0 ≤ p[j] ∧ p[j] ≤ (j : Int)
    · have gC := fun (K : Option (Bool × Unit)) => gd_t hin.1 K
      have gD := fun (K : Option (Bool × Unit)) => gd_t (show p[j] < (p.length : Int) by omega) K
      simp only [decide_eq_true hin, gC, gD]
      by_cases he : p.getD p[j].toNat 0 = p[j]
      · exact ⟨b, by simp [he, -List.getD_eq_getElem?_getD], by simp [he, -List.getD_eq_getElem?_getD]⟩
      · exact ⟨false, by simp [he, -List.getD_eq_getElem?_getD], by simp [he, -List.getD_eq_getElem?_getD]⟩
    · simp only [decide_eq_false hin]
      exact ⟨false, rfl, rfl⟩
theorem BlocksValid_eq {k : Nat} (hk : 1048576 < k) (s : SY) (p : List Int) (hb : BigS s) (hs : SmS s) (hp : p.length ≤ 1048576) : ∃ b, spec_BlocksValid.f k s p = some (b, ()) ∧ impl_BlocksValid.f k s p = some (b, ()) ∧ (b = true → 0 < p.length ∧ spec_SizeOf.f k s = some ((p.length : Int), ()) ∧ SysP s ∧ p.length = prodW s.1) := by
  obtain ⟨V, z, m1, m2, m3, m4, m5⟩ := sys_eq hk s hb hs
  rw [spec_BlocksValid.s, impl_BlocksValid.s]
  rw [m5, m2]
  simp only [Option.bind_some]
  obtain ⟨b, h1, h2⟩ := blocks_l k p (by omega) p.length k k 0 (by omega) (by omega) (by omega)
  have h1 : spec_BlocksValid.l4 k p k 0 = some (b, ()) := h1
  have h2 : impl_blocksOk.l4 k p k 0 = some (b, ()) := h2
  rw [h1]
  cases V with
  | false =>
    refine ⟨false, ?_, rfl, fun h => by cases h⟩
    by_cases h0 : p.length = 0
    · simp [h0]
    · have : (p.length : Int) ≠ 0 := by omega
      simp only [Bool.false_eq_true, if_false]
      rw [if_pos (by simpa using this)]
  | true =>
    have hz := (m4 rfl).1
    rw [impl_blocksOk.s]
    rw [m3, h2]
    simp only [Option.bind_some, if_true]
    by_cases hl : (p.length : Int) = z
    · have h0 : (p.length : Int) ≠ 0 := by omega
      refine ⟨b, ?_, ?_, fun _ => ⟨by omega, by rw [hl], (m4 rfl).2.2, by have := (m4 rfl).2.1; omega⟩⟩
      · rw [if_neg (c := ((p.length : Int) != z) = true) (by simp [hl]), if_neg (c := ((p.length : Int) == 0) = true) (by simpa using h0)]
      · rw [if_neg (c := ((p.length : Int) != z) = true) (by simp [hl])]
        rfl
    · refine ⟨false, ?_, ?_, fun h => by cases h⟩
      · rw [if_pos (c := ((p.length : Int) != z) = true) (by simpa using hl)]
      · rw [if_pos (c := ((p.length : Int) != z) = true) (by simpa using hl)]
        rfl
end Go.Ev

namespace Go.Ev
def Chain {α : Type} (H : α → Int → Int → Prop) : List α → Int → Int → Prop
  | [], m, m' => m = m'
  | y :: ys, m, m' => ∃ m1, m ≤ m1 ∧ H y m m1 ∧ Chain H ys m1 m'
theorem Chain.snoc {α : Type} {H : α → Int → Int → Prop} : ∀ {q : List α} {m m1 m2 : Int} {y : α}, Chain H q m m1 → m1 ≤ m2 → H y m1 m2 → Chain H (q ++ [y]) m m2
  | [], m, m1, m2, y, h, hl, hy => by cases h; exact ⟨m2, hl, hy, rfl⟩
  | x :: q, m, m1, m2, y, ⟨a, h1, h2, h3⟩, hl, hy => ⟨a, h1, h2, Chain.snoc h3 hl hy⟩
theorem Chain.le {α : Type} {H : α → Int → Int → Prop} : ∀ {q : List α} {m m1 : Int}, Chain H q m m1 → m ≤ m1
  | [], m, m1, h => by cases h; omega
  | x :: q, m, m1, ⟨a, h1, h2, h3⟩ => by have := Chain.le h3; omega
theorem getD_set_self {α : Type} {v : List α} {j : Nat} {x d : α} (h : j < v.length) : (v.set j x).getD j d = x := by
  simp [List.getD, h]
end Go.Ev

namespace Go.Ev
section
variable {α : Type} [DecidableEq α]
def ixOf (ks : List α) (x : α) : Nat := ks.idxOf x
def firsts (ks : List α) : List Int := ks.map fun x => ((ixOf ks x : Nat) : Int)
theorem firsts_length (ks : List α) : (firsts ks).length = ks.length := by simp [firsts]
theorem firsts_get (ks : List α) {j : Nat} (h : j < (firsts ks).length) : (firsts ks)[j] = ((ixOf ks (ks[j]'(by rw [firsts_length] at h; exact h)) : Nat) : Int) := by simp [firsts]
theorem idxOf_first {ks : List α} {i : Nat} (hi : i < ks.length) (hm : ∀ i' (h : i' < i), ks[i'] ≠ ks[i]) : ixOf ks ks[i] = i := by
  unfold ixOf
  induction ks generalizing i with
  | nil => simp at hi
  | cons a ks ih =>
    cases i with
    | zero => simp
    | succ i =>
      have h0 := hm 0 (by omega)
      simp only [List.getElem_cons_zero, List.getElem_cons_succ] at h0 ⊢
      have := ih (by simpa using hi) fun i' h => by
        have := hm (i' + 1) (by omega)
        simpa using this
      unfold ixOf at this
      rw [List.idxOf_cons, beq_false_of_ne h0, cond_false, this]
end
theorem l2Same_eq {k : Nat} (a b : List Int) (ha : a.length ≤ 1048576) (hk : 1048576 < k) : spec_l2Same.f k a b = some (decide (a = b), ()) := by
  rw [spec_l2Same.s]
  by_cases hl : a.length = b.length
  · rw [if_neg (by simp [hl])]
    refine for_post (m := a.length) (l := fun n (_ : Unit) j => spec_l2Same.l4 k a b n j) (I := fun j _ => a.take j = b.take j) (Q := fun r => r = some (decide (a = b), ())) (fun n s hI => ?_) (fun n j s hj hI ih => ?_) (s := ()) (by omega) (by simp)
    · rw [List.take_of_length_le (by omega), List.take_of_length_le (by omega)] at hI
      simp [spec_l2Same.s4, hI]
    · simp (disch := omega) only [spec_l2Same.s4, getD_get, w64_id, toNat_nat, gd_t]
      rw [if_pos (by simpa using hj)]
      by_cases he : a[j] = b[j]
      · rw [if_neg (by simpa using he)]
        exact ih () (by rw [List.take_succ_eq_append_getElem hj, List.take_succ_eq_append_getElem (by omega), hI, he])
      · rw [if_pos (by simpa using he)]
        have : a ≠ b := fun e => by subst e; exact he rfl
        simp [this]
  · rw [if_pos (by simp; omega)]
    have : a ≠ b := fun e => by subst e; exact hl rfl
    simp [this]
theorem l28Rows_in (k n3 : Nat) (rows : List (List Int)) (hr : ∀ r ∈ rows, r.length ≤ 1048576) (hk : 1048576 < k) (hl : rows.length ≤ 1048576) (v : List Int) (hv : v.length ≤ rows.length) (j : Nat) (hj : j < rows.length) :
    ∀ (d n i : Nat), d ≤ j → d < n → i ≤ j → d ≤ i → (hi : i < rows.length) → rows[i] = rows[j] → (∀ i' (h : i' < i), d ≤ i' → rows[i'] ≠ rows[j]) →
    spec_l28Rows.l7 k n3 rows v (j : Int) n (i : Int) ((d : Int) - 1) = spec_l28Rows.l3 k rows n3 (v ++ [((ixOf rows rows[j] : Nat) : Int)]) ((j + 1 : Nat) : Int)
  | 0, n + 1, i, hd, hn, hij, hdi, hi, he, hm => by
    have : ixOf rows rows[j] = i := by rw [← he]; exact idxOf_first hi fun i' h => by rw [he]; exact hm i' h (Nat.zero_le _)
    rw [this]
    simp (disch := omega) [spec_l28Rows.s7, w64_id]
    exact gd_t (by omega) _
  | d + 1, n + 1, i, hd, hn, hij, hdi, hi, he, hm => by
    have e1 : ((d + 1 : Nat) : Int) - 1 = (d : Int) := by omega
    have hd' : d < rows.length := by omega
    rw [e1]
    simp (disch := omega) only [spec_l28Rows.s7, getD_get, w64_id, toNat_nat, gd_t, l2Same_eq _ _ (hr _ (List.getElem_mem hd')) hk, Option.bind_some, getD_get hd']
    rw [if_pos (by simp)]
    by_cases h : rows[d] = rows[j]
    · rw [if_pos (by simpa using h)]
      exact l28Rows_in k n3 rows hr hk hl v hv j hj d n d (by omega) (by omega) (by omega) (by omega) hd' h fun i' h1 h2 => by omega
    · rw [if_neg (by simpa using h)]
      exact l28Rows_in k n3 rows hr hk hl v hv j hj d n i (by omega) (by omega) (by omega) (by omega) hi he fun i' h1 h2 => by
        by_cases h3 : i' = d
        · subst h3; exact h
        · exact hm i' h1 (by omega)
theorem l28Rows_eq {k : Nat} (rows : List (List Int)) (hr : ∀ r ∈ rows, r.length ≤ 1048576) (hk : 1048576 < k) (hl : rows.length ≤ 1048576) : spec_l28Rows.f k rows = some (firsts rows, ()) := by
  rw [spec_l28Rows.s]
  refine for_post (m := rows.length) (l := fun n s j => spec_l28Rows.l3 k rows n s j) (I := fun j s => j ≤ rows.length ∧ s = (firsts rows).take j) (Q := fun r => r = some (firsts rows, ())) (fun n s hI => ?_) (fun n j s hj hI ih => ?_) (by omega) ⟨by omega, by simp⟩
  · rw [hI.2, List.take_of_length_le (by rw [firsts_length]; omega)]
    simp [spec_l28Rows.s3]
  · have hlen : s.length = j := by rw [hI.2, List.length_take, firsts_length]; omega
    have := l28Rows_in k n rows hr hk hl s (by omega) j hj j k j (by omega) (by omega) (by omega) (by omega) hj rfl (fun i' h1 h2 => by omega)
    simp (disch := omega) only [spec_l28Rows.s3, w64_id]
    rw [if_pos (by simpa using hj), this]
    exact ih _ ⟨by omega, by rw [hI.2, List.take_succ_eq_append_getElem (by rw [firsts_length]; exact hj), firsts_get]⟩
end Go.Ev

namespace Go.Ev
theorem check_loop {R : Type} {l : Nat → Int → Option (Bool × R)} {m : Nat} {b0 : Bool} {r : R} (C : Nat → Prop)
    (h : ∀ n j, j < m → (∀ i, i < j → C i) → (C j ∧ l (n + 1) (j : Int) = l n ((j : Int) + 1)) ∨ (¬ C j ∧ l (n + 1) (j : Int) = some (false, r)))
    (h0 : ∀ n, (∀ i, i < m → C i) → l (n + 1) (m : Int) = some (b0, r)) {k : Nat} (hk : m < k) : ∃ b, l k 0 = some (b, r) ∧ (b = true ↔ b0 = true ∧ ∀ i, i < m → C i) := by
  refine for_post (m := m) (l := fun n (_ : Unit) j => l n j) (fun j _ => ∀ i, i < j → C i) (fun x => ∃ b, x = some (b, r) ∧ (b = true ↔ b0 = true ∧ ∀ i, i < m → C i)) (fun n s hI => ?_) (fun n j s hj hI ih => ?_) (s := ()) hk (fun i hi => by omega)
  · exact ⟨b0, h0 n hI, fun hb => ⟨hb, hI⟩, fun hb => hb.1⟩
  · rcases h n j hj hI with ⟨hc, e⟩ | ⟨hc, e⟩
    · simp only [e]
      exact ih () fun i hi => by
        by_cases hij : i = j
        · subst hij; exact hc
        · exact hI i (by omega)
    · exact ⟨false, e, fun h => (by cases h), fun h => absurd (h.2 j hj) hc⟩
theorem push_loop {α Q : Type} {l : Nat → List α → Int → Q} {ys : List α} {m : Nat} (hm : ys.length = m) {r : Q}
    (h : ∀ n j (v : List α) (hj : j < m), v.length = j → l (n + 1) v (j : Int) = l n (v ++ [ys[j]'(by omega)]) ((j : Int) + 1))
    (h0 : ∀ n, l (n + 1) ys (m : Int) = r) {k : Nat} (hk : m < k) : l k [] 0 = r := by
  refine for_post (m := m) (l := l) (fun j v => v = ys.take j ∧ j ≤ m) (fun x => x = r) (fun n s hI => ?_) (fun n j s hj hI ih => ?_) hk ⟨by simp, by omega⟩
  · rw [hI.1, List.take_of_length_le (by omega)]; exact h0 n
  · have hl : s.length = j := by rw [hI.1, List.length_take]; omega
    rw [h n j s hj hl]
    exact ih _ ⟨by rw [hI.1, List.take_succ_eq_append_getElem (by omega)], by omega⟩
end Go.Ev

namespace Go.Ev
def SetAt (p : List Int) (n : Int) (i : Nat) : Prop := ∃ h : i < p.length, (0 ≤ p[i] ∧ p[i] ≤ n - 1) ∧ ∀ h0 : 0 < i, p[i - 1] < p[i]
theorem setOk_l {k : Nat} (p : List Int) (n : Int) (hn : 0 ≤ n ∧ n ≤ 1048576) (hp : p.length ≤ 1048576) (hk : 1048576 < k) : ∃ b, impl_setOk.f k p n = some (b, ()) ∧ (b = true ↔ true = true ∧ ∀ i, i < p.length → SetAt p n i) := by
  rw [impl_setOk.s]
  refine check_loop (l := fun q j => impl_setOk.l2 k p n q j) (m := p.length) (SetAt p n) (fun q j hj hI => ?_) (fun q hI => ?_) (by omega)
  · have e1 : w64 (n - 1) = n - 1 := w64_id (by omega) (by omega)
    simp (disch := omega) only [impl_setOk.s2, getD_get, w64_id, toNat_nat, gd_t, impl_in_eq, Option.bind_some]
    rw [if_pos (by simpa using hj)]
    by_cases h1 : 0 ≤ p[j] ∧ p[j] ≤ n - 1
    · rw [if_neg (by simp; omega)]
      by_cases h0 : 0 < j
      · have e2 : w64 ((j : Int) - 1) = ((j - 1 : Nat) : Int) := by rw [w64_id (by omega) (by omega)]; omega
        rw [if_pos (by simp; omega)]
        simp (disch := omega) only [e2, toNat_nat, getD_get, gd_t]
        by_cases h2 : p[j - 1] < p[j]
        · rw [if_neg (by simp; omega)]
          exact .inl ⟨⟨hj, h1, fun _ => h2⟩, rfl⟩
        · rw [if_pos (by simp; omega)]
          exact .inr ⟨fun ⟨_, _, h⟩ => h2 (h h0), rfl⟩
      · rw [if_neg (by simp; omega)]
        exact .inl ⟨⟨hj, h1, fun h => absurd h h0⟩, rfl⟩
    · rw [if_pos (by simp; omega)]
      exact .inr ⟨fun ⟨_, h, _⟩ => h1 h, rfl⟩
  · simp [impl_setOk.s2]
def marksOf (p : List Int) (n : Nat) : List Bool := (List.range n).map fun (i : Nat) => decide ((i : Int) ∈ p)
theorem marksOf_length (p : List Int) (n : Nat) : (marksOf p n).length = n := by simp [marksOf]
theorem marksOf_get (p : List Int) (n : Nat) {i : Nat} (h : i < n) : (marksOf p n)[i]'(by rw [marksOf_length]; exact h) = decide ((i : Int) ∈ p) := by simp [marksOf]
theorem marks_eq {k : Nat} (p : List Int) (n : Nat) (hn : n ≤ 1048576) (hp : p.length ≤ 1048576) (hk : 1048576 < k) (h : ∀ i, i < p.length → SetAt p n i) : impl_marks.f k p n = some (marksOf p n, ()) := by
  rw [impl_marks.s, gd_t (by omega), gd_t (by omega)]
  refine for_post (m := p.length) (l := fun q s j => impl_marks.l3 k p q s j) (fun j v => v = marksOf (p.take j) n) (fun r => r = some (marksOf p n, ())) (fun q s hI => ?_) (fun q j s hj hI ih => ?_) (by omega) ?_
  · rw [hI, List.take_of_length_le (by omega)]
    simp [impl_marks.s3]
  · obtain ⟨_, h1, _⟩ := h j hj
    have hl : s.length = n := by rw [hI, marksOf_length]
    simp (disch := omega) only [impl_marks.s3, getD_get, w64_id, toNat_nat, gd_t]
    rw [if_pos (by simpa using hj)]
    refine ih _ ?_
    rw [hI]
    apply List.ext_getElem (by simp [marksOf])
    intro i hi1 hi2
    have hin : i < n := by rw [marksOf_length] at hi2; exact hi2
    rw [marksOf_get _ _ hin]
    simp only [List.getElem_set, marksOf_get _ _ hin, mem_take1 hj]
    by_cases e : p[j].toNat = i
    · have : (i : Int) = p[j] := by omega
      simp [e, this]
    · have : (i : Int) ≠ p[j] := by omega
      simp [e, this]
  · apply List.ext_getElem (by simp [marksOf])
    intro i hi1 hi2
    rw [marksOf_get _ _ (by rw [marksOf_length] at hi2; exact hi2)]
    simp
def bitOf (b : Bool) : Int := if b = true then 1 else 0
theorem bit_eq (k : Nat) (b : Bool) : impl_bit.f k b = some (bitOf b, ()) := by rw [impl_bit.s]; cases b <;> rfl
theorem l1Truth_eq (k : Nat) (b : Bool) : spec_l1Truth.f k b = some (bitOf b, ()) := by rw [spec_l1Truth.s]; cases b <;> rfl
end Go.Ev

namespace Go.Ev
theorem mul_bd {x y : Int} {a b : Nat} (hx : -(a : Int) ≤ x ∧ x ≤ a) (hy : -(b : Int) ≤ y ∧ y ≤ b) : -((a * b : Nat) : Int) ≤ x * y ∧ x * y ≤ ((a * b : Nat) : Int) := by
  have h1 : x.natAbs ≤ a := by omega
  have h2 : y.natAbs ≤ b := by omega
  have h3 : (x * y).natAbs ≤ a * b := by rw [Int.natAbs_mul]; exact Nat.mul_le_mul h1 h2
  omega
def clampT (x : Int) : Int := if x > 9999 then 9999 else if x < -9999 then -9999 else x
def doT (op x y : Int) : Int :=
  if op = 2 then clampT (x + y) else if op = 3 then clampT (x - y) else if op = 4 then clampT (x * y) else if op = 5 then bitOf (decide (x < y)) else if op = 6 then bitOf (decide (x = y)) else
  if op = 7 then 1 - x else if op = 8 then x * y else bitOf (decide (x + y > 0))
def valT (t : TM) (st vs : List Int) : Int := if t.1 = 0 then t.2.1 else if t.1 = 1 then st.getD t.2.1.toNat 0 else doT t.1 (vs.getD t.2.2.1.toNat 0) (vs.getD t.2.2.2.toNat 0)
def vals (p : List TM) (st : List Int) : List Int := p.foldl (fun vs t => vs ++ [valT t st vs]) []
def evalT (p : List TM) (st : List Int) : Int := (vals p st).getD (p.length - 1) 0
theorem vals_snoc (p : List TM) (t : TM) (st : List Int) : vals (p ++ [t]) st = vals p st ++ [valT t st (vals p st)] := by simp [vals, List.foldl_append]
theorem vals_length (p : List TM) (st : List Int) : (vals p st).length = p.length := by
  have : ∀ (p : List TM) (a : List Int), (p.foldl (fun vs t => vs ++ [valT t st vs]) a).length = a.length + p.length := by
    intro p
    induction p with
    | nil => simp
    | cons t p ih => intro a; simp only [List.foldl_cons, ih]; simp; omega
  have := this p []
  simp only [List.length_nil, Nat.zero_add] at this
  exact this
theorem vals_take1 (p : List TM) (st : List Int) {j : Nat} (h : j < p.length) : vals (p.take (j + 1)) st = vals (p.take j) st ++ [valT p[j] st (vals (p.take j) st)] := by
  rw [List.take_succ_eq_append_getElem h, vals_snoc]
def RangeK (q v : Int) : Prop := if q = 2 then v = 0 ∨ v = 1 else -9999 ≤ v ∧ v ≤ 9999
theorem RangeK.abs {q v : Int} (h : RangeK q v) : -9999 ≤ v ∧ v ≤ 9999 := by
  unfold RangeK at h; split at h <;> omega
def StR (st : List Int) (n : Int) : Prop := (st.length : Int) = n ∧ ∀ x ∈ st, -9999 ≤ x ∧ x ≤ 9999
theorem bitOf_01 (b : Bool) : bitOf b = 0 ∨ bitOf b = 1 := by cases b <;> simp [bitOf]
theorem clampT_bd (x : Int) : -9999 ≤ clampT x ∧ clampT x ≤ 9999 := by
  unfold clampT
  split
  · omega
  · split <;> omega
theorem kind1_cases {t : TM} {ks : List Int} {vars : Int} (h : kind1 t ks vars ≠ 0) :
    (t.1 = 0 ∧ (-9999 ≤ t.2.1 ∧ t.2.1 ≤ 9999) ∧ kind1 t ks vars = 1) ∨ (t.1 = 1 ∧ (0 ≤ t.2.1 ∧ t.2.1 < vars) ∧ kind1 t ks vars = 1) ∨
    (2 ≤ t.1 ∧ t.1 ≤ 9 ∧ (0 ≤ t.2.2.1 ∧ t.2.2.1 < ks.length) ∧ (0 ≤ t.2.2.2 ∧ t.2.2.2 < ks.length) ∧ ks.getD t.2.2.1.toNat 0 = (if 7 ≤ t.1 then 2 else 1) ∧ ks.getD t.2.2.2.toNat 0 = (if 7 ≤ t.1 then 2 else 1) ∧ kind1 t ks vars = (if 5 ≤ t.1 then 2 else 1) ∧ (t.1 = 7 → t.2.2.2 = t.2.2.1)) := by
  obtain ⟨op, n, a, b⟩ := t
  unfold kind1 at *
  by_cases h0 : op = 0 ∧ (-9999 ≤ n ∧ n ≤ 9999) ∧ a = 0 ∧ b = 0
  · exact .inl ⟨h0.1, h0.2.1, by rw [if_pos h0]⟩
  rw [if_neg h0] at h ⊢
  unfold kind3 at *
  by_cases h1 : op = 1 ∧ (0 ≤ n ∧ n ≤ vars - 1) ∧ a = 0 ∧ b = 0
  · exact .inr (.inl ⟨h1.1, ⟨h1.2.1.1, by have := h1.2.1.2; dsimp only; omega⟩, by rw [if_pos h1]⟩)
  rw [if_neg h1] at h ⊢
  unfold kind5 at *
  dsimp only at *
  split at h
  · exact absurd rfl h
  split at h
  · exact absurd rfl h
  split at h
  · exact absurd rfl h
  split at h
  · exact absurd rfl h
  rename_i g1 g2 g3 g4
  rw [if_neg g1, if_neg g2, if_neg g3, if_neg g4]
  refine .inr (.inr ⟨by omega, by omega, by omega, by omega, ?_⟩)
  unfold kind10 at *
  by_cases h7 : 7 ≤ op
  · simp only [if_pos h7] at h ⊢
    split at h
    · exact absurd rfl h
    split at h
    · exact absurd rfl h
    split at h
    · exact absurd rfl h
    rename_i q1 q2 q3
    rw [if_neg q1, if_neg q2, if_neg q3]
    exact ⟨by omega, by omega, rfl, by omega⟩
  · simp only [if_neg h7] at h ⊢
    split at h
    · exact absurd rfl h
    split at h
    · exact absurd rfl h
    split at h
    · exact absurd rfl h
    rename_i q1 q2 q3
    rw [if_neg q1, if_neg q2, if_neg q3]
    exact ⟨by omega, by omega, rfl, by omega⟩
theorem valT_range {t : TM} {ks vs st : List Int} {vars : Int} (h : kind1 t ks vars ≠ 0) (hl : vs.length = ks.length) (hs : StR st vars) (hv : ∀ i (h : i < ks.length), RangeK ks[i] (vs[i]'(by omega))) : RangeK (kind1 t ks vars) (valT t st vs) := by
  obtain ⟨op, n, a, b⟩ := t
  rcases kind1_cases h with ⟨h0, h1, h2⟩ | ⟨h0, h1, h2⟩ | ⟨h0, h1, h2, h3, h4, h5, h6, h7⟩
  · rw [h2]; dsimp only at *; subst h0; exact h1
  · rw [h2]; dsimp only at *; subst h0
    unfold valT RangeK
    rw [if_neg (by omega), if_neg (by simp), if_pos rfl]
    have : n.toNat < st.length := by have := hs.1; omega
    dsimp only
    rw [getD_get this]
    exact hs.2 _ (List.getElem_mem _)
  · rw [h6]; dsimp only at *
    have ha : a.toNat < ks.length := by omega
    have hb : b.toNat < ks.length := by omega
    have ra := hv _ ha
    have rb := hv _ hb
    rw [getD_get ha] at h4
    rw [getD_get hb] at h5
    rw [h4] at ra
    rw [h5] at rb
    unfold valT
    rw [if_neg (show ¬ op = 0 by omega), if_neg (show ¬ op = 1 by omega)]
    rw [getD_get (show a.toNat < vs.length by omega), getD_get (show b.toNat < vs.length by omega)]
    generalize vs[a.toNat] = x at *
    generalize vs[b.toNat] = y at *
    unfold doT RangeK at *
    have : op = 2 ∨ op = 3 ∨ op = 4 ∨ op = 5 ∨ op = 6 ∨ op = 7 ∨ op = 8 ∨ op = 9 := by omega
    rcases this with e | e | e | e | e | e | e | e <;> subst e <;> simp at ra rb ⊢
    · exact clampT_bd _
    · exact clampT_bd _
    · exact clampT_bd _
    · exact bitOf_01 _
    · exact bitOf_01 _
    · omega
    · rcases ra with rfl | rfl <;> rcases rb with rfl | rfl <;> simp
    · exact bitOf_01 _
theorem vals_range {p : List TM} {ks st : List Int} {vars : Int} (hk : KindsAt p vars ks) (hl : ks.length = p.length) (hs : StR st vars) : ∀ j, j ≤ p.length → ∀ i (h : i < j) (h1 : i < ks.length) (h2 : i < (vals (p.take j) st).length), RangeK ks[i] (vals (p.take j) st)[i]
  | 0, _, i, h, _, _ => by omega
  | j + 1, hj, i, h, h1, h2 => by
    have hj' : j < p.length := by omega
    have ih := vals_range hk hl hs j (by omega)
    have e := vals_take1 p st hj'
    have hvl : (vals (p.take j) st).length = j := by rw [vals_length, List.length_take]; omega
    by_cases hi : i < j
    · have : (vals (p.take (j + 1)) st)[i] = (vals (p.take j) st)[i]'(by omega) := by simp only [e]; rw [List.getElem_append_left (by omega)]
      rw [this]
      exact ih i hi h1 _
    · have : i = j := by omega
      subst this
      have : (vals (p.take (i + 1)) st)[i] = valT p[i] st (vals (p.take i) st) := by simp only [e]; rw [List.getElem_append_right (by omega)]; simp [hvl]
      rw [this, ← (hk i h1 hj').1]
      refine valT_range (by rw [(hk i h1 hj').1]; exact (hk i h1 hj').2) (by rw [hvl, List.length_take]; omega) hs fun i' h' => ?_
      rw [List.getElem_take]
      simp at h'
      exact ih i' (by omega) _ _
end Go.Ev

namespace Go.Ev
theorem l1Held_eq (k : Nat) (x : Int) : spec_l1Held.f k x = some (clampT x, ()) := by
  rw [spec_l1Held.s]; unfold clampT
  by_cases h : x > 9999
  · simp [h]
  · by_cases h2 : x < -9999
    · simp [h, h2]
    · simp [h, h2]
theorem held_eq (k : Nat) (x : Int) : impl_held.f k x = some (clampT x, ()) := by
  rw [impl_held.s]; unfold clampT mx mn
  split <;> split <;> (try split) <;> (try split) <;> simp <;> omega
theorem l1Do_eq (k : Nat) {op x y : Int} (hx : -9999 ≤ x ∧ x ≤ 9999) (hy : -9999 ≤ y ∧ y ≤ 9999) : spec_l1Do.f k op x y = some (doT op x y, ()) := by
  have hm := mul_bd (a := 9999) (b := 9999) (by omega) (by omega : -((9999 : Nat) : Int) ≤ y ∧ y ≤ (9999 : Nat)) (x := x)
  have e1 : w64 (x + y) = x + y := w64_id (by omega) (by omega)
  have e2 : w64 (x - y) = x - y := w64_id (by omega) (by omega)
  have e3 : w64 (x * y) = x * y := w64_id (by omega) (by omega)
  have e4 : w64 (1 - x) = 1 - x := w64_id (by omega) (by omega)
  rw [spec_l1Do.s]; unfold doT
  simp only [e1, e2, e3, e4, l1Held_eq, l1Truth_eq, Option.bind_some, beq_iff_eq]
  repeat' split
  all_goals first | rfl | (congr 2; congr 1; exact Bool.eq_iff_iff.2 (by simp))
theorem do_eq (k : Nat) {op x y : Int} (ho : 2 ≤ op ∧ op ≤ 9) (hx : RangeK (if 7 ≤ op then 2 else 1) x) (hy : RangeK (if 7 ≤ op then 2 else 1) y) : impl_do.f k op x y = some (doT op x y, ()) := by
  have hx' := hx.abs
  have hy' := hy.abs
  have hm := mul_bd (a := 9999) (b := 9999) (by omega) (by omega : -((9999 : Nat) : Int) ≤ y ∧ y ≤ (9999 : Nat)) (x := x)
  have e1 : w64 (x + y) = x + y := w64_id (by omega) (by omega)
  have e2 : w64 (x - y) = x - y := w64_id (by omega) (by omega)
  have e3 : w64 (x * y) = x * y := w64_id (by omega) (by omega)
  have e4 : w64 (1 - x) = 1 - x := w64_id (by omega) (by omega)
  rw [impl_do.s]; unfold doT
  simp only [e1, e2, e3, e4, held_eq, bit_eq, Option.bind_some, beq_iff_eq]
  unfold RangeK at hx hy
  have : op = 2 ∨ op = 3 ∨ op = 4 ∨ op = 5 ∨ op = 6 ∨ op = 7 ∨ op = 8 ∨ op = 9 := by omega
  rcases this with e | e | e | e | e | e | e | e <;> subst e <;> simp at hx hy ⊢
  · by_cases h : x = y
    · simp [h]
    · simp [h, beq_false_of_ne h]
  · rcases hx with rfl | rfl <;> rcases hy with rfl | rfl <;> rfl
  · rcases hx with rfl | rfl <;> rcases hy with rfl | rfl <;> rfl
theorem term_vals {p : List TM} {ks st : List Int} {vars : Int} (hk : KindsAt p vars ks) (hl : ks.length = p.length) (hs : StR st vars) {j : Nat} (hj : j < p.length) :
    (2 ≤ p[j].1 → p[j].1 ≤ 9 ∧ (0 ≤ p[j].2.2.1 ∧ p[j].2.2.1 < j) ∧ (0 ≤ p[j].2.2.2 ∧ p[j].2.2.2 < j) ∧ RangeK (if 7 ≤ p[j].1 then 2 else 1) ((vals (p.take j) st).getD p[j].2.2.1.toNat 0) ∧ RangeK (if 7 ≤ p[j].1 then 2 else 1) ((vals (p.take j) st).getD p[j].2.2.2.toNat 0)) ∧
    (p[j].1 = 1 → 0 ≤ p[j].2.1 ∧ p[j].2.1 < st.length) ∧ 0 ≤ p[j].1 := by
  have hjk : j < ks.length := by omega
  have h := (hk j hjk hj)
  have hne : kind1 p[j] (ks.take j) vars ≠ 0 := by rw [h.1]; exact h.2
  have hvl : (vals (p.take j) st).length = j := by rw [vals_length, List.length_take]; omega
  have hkl : (ks.take j).length = j := by rw [List.length_take]; omega
  have hr := vals_range hk hl hs j (by omega)
  rcases kind1_cases hne with ⟨h0, h1, h2⟩ | ⟨h0, h1, h2⟩ | ⟨h0, h1, h2, h3, h4, h5, h6, h7⟩
  · exact ⟨fun h => by omega, fun h => by omega, by omega⟩
  · exact ⟨fun h => by omega, fun h => ⟨h1.1, by have := hs.1; omega⟩, by omega⟩
  · refine ⟨fun _ => ⟨h1, by omega, by omega, ?_, ?_⟩, fun h => by omega, by omega⟩
    · have ha : p[j].2.2.1.toNat < j := by omega
      have := hr _ ha (by omega) (by omega)
      rw [getD_get (by omega), List.getElem_take] at h4
      rw [h4] at this
      rw [getD_get (by omega)]
      exact this
    · have ha : p[j].2.2.2.toNat < j := by omega
      have := hr _ ha (by omega) (by omega)
      rw [getD_get (by omega), List.getElem_take] at h5
      rw [h5] at this
      rw [getD_get (by omega)]
      exact this
theorem l1Values_eq {k : Nat} {p : List TM} {st : List Int} {vars q : Int} (h : KindIs p vars q) (hs : StR st vars) (hk : 1000 < k) : spec_l1Values.f k p st = some (vals p st, ()) := by
  obtain ⟨ks, h1, h2, h3, h4, h5⟩ := h
  rw [spec_l1Values.s]
  refine for_post (m := p.length) (l := fun n v j => spec_l1Values.l3 k p st n v j) (fun j v => v = vals (p.take j) st) (fun x => x = some (vals p st, ())) (fun n v hI => ?_) (fun n j v hj hI ih => ?_) (by omega) (by simp [vals])
  · rw [hI, List.take_of_length_le (by omega)]
    simp [spec_l1Values.s3]
  · obtain ⟨t1, t2, t0⟩ := term_vals h1 h2 hs hj
    have hvl : v.length = j := by rw [hI, vals_length, List.length_take]; omega
    have e : vals (p.take (j + 1)) st = v ++ [valT p[j] st v] := by rw [vals_take1 p st hj, hI]
    have ih := ih _ e.symm
    rw [← hI] at t1
    simp (disch := omega) only [spec_l1Values.s3, getD_get, w64_id, toNat_nat, gd_t]
    rw [if_pos (by simpa using hj)]
    unfold valT at ih
    by_cases g0 : p[j].1 = 0
    · rw [if_pos g0] at ih
      rw [if_pos (by simpa using g0), gd_t (by simp; omega)]; exact ih
    rw [if_neg g0] at ih
    rw [if_neg (by simpa using g0)]
    by_cases g1 : p[j].1 = 1
    · obtain ⟨a1, a2⟩ := t2 g1
      rw [if_pos g1] at ih
      rw [if_pos (by simpa using g1), gd_t a1, gd_t a2, gd_t (by simp; omega)]; exact ih
    obtain ⟨b1, b2, b3, b4, b5⟩ := t1 (by omega)
    rw [if_neg g1] at ih
    rw [if_neg (by simpa using g1), gd_t b2.1, gd_t (by omega), gd_t b3.1, gd_t (by omega), l1Do_eq k b4.abs b5.abs]
    simp only [Option.bind_some]
    rw [gd_t (by simp; omega)]; exact ih
theorem l2Last_eq {k : Nat} {p : List TM} {st : List Int} {vars q : Int} (h : KindIs p vars q) (hs : StR st vars) (hk : 1000 < k) : spec_l2Last.f k p st = some (evalT p st, ()) := by
  rw [spec_l2Last.s, l1Values_eq h hs hk]
  obtain ⟨ks, h1, h2, h3, h4, h5⟩ := h
  have e : w64 ((p.length : Int) - 1) = ((p.length - 1 : Nat) : Int) := by rw [w64_id (by omega) (by omega)]; omega
  simp only [Option.bind_some, e, toNat_nat, vals_length]
  rw [gd_t (by omega), gd_t (by omega)]; rfl
theorem eval_eq {k : Nat} {p : List TM} {st : List Int} {vars q : Int} (h : KindIs p vars q) (hs : StR st vars) (hk : 1000 < k) : impl_eval.f k p st = some (evalT p st, ()) := by
  obtain ⟨ks, h1, h2, h3, h4, h5⟩ := h
  rw [impl_eval.s, gd_t (by omega), gd_t (by omega)]
  refine for_post (m := p.length) (l := fun n v j => impl_eval.l3 k p st n v j) (fun j v => v = vals (p.take j) st ++ List.replicate (p.length - j) 0) (fun x => x = some (evalT p st, ())) (fun n v hI => ?_) (fun n j v hj hI ih => ?_) (by omega) (by simp [vals])
  · have hI : v = vals p st := by rw [hI, List.take_of_length_le (by omega)]; simp
    subst hI
    have e : w64 ((p.length : Int) - 1) = ((p.length - 1 : Nat) : Int) := by rw [w64_id (by omega) (by omega)]; omega
    simp only [impl_eval.s3, vals_length, e, toNat_nat]
    rw [if_neg (by simp), gd_t (by omega), gd_t (by omega)]; rfl
  · obtain ⟨t1, t2, t0⟩ := term_vals h1 h2 hs hj
    have hvl : (vals (p.take j) st).length = j := by rw [vals_length, List.length_take]; omega
    have hv : v.length = p.length := by rw [hI]; simp [hvl]; omega
    have e : ∀ x, x = valT p[j] st (vals (p.take j) st) → v.set j x = vals (p.take (j + 1)) st ++ List.replicate (p.length - (j + 1)) 0 := fun x hx => by
      rw [vals_take1 p st hj, hI, hx, List.set_append_right _ _ (by omega), hvl, Nat.sub_self, show p.length - j = (p.length - (j + 1)) + 1 by omega, List.replicate_succ]
      simp
    have hg : ∀ a : Int, 0 ≤ a → a < j → v.getD a.toNat 0 = (vals (p.take j) st).getD a.toNat 0 := fun a h0 h1 => by
      rw [hI]
      simp only [List.getD_eq_getElem?_getD]
      rw [List.getElem?_append_left (by omega)]
    have ih := fun x hx => ih _ (e x hx)
    unfold valT at ih
    simp (disch := omega) only [impl_eval.s3, getD_get, w64_id, toNat_nat, gd_t]
    rw [if_pos (by simpa using hj)]
    by_cases g0 : p[j].1 = 0
    · rw [if_pos (by simpa using g0)]; exact ih _ (by rw [if_pos g0])
    rw [if_neg (by simpa using g0)]
    by_cases g1 : p[j].1 = 1
    · obtain ⟨a1, a2⟩ := t2 g1
      rw [if_pos (by simpa using g1), gd_t a1, gd_t a2]; exact ih _ (by rw [if_neg g0, if_pos g1])
    obtain ⟨b1, b2, b3, b4, b5⟩ := t1 (by omega)
    rw [if_neg (by simpa using g1), gd_t b2.1, gd_t (by omega), gd_t b3.1, gd_t (by omega), hg _ b2.1 b2.2, hg _ b3.1 b3.2, do_eq k ⟨by omega, b1⟩ b4 b5]
    simp only [Option.bind_some]
    exact ih _ (by rw [if_neg g0, if_neg g1])
def lettersT (ps : List (List TM)) (st : List Int) : List Int := ps.map fun p => evalT p st
theorem l20Of_eq {k : Nat} {ps : List (List TM)} {st : List Int} {vars q : Int} (h : ∀ p ∈ ps, KindIs p vars q) (hs : StR st vars) (hk : 1000 < k) (hp : ps.length ≤ 4) : spec_l20Of.f k ps st = some (lettersT ps st, ()) := by
  rw [spec_l20Of.s]
  refine push_loop (l := fun n v j => spec_l20Of.l3 k ps st n v j) (ys := lettersT ps st) (m := ps.length) (by simp [lettersT]) (fun n j v hj hv => ?_) (fun n => ?_) (by omega)
  · simp (disch := omega) only [spec_l20Of.s3, getD_get, w64_id, toNat_nat, gd_t, l2Last_eq (h _ (List.getElem_mem hj)) hs hk, Option.bind_some]
    rw [if_pos (by simpa using hj), gd_t (by simp; omega)]
    simp [lettersT]
  · simp [spec_l20Of.s3]
end Go.Ev

namespace Go.Ev
def stOf : List VA → Nat → List Int
  | [], _ => []
  | v :: vs, n => (v.1 + (((n / prodW vs) % wid v : Nat) : Int)) :: stOf vs n
def noOf : List VA → List Int → Nat
  | v :: vs, x :: xs => (x - v.1).toNat * prodW vs + noOf vs xs
  | _, _ => 0
def StP : List VA → List Int → Prop
  | [], [] => True
  | v :: vs, x :: xs => (v.1 ≤ x ∧ x ≤ v.2.1) ∧ StP vs xs
  | _, _ => False
theorem wid_pos {v : VA} (h : VarP v) : 0 < wid v := by unfold wid; have := h.1; omega
theorem wid_int {v : VA} (h : VarP v) : ((wid v : Nat) : Int) = v.2.1 - v.1 + 1 := by unfold wid; have := h.1; omega
theorem prodW_pos : ∀ {vs : List VA}, (∀ v ∈ vs, VarP v) → 0 < prodW vs
  | [], _ => by simp [prodW]
  | v :: vs, h => Nat.mul_pos (wid_pos (h v (by simp))) (prodW_pos fun w hw => h w (by simp [hw]))
theorem stOf_length : ∀ (vs : List VA) (n : Nat), (stOf vs n).length = vs.length
  | [], _ => rfl
  | v :: vs, n => by simp [stOf, stOf_length vs n]
theorem StP.length : ∀ {vs : List VA} {st : List Int}, StP vs st → st.length = vs.length
  | [], [], _ => rfl
  | v :: vs, x :: xs, h => by simp [StP.length h.2]
  | [], x :: xs, h => absurd h id
  | v :: vs, [], h => absurd h id
theorem StP_iff : ∀ {vs : List VA} {st : List Int}, StP vs st ↔ st.length = vs.length ∧ ∀ i (h : i < vs.length) (h' : i < st.length), vs[i].1 ≤ st[i] ∧ st[i] ≤ vs[i].2.1
  | [], [] => by simp [StP]
  | v :: vs, x :: xs => by
    rw [StP, StP_iff]
    constructor
    · rintro ⟨h1, h2, h3⟩
      refine ⟨by simp [h2], fun i h h' => ?_⟩
      cases i with
      | zero => exact h1
      | succ i => exact h3 i (by simpa using h) (by simpa using h')
    · rintro ⟨h1, h2⟩
      exact ⟨h2 0 (by simp) (by simp), by simpa using h1, fun i h h' => h2 (i + 1) (by simpa using h) (by simpa using h')⟩
  | [], x :: xs => by simp [StP]
  | v :: vs, [] => by simp [StP]
theorem StP.range : ∀ {vs : List VA} {st : List Int}, StP vs st → (∀ v ∈ vs, VarP v) → StR st vs.length
  | [], [], _, _ => ⟨rfl, fun x h => by cases h⟩
  | v :: vs, x :: xs, h, hv => by
    have := StP.range h.2 fun w hw => hv w (by simp [hw])
    have hp := hv v (by simp)
    refine ⟨by simp [h.2.length], fun y hy => ?_⟩
    rcases List.mem_cons.1 hy with rfl | hy
    · exact ⟨Int.le_trans hp.2.1 h.1.1, Int.le_trans h.1.2 hp.2.2.1⟩
    · exact this.2 y hy
  | [], x :: xs, h, _ => absurd h id
  | v :: vs, [], h, _ => absurd h id
theorem stOf_StP : ∀ {vs : List VA} (n : Nat), (∀ v ∈ vs, VarP v) → StP vs (stOf vs n)
  | [], n, _ => trivial
  | v :: vs, n, h => by
    have hp := h v (by simp)
    have := Nat.mod_lt (n / prodW vs) (wid_pos hp)
    have e := wid_int hp
    exact ⟨⟨by omega, by omega⟩, stOf_StP n fun w hw => h w (by simp [hw])⟩
theorem noOf_lt : ∀ {vs : List VA} {st : List Int}, StP vs st → (∀ v ∈ vs, VarP v) → noOf vs st < prodW vs
  | [], [], _, _ => by simp [noOf, prodW]
  | v :: vs, x :: xs, h, hv => by
    have ih := noOf_lt h.2 fun w hw => hv w (by simp [hw])
    have hp := hv v (by simp)
    have hw := wid_int hp
    simp only [noOf, prodW]
    have h1 : (x - v.1).toNat + 1 ≤ wid v := by have := h.1; omega
    have := Nat.mul_le_mul_right (prodW vs) h1
    rw [Nat.add_mul, Nat.one_mul] at this
    omega
  | [], x :: xs, h, _ => absurd h id
  | v :: vs, [], h, _ => absurd h id
theorem drop_cons_get {α : Type} {l : List α} {i : Nat} (h : i < l.length) : l.drop i = l[i] :: l.drop (i + 1) := by simp
theorem state_loop {l : Nat → Int → List Int → Int → Option (List Int × Unit)} {vs : List VA} (hv : ∀ v ∈ vs, VarP v) (N : Nat)
    (h : ∀ n (m : Nat) (v : List Int) (i : Nat) (hi : i < vs.length), v.length = vs.length → m ≤ N → l (n + 1) (m : Int) v (i : Int) = l n ((m / wid vs[i] : Nat) : Int) (v.set i (vs[i].1 + ((m % wid vs[i] : Nat) : Int))) ((i : Int) - 1))
    (h0 : ∀ n (m : Int) (v : List Int), v.length = vs.length → l (n + 1) m v (-1) = some (v, ())) : ∀ (i n : Nat) (v : List Int), i ≤ vs.length → i < n → v.length = vs.length → v.drop i = stOf (vs.drop i) N → l n ((N / prodW (vs.drop i) : Nat) : Int) v ((i : Int) - 1) = some (stOf vs N, ())
  | 0, n + 1, v, hi, hn, hl, hd => by
    simp only [List.drop_zero] at hd
    subst hd
    exact h0 n _ _ (stOf_length _ _)
  | i + 1, n + 1, v, hi, hn, hl, hd => by
    have hi' : i < vs.length := by omega
    have e : ((i + 1 : Nat) : Int) - 1 = (i : Int) := by omega
    rw [e, h n _ v i hi' hl (Nat.div_le_self _ _)]
    have e2 : N / prodW (vs.drop (i + 1)) / wid vs[i] = N / prodW (vs.drop i) := by
      rw [Nat.div_div_eq_div_mul, drop_cons_get hi', prodW, Nat.mul_comm]
    rw [e2]
    refine state_loop hv N h h0 i n _ (by omega) (by omega) (by simp [hl]) ?_
    rw [drop_cons_get hi', stOf, ← hd, drop_cons_get (by simp; omega), List.drop_set_of_lt (by omega)]
    simp
theorem wid_w64 {v : VA} (h : VarP v) : w64 (w64 (v.2.1 - v.1) + 1) = ((wid v : Nat) : Int) := by
  rw [wid_int h, w64_id (x := v.2.1 - v.1) (by have := h; unfold VarP at this; omega) (by have := h; unfold VarP at this; omega), w64_id (by have := h; unfold VarP at this; omega) (by have := h; unfold VarP at this; omega)]
theorem stateAt_eq {k : Nat} {s : SY} (hs : SysP s) (n : Nat) (hn : n ≤ 1048576) (hk : 1000 < k) : impl_stateAt.f k s n = some (stOf s.1 n, ()) := by
  have h5 := hs.v5
  have h1 := hs.v1
  rw [impl_stateAt.s, gd_t (by omega), gd_t (by omega)]
  have := state_loop (l := fun q m v i => impl_stateAt.l3 k s q m v i) hs.vp n (fun q m v i hi hl hm => ?_) (fun q m v hl => ?_) s.1.length k (List.replicate ((s.1.length : Int)).toNat 0) (by omega) (by omega) (by simp) (by simp [stOf])
  · have e : w64 (((List.replicate ((s.1.length : Int)).toNat (0 : Int)).length : Int) - 1) = (s.1.length : Int) - 1 := by simp; exact w64_id (by omega) (by omega)
    rw [e]
    simpa [prodW] using this
  · have hp := hs.vp _ (List.getElem_mem hi)
    have hw := wid_pos hp
    have hwi := wid_int hp
    have hb := hp
    unfold VarP at hb
    simp (disch := omega) only [impl_stateAt.s3, getD_get, toNat_nat, gd_t, wid_w64 hp, getD_get hi]
    rw [if_pos (by simp), Int.tdiv_eq_ediv_of_nonneg (by omega), Int.tmod_eq_emod_of_nonneg (by omega), ← Int.natCast_ediv, ← Int.natCast_emod]
    have h3 := Nat.div_le_self m (wid s.1[i])
    have h4 := Nat.mod_lt m hw
    generalize m / wid s.1[i] = q at h3 ⊢
    generalize m % wid s.1[i] = r at h4 ⊢
    rw [w64_id (x := (q : Int)) (by omega) (by omega), w64_id (x := s.1[i].1 + _) (by omega) (by omega), w64_id (x := (i : Int) - 1) (by omega) (by omega)]
  · simp [impl_stateAt.s3]
def firstT (s : SY) : List Int := s.1.map fun v => v.2.2
theorem FirstState_eq {k : Nat} {s : SY} (hs : SysP s) (hv : spec_SystemValid.f k s = some (true, ())) (hk : 1000 < k) : spec_FirstState.f k s = some (firstT s, ()) := by
  have h5 := hs.v5
  rw [spec_FirstState.s]
  refine push_loop (l := fun n v j => spec_FirstState.l3 k s n v j) (ys := firstT s) (m := s.1.length) (by simp [firstT]) (fun n j v hj hv' => ?_) (fun n => ?_) (by omega)
  · simp (disch := omega) only [spec_FirstState.s3, getD_get, w64_id, toNat_nat, gd_t, hv, Option.bind_some]
    rw [if_pos (by simpa using hj)]
    simp only [if_true]
    rw [gd_t (by simp; omega)]
    simp [firstT]
  · simp [spec_FirstState.s3]
theorem l3Copy_eq {k : Nat} (p : List Int) (hp : p.length ≤ 1048576) (hk : 1048576 < k) : spec_l3Copy.f k p = some (p, ()) := by
  rw [spec_l3Copy.s]
  refine push_loop (l := fun n v j => spec_l3Copy.l3 k p n v j) (ys := p) (m := p.length) rfl (fun n j v hj hv' => ?_) (fun n => ?_) (by omega)
  · simp (disch := omega) only [spec_l3Copy.s3, getD_get, w64_id, toNat_nat, gd_t]
    rw [if_pos (by simpa using hj), gd_t (by simp; omega)]
  · simp [spec_l3Copy.s3]
theorem firstT_length (s : SY) : (firstT s).length = s.1.length := by simp [firstT]
theorem l4State_eq {k : Nat} {s : SY} (hs : SysP s) (hv : spec_SystemValid.f k s = some (true, ())) (n : Nat) (hn : n ≤ 1048576) (hk : 1048576 < k) : spec_l4State.f k s n = some (stOf s.1 n, ()) := by
  have h5 := hs.v5
  have h1 := hs.v1
  have hfl := firstT_length s
  rw [spec_l4State.s, FirstState_eq hs hv (by omega)]
  simp only [Option.bind_some]
  rw [l3Copy_eq _ (by omega) hk]
  simp only [Option.bind_some]
  have := state_loop (l := fun q m v i => spec_l4State.l3 k s q m v i) hs.vp n (fun q m v i hi hl hm => ?_) (fun q m v hl => ?_) s.1.length k (firstT s) (by omega) (by omega) hfl (by simp [stOf, hfl])
  · rw [w64_id (by omega) (by omega)]
    simpa [prodW] using this
  · have hp := hs.vp _ (List.getElem_mem hi)
    have hw := wid_pos hp
    have hwi := wid_int hp
    have hb := hp
    unfold VarP at hb
    simp (disch := omega) only [spec_l4State.s3, getD_get, toNat_nat, gd_t, wid_w64 hp, getD_get hi]
    rw [if_pos (by simp), Int.tdiv_eq_ediv_of_nonneg (by omega), Int.tmod_eq_emod_of_nonneg (by omega), ← Int.natCast_ediv, ← Int.natCast_emod]
    have h3 := Nat.div_le_self m (wid s.1[i])
    have h4 := Nat.mod_lt m hw
    generalize m / wid s.1[i] = q at h3 ⊢
    generalize m % wid s.1[i] = r at h4 ⊢
    rw [w64_id (x := (q : Int)) (by omega) (by omega), w64_id (x := s.1[i].1 + _) (by omega) (by omega), w64_id (x := (i : Int) - 1) (by omega) (by omega)]
  · simp [spec_l4State.s3]
end Go.Ev

namespace Go.Ev
def cmpL : List Int → List Int → Int
  | [], [] => 0
  | [], _ :: _ => -1
  | _ :: _, [] => 1
  | a :: xs, b :: ys => if a < b then -1 else if b < a then 1 else cmpL xs ys
theorem cmpL_range : ∀ a b, cmpL a b = -1 ∨ cmpL a b = 0 ∨ cmpL a b = 1
  | [], [] => by simp [cmpL]
  | [], _ :: _ => by simp [cmpL]
  | _ :: _, [] => by simp [cmpL]
  | a :: xs, b :: ys => by
    simp only [cmpL]
    split
    · exact .inl rfl
    · split
      · exact .inr (.inr rfl)
      · exact cmpL_range xs ys
theorem cmpL_zero : ∀ {a b}, cmpL a b = 0 ↔ a = b
  | [], [] => by simp [cmpL]
  | [], _ :: _ => by simp [cmpL]
  | _ :: _, [] => by simp [cmpL]
  | a :: xs, b :: ys => by
    simp only [cmpL, List.cons.injEq]
    split
    · constructor
      · intro h; cases h
      · rintro ⟨h, _⟩; omega
    · split
      · constructor
        · intro h; cases h
        · rintro ⟨h, _⟩; omega
      · rw [cmpL_zero]
        constructor
        · intro h; exact ⟨by omega, h⟩
        · exact fun h => h.2
theorem cmpL_swap : ∀ a b, cmpL b a = -cmpL a b
  | [], [] => rfl
  | [], _ :: _ => rfl
  | _ :: _, [] => rfl
  | a :: xs, b :: ys => by
    simp only [cmpL]
    by_cases h1 : a < b
    · rw [if_pos h1, if_neg (by omega), if_pos h1]; rfl
    · by_cases h2 : b < a
      · rw [if_pos h2, if_neg h1, if_pos h2]
      · rw [if_neg h1, if_neg h2, if_neg h2, if_neg h1, cmpL_swap xs ys]
theorem cmpL_trans : ∀ {a b c}, cmpL a b < 0 → cmpL b c < 0 → cmpL a c < 0
  | [], [], _, h, _ => by simp [cmpL] at h
  | [], _ :: _, [], _, h => by simp [cmpL] at h
  | [], _ :: _, _ :: _, _, _ => by simp [cmpL]
  | _ :: _, [], _, h, _ => by simp [cmpL] at h
  | _ :: _, _ :: _, [], _, h => by simp [cmpL] at h
  | a :: xs, b :: ys, c :: cs, h1, h2 => by
    simp only [cmpL] at *
    by_cases g1 : a < b
    · by_cases g2 : b < c
      · rw [if_pos (by omega)]; decide
      · rw [if_neg g2] at h2
        by_cases g3 : c < b
        · rw [if_pos g3] at h2; omega
        · rw [if_pos (by omega)]; decide
    · rw [if_neg g1] at h1
      by_cases g3 : b < a
      · rw [if_pos g3] at h1; omega
      · rw [if_neg g3] at h1
        by_cases g2 : b < c
        · rw [if_pos (by omega)]; decide
        · rw [if_neg g2] at h2
          by_cases g4 : c < b
          · rw [if_pos g4] at h2; omega
          · rw [if_neg g4] at h2
            rw [if_neg (by omega), if_neg (by omega)]
            exact cmpL_trans h1 h2
theorem cmpL_drop {a b : List Int} {j : Nat} (ha : j ≤ a.length) (hb : j ≤ b.length) (h : a.take j = b.take j) : cmpL a b = cmpL (a.drop j) (b.drop j) := by
  induction j generalizing a b with
  | zero => rfl
  | succ j ih =>
    cases a with
    | nil => simp at ha
    | cons x a => cases b with
      | nil => simp at hb
      | cons y b =>
        simp only [List.take_succ_cons, List.cons.injEq] at h
        obtain ⟨rfl, h⟩ := h
        simp only [cmpL, List.drop_succ_cons]
        rw [if_neg (by omega), if_neg (by omega)]
        simp only [List.length_cons] at ha hb
        exact ih (by omega) (by omega) h
theorem drop_take1 {α : Type} {l : List α} {j : Nat} (h : j < l.length) : l.drop j = l[j] :: l.drop (j + 1) := by simp
theorem l2Less_eq {k : Nat} (a b : List Int) (ha : a.length ≤ 1048576) (hb : b.length ≤ 1048576) (hk : 1048576 < k) : spec_l2Less.f k a b = some (decide (cmpL a b < 0), ()) := by
  rw [spec_l2Less.s]
  have hmin := Nat.min_le_left a.length b.length
  refine for_post (m := min a.length b.length) (l := fun n (_ : Unit) j => spec_l2Less.l2 k a b n j) (I := fun j _ => a.take j = b.take j) (Q := fun r => r = some (decide (cmpL a b < 0), ())) (fun n s hI => ?_) (fun n j s hj hI ih => ?_) (s := ()) (by omega) (by simp)
  · rw [cmpL_drop (Nat.min_le_left _ _) (Nat.min_le_right _ _) hI]
    simp only [spec_l2Less.s2]
    by_cases h1 : a.length < b.length
    · have e : min a.length b.length = a.length := by omega
      rw [e]
      rw [if_neg (by simp), List.drop_eq_nil_of_le (Nat.le_refl _), drop_take1 h1]
      simp [cmpL]; omega
    · by_cases h2 : b.length < a.length
      · have e : min a.length b.length = b.length := by omega
        rw [e]
        rw [if_pos (by simp; omega), if_neg (by simp), drop_take1 h2, List.drop_eq_nil_of_le (Nat.le_refl b.length)]
        simp [cmpL]; omega
      · have e : a.length = b.length := by omega
        have e2 : min a.length b.length = a.length := by omega
        rw [e2]
        rw [if_neg (by simp), List.drop_eq_nil_of_le (Nat.le_refl _), List.drop_eq_nil_of_le (by omega)]
        simp [cmpL]; omega
  · have hja : j < a.length := by omega
    have hjb : j < b.length := by omega
    simp (disch := omega) only [spec_l2Less.s2, getD_get, w64_id, toNat_nat, gd_t]
    rw [if_pos (by simpa using hja), if_pos (by simpa using hjb)]
    by_cases he : a[j] = b[j]
    · rw [if_neg (by simpa using he)]
      exact ih () (by rw [List.take_succ_eq_append_getElem hja, List.take_succ_eq_append_getElem hjb, hI, he])
    · rw [if_pos (by simpa using he), cmpL_drop (by omega) (by omega) hI, drop_take1 hja, drop_take1 hjb]
      have e : cmpL (a[j] :: a.drop (j + 1)) (b[j] :: b.drop (j + 1)) = if a[j] < b[j] then -1 else 1 := by
        simp only [cmpL]
        by_cases hl : a[j] < b[j]
        · rw [if_pos hl, if_pos hl]
        · rw [if_neg hl, if_neg hl, if_pos (by omega)]
      rw [e]
      by_cases hl : a[j] < b[j]
      · simp [hl]
      · simp [hl]
theorem Compare_eq {k : Nat} (a b : List Int) (ha : a.length ≤ 1048576) (hb : b.length ≤ 1048576) (hk : 1048576 < k) : slices_Compare_int_int.f k a b = some (cmpL a b, ()) := by
  rw [slices_Compare_int_int.s]
  have hmin := Nat.min_le_left a.length b.length
  refine for_post (m := min a.length b.length) (l := fun n (_ : Unit) j => slices_Compare_int_int.l2 k a b n j) (I := fun j _ => a.take j = b.take j) (Q := fun r => r = some (cmpL a b, ())) (fun n s hI => ?_) (fun n j s hj hI ih => ?_) (s := ()) (by omega) (by simp)
  · rw [cmpL_drop (Nat.min_le_left _ _) (Nat.min_le_right _ _) hI]
    simp (disch := omega) only [slices_Compare_int_int.s2, gd_t]
    by_cases h1 : a.length < b.length
    · have e : min a.length b.length = a.length := by omega
      rw [e]
      rw [if_neg (by simp), List.drop_eq_nil_of_le (Nat.le_refl _), drop_take1 h1]
      simp [cmpL]; omega
    · by_cases h2 : b.length < a.length
      · have e : min a.length b.length = b.length := by omega
        rw [e]
        rw [if_pos (by simp; omega), gd_t (by omega), if_pos (by simp), drop_take1 h2, List.drop_eq_nil_of_le (Nat.le_refl b.length)]
        simp [cmpL]
      · have e : a.length = b.length := by omega
        have e2 : min a.length b.length = a.length := by omega
        rw [e2]
        rw [if_neg (by simp), List.drop_eq_nil_of_le (Nat.le_refl _), List.drop_eq_nil_of_le (by omega)]
        simp [cmpL]; omega
  · have hja : j < a.length := by omega
    have hjb : j < b.length := by omega
    have hc : cmp_Compare_int.f k a[j] b[j] = some (if a[j] < b[j] then -1 else if b[j] < a[j] then 1 else 0, ()) := by
      rw [cmp_Compare_int.s]
      simp only [cmp_isNaN_int.s, Option.bind_some, bne_self_eq_false, Bool.false_eq_true, if_false, decide_eq_true_eq]
      split
      · rfl
      · split <;> rfl
    simp (disch := omega) only [slices_Compare_int_int.s2, getD_get, w64_id, toNat_nat, gd_t, hc, Option.bind_some]
    rw [if_pos (by simpa using hja), if_neg (by simp; omega)]
    by_cases he : a[j] = b[j]
    · rw [if_neg (c := a[j] < b[j]) (by omega), if_neg (c := b[j] < a[j]) (by omega), if_neg (by simp)]
      exact ih () (by rw [List.take_succ_eq_append_getElem hja, List.take_succ_eq_append_getElem hjb, hI, he])
    · rw [cmpL_drop (by omega) (by omega) hI, drop_take1 hja, drop_take1 hjb]
      simp only [cmpL]
      by_cases hl : a[j] < b[j]
      · rw [if_pos hl]; simp [hl]
      · simp [hl, show b[j] < a[j] by omega]
def putL (x : List Int) : List (List Int) → List (List Int)
  | [] => [x]
  | y :: ys => if cmpL x y = 0 then y :: ys else if cmpL x y < 0 then x :: y :: ys else y :: putL x ys
def SortedL (l : List (List Int)) : Prop := l.Pairwise fun a b => cmpL a b < 0
theorem mem_putL {x z : List Int} : ∀ {l : List (List Int)}, z ∈ putL x l ↔ z = x ∨ z ∈ l
  | [] => by simp [putL]
  | y :: ys => by
    simp only [putL]
    split
    · rename_i h
      have := cmpL_zero.1 h
      subst this
      simp
    · split
      · simp
      · simp only [List.mem_cons, mem_putL (l := ys)]
        exact ⟨fun h => by rcases h with h | h | h <;> simp [h], fun h => by rcases h with h | h | h <;> simp [h]⟩
theorem SortedL.put {x : List Int} : ∀ {l : List (List Int)}, SortedL l → SortedL (putL x l)
  | [], _ => by simp [putL, SortedL]
  | y :: ys, h => by
    have hc : (∀ z ∈ ys, cmpL y z < 0) ∧ SortedL ys := List.pairwise_cons.1 h
    simp only [putL]
    split
    · exact h
    · split
      · rename_i h1 h2
        refine List.pairwise_cons.2 ⟨fun z hz => ?_, h⟩
        rcases List.mem_cons.1 hz with rfl | hz
        · exact h2
        · exact cmpL_trans h2 (hc.1 z hz)
      · rename_i h1 h2
        refine List.pairwise_cons.2 ⟨fun z hz => ?_, hc.2.put⟩
        rcases mem_putL.1 hz with rfl | hz
        · have := cmpL_range z y
          rw [cmpL_swap]; omega
        · exact hc.1 z hz
theorem putL_prefix {x : List Int} : ∀ {p q : List (List Int)}, (∀ y ∈ p, 0 < cmpL x y) → putL x (p ++ q) = p ++ putL x q
  | [], q, _ => rfl
  | y :: p, q, h => by
    have := h y (by simp)
    simp only [List.cons_append, putL]
    rw [if_neg (by omega), if_neg (by omega), putL_prefix fun z hz => h z (by simp [hz])]
theorem putL_length {x : List Int} : ∀ (p : List (List Int)), (putL x p).length ≤ p.length + 1
  | [] => by simp [putL]
  | y :: p => by
    simp only [putL]
    have := putL_length (x := x) p
    split
    · simp
    · split <;> simp <;> omega
end Go.Ev

namespace Go.Ev
theorem l2Put_eq {k : Nat} (p : List (List Int)) (x : List Int) (hx : x.length ≤ 1048576) (hp : ∀ y ∈ p, y.length ≤ 1048576) (hl : p.length ≤ 1048576) (hk : 1048577 < k) : spec_l2Put.f k p x = some (putL x p, ()) := by
  rw [spec_l2Put.s]
  have done : ∀ (d n j : Nat) (v : List (List Int)), j + d = p.length → d < n → v.length ≤ p.length + 1 + j → spec_l2Put.l4 k p x n v true (j : Int) = some (v ++ p.drop j, ()) := by
    intro d
    induction d with
    | zero =>
      intro n j v hd hn hv
      obtain ⟨n, rfl⟩ : ∃ i, n = i + 1 := ⟨n - 1, by omega⟩
      have : j = p.length := by omega
      subst this
      simp [spec_l2Put.s4]
    | succ d ih =>
      intro n j v hd hn hv
      obtain ⟨n, rfl⟩ : ∃ i, n = i + 1 := ⟨n - 1, by omega⟩
      obtain ⟨m, rfl⟩ : ∃ i, k = i + 1 := ⟨k - 1, by omega⟩
      have hj : j < p.length := by omega
      simp only [spec_l2Put.s4, spec_l2Put.sj8]
      simp (disch := omega) only [getD_get hj, w64_id, toNat_nat, gd_t]
      rw [if_pos (by simpa using hj)]
      simp only [Bool.not_true, Bool.false_eq_true, if_false]
      rw [gd_t (by simp; omega)]
      have := ih n (j + 1) (v ++ [p[j]]) (by omega) (by omega) (by simp; omega)
      rw [show ((j : Int) + 1) = ((j + 1 : Nat) : Int) by omega, this, List.append_assoc, drop_take1 hj]
      rfl
  refine for_postF (m := p.length) (l := fun n v j => spec_l2Put.l4 k p x n v false j) (fun j v => v = p.take j ∧ ∀ y ∈ p.take j, 0 < cmpL x y) (fun r => r = some (putL x p, ())) (fun n v hI => ?_) (fun n j v hj hf hI ih => ?_) (by omega) (by simp)
  · obtain ⟨h1, h2⟩ := hI
    rw [List.take_of_length_le (by omega)] at h1 h2
    subst h1
    have := putL_prefix (x := x) (p := v) (q := []) h2
    rw [List.append_nil] at this
    simp only [spec_l2Put.s4]
    rw [if_neg (by simp)]
    simp only [Bool.not_false, if_true]
    rw [gd_t (by simp; omega), this]
    rfl
  · obtain ⟨h1, h2⟩ := hI
    have hv : v.length = j := by rw [h1, List.length_take]; omega
    have hpj := hp _ (List.getElem_mem hj)
    have hput : putL x p = p.take j ++ putL x (p.drop j) := by
      conv => lhs; rw [← List.take_append_drop j p]
      exact putL_prefix h2
    obtain ⟨m, rfl⟩ : ∃ i, k = i + 1 := ⟨k - 1, by omega⟩
    have hr := cmpL_range x p[j]
    simp only [spec_l2Put.s4, spec_l2Put.sj8]
    simp (disch := omega) only [getD_get hj, w64_id, toNat_nat, gd_t, l2Same_eq _ _ hpj (show 1048576 < m + 1 by omega), l2Less_eq x p[j] hx hpj (show 1048576 < m + 1 by omega), Option.bind_some]
    rw [if_pos (by simpa using hj)]
    simp only [Bool.not_false, if_true, Bool.not_true, Bool.false_eq_true, if_false, decide_eq_true_eq]
    rw [show ((j : Int) + 1) = ((j + 1 : Nat) : Int) by omega]
    by_cases he : p[j] = x
    · rw [if_pos he, gd_t (by simp; omega), done (p.length - (j + 1)) n (j + 1) _ (by omega) (by omega) (by simp; omega), hput, drop_take1 hj, putL, if_pos (by rw [he]; exact cmpL_zero.2 rfl), h1]
      simp
    · have hne : ¬ cmpL x p[j] = 0 := fun h => he (cmpL_zero.1 h).symm
      rw [if_neg he]
      by_cases hless : cmpL x p[j] < 0
      · rw [if_pos hless, gd_t (by simp; omega), gd_t (by simp; omega), done (p.length - (j + 1)) n (j + 1) _ (by omega) (by omega) (by simp; omega), hput, drop_take1 hj, putL, if_neg hne, if_pos hless, h1]
        simp
      · rw [if_neg hless, gd_t (by simp; omega)]
        have := ih (v ++ [p[j]]) ⟨by rw [h1, List.take_succ_eq_append_getElem hj], fun y hy => by
          rcases (mem_take1 hj y).1 hy with hy | rfl
          · exact h2 y hy
          · omega⟩
        rw [← show ((j : Int) + 1) = ((j + 1 : Nat) : Int) by omega]
        exact this
end Go.Ev

namespace Go.Ev
theorem half_eq {a b : Nat} (h : a + b ≤ 1099511627776) : w64 ((IntKind.u64.wrap (w64 ((a : Int) + (b : Int)))).fdiv (2 ^ (min (Int.toNat 1) IntKind.u64.bits))) = (((a + b) / 2 : Nat) : Int) := by
  have e1 : w64 ((a : Int) + b) = ((a + b : Nat) : Int) := by rw [w64_id (by omega) (by omega)]; omega
  have e2 : IntKind.u64.wrap ((a + b : Nat) : Int) = ((a + b : Nat) : Int) := by
    have : IntKind.u64.wrap ((a + b : Nat) : Int) = ((a + b : Nat) : Int) % 18446744073709551616 := rfl
    rw [this]; omega
  have e3 : (2 : Int) ^ (min (Int.toNat 1) IntKind.u64.bits) = 2 := by decide
  rw [e1, e2, e3]
  have e4 : ((a + b : Nat) : Int).fdiv 2 = (((a + b) / 2 : Nat) : Int) := by
    rw [Int.fdiv_eq_ediv_of_nonneg _ (by decide)]; omega
  rw [e4, w64_id (by omega) (by omega)]
theorem BinarySearch_eq {k : Nat} (p : List (List Int)) (x : List Int) (f : List Int × List Int × Unit → Option Int) (hf : ∀ y ∈ p, f (y, x, ()) = some (cmpL y x)) (hp : SortedL p) (hl : p.length ≤ 1048576) (hk : 1048576 < k) :
    ∃ i : Nat, i ≤ p.length ∧ slices_BinarySearchFunc_int_int_int.f k p x f = some (((i : Int), decide (x ∈ p)), ()) ∧ (∀ y ∈ p.take i, cmpL y x < 0) ∧ (∀ y ∈ p.drop i, 0 ≤ cmpL y x) := by
  rw [slices_BinarySearchFunc_int_int_int.s]
  have hs : ∀ i j (hi : i < p.length) (hj : j < p.length), i < j → cmpL p[i] p[j] < 0 := fun i j hi hj h => List.pairwise_iff_getElem.1 hp i j hi hj h
  refine while_post (l := fun n (s : Nat × Nat) => slices_BinarySearchFunc_int_int_int.l3 k p x f n (s.1 : Int) (s.2 : Int)) (μ := fun s => s.2 - s.1)
    (I := fun s => s.1 ≤ s.2 ∧ s.2 ≤ p.length ∧ (∀ j (h : j < p.length), j < s.1 → cmpL p[j] x < 0) ∧ (∀ j (h : j < p.length), s.2 ≤ j → 0 ≤ cmpL p[j] x))
    (Q := fun r => ∃ i : Nat, i ≤ p.length ∧ r = some (((i : Int), decide (x ∈ p)), ()) ∧ (∀ y ∈ p.take i, cmpL y x < 0) ∧ (∀ y ∈ p.drop i, 0 ≤ cmpL y x)) (fun n s hI ih => ?_) (s := (0, p.length)) (by simp; omega) ⟨by simp, by simp, fun j _ h => by simp at h, fun j h h' => by simp at h'; omega⟩
  obtain ⟨lo, hi⟩ := s
  obtain ⟨h1, h2, h3, h4⟩ := hI
  dsimp only at h1 h2 h3 h4 ih ⊢
  rw [slices_BinarySearchFunc_int_int_int.s3]
  by_cases hlt : lo < hi
  · have hm : (lo + hi) / 2 < p.length := by omega
    rw [if_pos (by simpa using hlt), half_eq (by omega)]
    simp (disch := omega) only [gd_t, toNat_nat, getD_get hm, hf _ (List.getElem_mem hm), Option.bind_some]
    by_cases hc : cmpL p[(lo + hi) / 2] x < 0
    · rw [if_pos (by simpa using hc)]
      have := ih ((lo + hi) / 2 + 1, hi) ⟨by dsimp only; omega, h2, fun j hj h => ?_, h4⟩ (by dsimp only; omega)
      · dsimp only at this
        rwa [show w64 ((((lo + hi) / 2 : Nat) : Int) + 1) = (((lo + hi) / 2 + 1 : Nat) : Int) by rw [w64_id (by omega) (by omega)]; omega]
      · dsimp only at h
        by_cases e : j = (lo + hi) / 2
        · subst e; exact hc
        · exact cmpL_trans (hs j _ hj hm (by omega)) hc
    · rw [if_neg (by simpa using hc)]
      have := ih (lo, (lo + hi) / 2) ⟨by dsimp only; omega, by dsimp only; omega, h3, fun j hj h => ?_⟩ (by dsimp only; omega)
      · exact this
      · dsimp only at h
        by_cases e : j = (lo + hi) / 2
        · subst e; omega
        · have := hs _ j hm hj (by omega)
          rcases (by omega : cmpL p[j] x < 0 ∨ 0 ≤ cmpL p[j] x) with g | g
          · exact absurd (cmpL_trans this g) hc
          · exact g
  · have e : lo = hi := by omega
    subst e
    rw [if_neg (by simp)]
    have ht : ∀ y ∈ p.take lo, cmpL y x < 0 := fun y hy => by
      obtain ⟨i, hi, rfl⟩ := List.mem_take_iff_getElem.1 hy
      exact h3 i (by omega) (by omega)
    have hd : ∀ y ∈ p.drop lo, 0 ≤ cmpL y x := fun y hy => by
      obtain ⟨i, hi, rfl⟩ := List.mem_drop_iff_getElem.1 hy
      exact h4 _ _ (by omega)
    have hnot : (∀ y ∈ p.drop lo, cmpL y x ≠ 0) → x ∉ p := fun h hx => by
      rw [← List.take_append_drop lo p] at hx
      rcases List.mem_append.1 hx with hx | hx
      · have := ht x hx
        have h0 : cmpL x x = 0 := cmpL_zero.2 rfl
        omega
      · exact h x hx (cmpL_zero.2 rfl)
    by_cases hlen : lo < p.length
    · rw [if_pos (by simpa using hlen)]
      simp (disch := omega) only [gd_t, toNat_nat, getD_get hlen, hf _ (List.getElem_mem hlen), Option.bind_some]
      refine ⟨lo, h2, ?_, ht, hd⟩
      by_cases hz : cmpL p[lo] x = 0
      · have : x ∈ p := by rw [← cmpL_zero.1 hz]; exact List.getElem_mem hlen
        simp [hz, this]
      · have : x ∉ p := hnot fun y hy => by
          obtain ⟨i, hi, rfl⟩ := List.mem_drop_iff_getElem.1 hy
          by_cases e : i = 0
          · subst e; simpa using hz
          · have g1 := h4 lo hlen (Nat.le_refl _)
            have g2 := hs lo (lo + i) hlen (by omega) (by omega)
            intro h0
            have := cmpL_zero.1 h0
            rw [this] at g2
            have := cmpL_range p[lo] x
            omega
        simp [this, beq_false_of_ne hz]
    · rw [if_neg (by simpa using hlen)]
      have : x ∉ p := hnot fun y hy => by rw [List.drop_eq_nil_of_le (by omega)] at hy; simp at hy
      exact ⟨lo, h2, by simp [this], ht, hd⟩
theorem insert_putL {p : List (List Int)} {x : List Int} {i : Nat} (h1 : ∀ y ∈ p.take i, cmpL y x < 0) (h2 : ∀ y ∈ p.drop i, 0 ≤ cmpL y x) (hx : x ∉ p) : p.take i ++ [x] ++ p.drop i = putL x p := by
  conv => rhs; rw [← List.take_append_drop i p]
  rw [putL_prefix fun y hy => by have := h1 y hy; rw [cmpL_swap]; omega, List.append_assoc]
  congr 1
  cases hd : p.drop i with
  | nil => rfl
  | cons y ys =>
    have h := h2 y (by rw [hd]; simp)
    have hne : cmpL y x ≠ 0 := fun e => hx (by
      rw [← cmpL_zero.1 e]
      exact List.mem_of_mem_drop (i := i) (by rw [hd]; simp))
    have hs := cmpL_swap y x
    rw [putL, if_neg (by omega), if_pos (by omega)]
    rfl
theorem putL_mem {p : List (List Int)} {x : List Int} (hp : SortedL p) (hx : x ∈ p) : putL x p = p := by
  induction p with
  | nil => cases hx
  | cons y ys ih =>
    have hc : (∀ z ∈ ys, cmpL y z < 0) ∧ SortedL ys := List.pairwise_cons.1 hp
    rw [putL]
    rcases List.mem_cons.1 hx with rfl | hx
    · rw [if_pos (cmpL_zero.2 rfl)]
    · have := hc.1 x hx
      have hs := cmpL_swap y x
      rw [if_neg (by omega), if_neg (by omega), ih hc.2 hx]
end Go.Ev

namespace Go.Ev
def InB (vs : List VA) (st : List Int) (i : Nat) : Prop := ∃ (h : i < vs.length) (h' : i < st.length), vs[i].1 ≤ st[i] ∧ st[i] ≤ vs[i].2.1
theorem StP_InB {vs : List VA} {st : List Int} (hl : st.length = vs.length) : StP vs st ↔ ∀ i, i < vs.length → InB vs st i := by
  rw [StP_iff]
  exact ⟨fun h i hi => ⟨hi, by omega, h.2 i hi (by omega)⟩, fun h => ⟨hl, fun i hi hi' => by obtain ⟨_, _, h⟩ := h i hi; exact h⟩⟩
open Classical in
theorem l2In_eq {k : Nat} (s : SY) (st : List Int) (hv : s.1.length ≤ 1048576) (hst : st.length ≤ 1048576) (hk : 1048576 < k) : spec_l2In.f k s st = some (decide (StP s.1 st), ()) := by
  rw [spec_l2In.s]
  by_cases hl : st.length = s.1.length
  · rw [if_neg (by simp [hl])]
    have := check_loop (l := fun n j => spec_l2In.l4 k s st n j) (m := st.length) (b0 := true) (r := ()) (InB s.1 st) (fun n j hj hI => ?_) (fun n hI => ?_) (k := k) (by omega)
    · obtain ⟨b, h1, h2⟩ := this
      refine h1.trans ?_
      have : b = decide (StP s.1 st) := by
        rw [Bool.eq_iff_iff, h2, decide_eq_true_iff, StP_InB hl, ← hl]; simp
      rw [this]
    · have hj' : j < s.1.length := by omega
      simp (disch := omega) only [spec_l2In.s4, getD_get hj, getD_get hj', w64_id, toNat_nat, gd_t, spec_in_eq, Option.bind_some]
      rw [if_pos (by simpa using hj)]
      by_cases h : s.1[j].1 ≤ st[j] ∧ st[j] ≤ s.1[j].2.1
      · exact .inl ⟨⟨hj', hj, h⟩, by rw [if_neg (by simp; omega)]⟩
      · exact .inr ⟨fun ⟨_, _, h'⟩ => h h', by rw [if_pos (by simp; omega)]⟩
    · simp [spec_l2In.s4]
  · rw [if_pos (by simp; omega)]
    have : ¬ StP s.1 st := fun h => hl h.length
    simp [this]
open Classical in
theorem inRange_eq {k : Nat} (s : SY) (st : List Int) (hv : s.1.length ≤ 1048576) (hst : st.length ≤ 1048576) (hk : 1048576 < k) : impl_inRange.f k s st = some (decide (StP s.1 st), ()) := by
  rw [impl_inRange.s]
  by_cases hl : st.length = s.1.length
  · rw [if_neg (by simp [hl])]
    have := check_loop (l := fun n j => impl_inRange.l4 k s st n j) (m := s.1.length) (b0 := true) (r := ()) (InB s.1 st) (fun n j hj hI => ?_) (fun n hI => ?_) (k := k) (by omega)
    · obtain ⟨b, h1, h2⟩ := this
      refine h1.trans ?_
      have : b = decide (StP s.1 st) := by
        rw [Bool.eq_iff_iff, h2, decide_eq_true_iff, StP_InB hl]; simp
      rw [this]
    · have hj' : j < st.length := by omega
      simp (disch := omega) only [impl_inRange.s4, getD_get hj, getD_get hj', w64_id, toNat_nat, gd_t, impl_in_eq, Option.bind_some]
      rw [if_pos (by simpa using hj)]
      by_cases h : s.1[j].1 ≤ st[j] ∧ st[j] ≤ s.1[j].2.1
      · exact .inl ⟨⟨hj, hj', h⟩, by rw [if_neg (by simp; omega)]⟩
      · exact .inr ⟨fun ⟨_, _, h'⟩ => h h', by rw [if_pos (by simp; omega)]⟩
    · simp [impl_inRange.s4]
  · rw [if_pos (by simp; omega)]
    have : ¬ StP s.1 st := fun h => hl h.length
    simp [this]
def setsT (r : RU) (st : List Int) (n : Nat) : List Int := (List.range n).foldl (fun out i => out.set ((r.2.1.getD i 0).toNat) (evalT (r.2.2.getD i []) st)) st
theorem setsT_succ (r : RU) (st : List Int) (n : Nat) : setsT r st (n + 1) = (setsT r st n).set ((r.2.1.getD n 0).toNat) (evalT (r.2.2.getD n []) st) := by simp [setsT, List.range_succ, List.foldl_append]
theorem setsT_length (r : RU) (st : List Int) : ∀ n, (setsT r st n).length = st.length
  | 0 => by simp [setsT]
  | n + 1 => by rw [setsT_succ, List.length_set, setsT_length r st n]
open Classical in
noncomputable def useT (s : SY) (st : List Int) (r : RU) : Option (List Int) := if evalT r.1 st = 0 then none else if StP s.1 (setsT r st r.2.1.length) then some (setsT r st r.2.1.length) else none
theorem useT_StP {s : SY} {st x : List Int} {r : RU} (h : useT s st r = some x) : StP s.1 x := by
  unfold useT at h
  split at h
  · cases h
  · split at h
    · rename_i h1; injection h with h; rw [← h]; exact h1
    · cases h
theorem use_facts {s : SY} {st : List Int} (hS : SysP s) (hst : StP s.1 st) {r : RU} (hr : RuleP r s.1.length) : StR st s.1.length ∧ KindIs r.1 s.1.length 2 ∧ r.2.1.length = r.2.2.length ∧ r.2.1.length ≤ 5 ∧
    (∀ j (h : j < r.2.1.length) (h' : j < r.2.2.length), 0 ≤ r.2.1[j] ∧ r.2.1[j].toNat < st.length ∧ KindIs r.2.2[j] s.1.length 1) := by
  obtain ⟨h1, h2, h3⟩ := hr
  have hl := hst.length
  have hf := h3.few (by omega)
  have := hS.v5
  exact ⟨hst.range hS.vp, h1, h2, by omega, fun j h h' => by
    have := h3 j h (by omega)
    exact ⟨this.1.1, by omega, this.2.2 h'⟩⟩
open Classical in
theorem l2Use_eq {k : Nat} {s : SY} {st : List Int} (hS : SysP s) (hst : StP s.1 st) (hk : 1048576 < k) (j : Nat) (hj : j < s.2.length) : spec_l2Use.f k s st j = some ((useT s st s.2[j]).getD [], ()) := by
  have h8 := hS.r8
  have h5 := hS.v5
  have hl := hst.length
  obtain ⟨g1, g2, g3, g4, g5⟩ := use_facts hS hst (hS.rp _ (List.getElem_mem hj))
  rw [spec_l2Use.s]
  simp (disch := omega) only [gd_t, toNat_nat, getD_get hj, l2Last_eq g2 g1 (show 1000 < k by omega), Option.bind_some]
  unfold useT
  by_cases h0 : evalT s.2[j].1 st = 0
  · rw [if_pos (by simpa using h0), if_pos h0]; rfl
  · rw [if_neg (by simpa using h0), if_neg h0]
    refine push_loop (l := fun n v i => spec_l2Use.l6 k s st j n v i) (ys := st) (m := st.length) rfl (fun n i v hi hv => ?_) (fun n => ?_) (by omega)
    · simp (disch := omega) only [spec_l2Use.s6, getD_get, w64_id, toNat_nat, gd_t]
      rw [if_pos (by simpa using hi), gd_t (by simp; omega)]
    · simp only [spec_l2Use.s6]
      rw [if_neg (by simp)]
      refine for_post (m := s.2[j].2.1.length) (l := fun n v i => spec_l2Use.l10 k s st j n v i) (fun i v => v = setsT s.2[j] st i) (fun x => x = _) (fun n v hI => ?_) (fun n i v hi hI ih => ?_) (by omega) (by simp [setsT])
      · simp only [spec_l2Use.s10, toNat_nat, getD_get hj]
        have hvl : v.length = st.length := by rw [hI, setsT_length]
        rw [if_neg (by simp), l2In_eq s v (by omega) (by omega) hk, hI]
        simp only [Option.bind_some]
        by_cases hP : StP s.1 (setsT s.2[j] st s.2[j].2.1.length)
        · simp [hP]
        · simp [hP]
      · have hi' : i < s.2[j].2.2.length := by omega
        obtain ⟨q1, q2, q3⟩ := g5 i hi hi'
        have hvl : v.length = st.length := by rw [hI, setsT_length]
        simp only [spec_l2Use.s10, toNat_nat, getD_get hj]
        simp (disch := omega) only [gd_t, toNat_nat, getD_get hi, getD_get hi', l2Last_eq q3 g1 (show 1000 < k by omega), Option.bind_some, w64_id]
        rw [if_pos (by simpa using hi)]
        exact ih _ (by rw [setsT_succ, hI, getD_get hi, getD_get hi'])
open Classical in
theorem use_eq {k : Nat} {s : SY} {st : List Int} (hS : SysP s) (hst : StP s.1 st) (hk : 1048576 < k) (j : Nat) (hj : j < s.2.length) : impl_use.f k s st j = some (((useT s st s.2[j]).getD [], (useT s st s.2[j]).isSome), ()) := by
  have h8 := hS.r8
  have h5 := hS.v5
  have hl := hst.length
  obtain ⟨g1, g2, g3, g4, g5⟩ := use_facts hS hst (hS.rp _ (List.getElem_mem hj))
  rw [impl_use.s]
  simp (disch := omega) only [gd_t, toNat_nat, getD_get hj, eval_eq g2 g1 (show 1000 < k by omega), clone_int_eq (p := st) (by omega), Option.bind_some]
  unfold useT
  by_cases h0 : evalT s.2[j].1 st = 0
  · rw [if_pos (by simpa using h0), if_pos h0]; rfl
  · rw [if_neg (by simpa using h0), if_neg h0]
    refine for_post (m := s.2[j].2.1.length) (l := fun n v i => impl_use.l6 k s st j n v i) (fun i v => v = setsT s.2[j] st i) (fun x => x = _) (fun n v hI => ?_) (fun n i v hi hI ih => ?_) (by omega) (by simp [setsT])
    · simp only [impl_use.s6, toNat_nat, getD_get hj]
      have hvl : v.length = st.length := by rw [hI, setsT_length]
      rw [if_neg (by simp), inRange_eq s v (by omega) (by omega) hk, hI]
      simp only [Option.bind_some]
      by_cases hP : StP s.1 (setsT s.2[j] st s.2[j].2.1.length)
      · simp [hP]
      · simp [hP]
    · have hi' : i < s.2[j].2.2.length := by omega
      obtain ⟨q1, q2, q3⟩ := g5 i hi hi'
      have hvl : v.length = st.length := by rw [hI, setsT_length]
      simp only [impl_use.s6, toNat_nat, getD_get hj]
      simp (disch := omega) only [gd_t, toNat_nat, getD_get hi, getD_get hi', eval_eq q3 g1 (show 1000 < k by omega), Option.bind_some, w64_id]
      rw [if_pos (by simpa using hi)]
      exact ih _ (by rw [setsT_succ, hI, getD_get hi, getD_get hi'])
end Go.Ev

namespace Go.Ev
noncomputable def nextOf (s : SY) (st : List Int) (j : Nat) : List (List Int) := (s.2.take j).foldl (fun l r => match useT s st r with | some x => putL x l | none => l) []
noncomputable def nextT (s : SY) (st : List Int) : List (List Int) := nextOf s st s.2.length
theorem nextOf_succ (s : SY) (st : List Int) {j : Nat} (h : j < s.2.length) : nextOf s st (j + 1) = match useT s st s.2[j] with | some x => putL x (nextOf s st j) | none => nextOf s st j := by
  unfold nextOf
  rw [List.take_succ_eq_append_getElem h, List.foldl_append]
  rfl
theorem nextOf_facts (s : SY) (st : List Int) : ∀ j, j ≤ s.2.length → SortedL (nextOf s st j) ∧ (∀ x ∈ nextOf s st j, StP s.1 x) ∧ (nextOf s st j).length ≤ j
  | 0, _ => by simp [nextOf, SortedL]
  | j + 1, h => by
    obtain ⟨h1, h2, h3⟩ := nextOf_facts s st j (by omega)
    rw [nextOf_succ s st (by omega)]
    split
    · rename_i x hx
      refine ⟨h1.put, fun y hy => ?_, ?_⟩
      · rcases mem_putL.1 hy with rfl | hy
        · exact useT_StP hx
        · exact h2 y hy
      · have := putL_length (x := x) (nextOf s st j); omega
    · exact ⟨h1, h2, by omega⟩
theorem useT_ne {s : SY} {st x : List Int} {r : RU} (hS : SysP s) (h : useT s st r = some x) : 0 < x.length := by
  have := (useT_StP h).length
  have := hS.v1
  omega
theorem l2Next_eq {k : Nat} {s : SY} {st : List Int} (hS : SysP s) (hst : StP s.1 st) (hk : 1048577 < k) : spec_l2Next.f k s st = some (nextT s st, ()) := by
  have h8 := hS.r8
  have h5 := hS.v5
  rw [spec_l2Next.s]
  refine for_post (m := s.2.length) (l := fun n v j => spec_l2Next.l3 k s st n v j) (fun j v => v = nextOf s st j) (fun x => x = _) (fun n v hI => ?_) (fun n j v hj hI ih => ?_) (by omega) (by simp [nextOf])
  · rw [hI]
    simp [spec_l2Next.s3, nextT]
  · obtain ⟨g1, g2, g3⟩ := nextOf_facts s st j (by omega)
    simp (disch := omega) only [spec_l2Next.s3, l2Use_eq hS hst (show 1048576 < k by omega) j hj, Option.bind_some, w64_id]
    rw [if_pos (by simpa using hj)]
    have e := nextOf_succ s st hj
    cases hu : useT s st s.2[j] with
    | none =>
      rw [hu] at e
      simp only [Option.getD_none, List.length_nil]
      rw [if_neg (by simp)]
      exact ih _ (by rw [e, hI])
    | some x =>
      rw [hu] at e
      have hx := (useT_StP hu).length
      simp only [Option.getD_some]
      rw [if_pos (by simpa using useT_ne hS hu), l2Put_eq v x (by omega) (fun y hy => by rw [hI] at hy; have := (g2 y hy).length; omega) (by rw [hI]; omega) hk]
      exact ih _ (by rw [e, hI])
theorem cloneL_eq {k : Nat} (p : List (List Int)) (hp : p.length ≤ 1048576) : impl_clone_Lint.f k p = some (p, ()) := by
  rw [impl_clone_Lint.s]
  by_cases h : p.length = 0
  · rw [if_pos (by simpa using h)]
    have : p = [] := List.length_eq_zero_iff.1 h
    rw [this]
  · rw [if_neg (by simpa using h), gd_t (by omega), gd_t (by omega)]
    simp
theorem nextStates_eq {k : Nat} {s : SY} {st : List Int} (hS : SysP s) (hst : StP s.1 st) (hk : 1048577 < k) : impl_nextStates.f k s st = some (nextT s st, ()) := by
  have h8 := hS.r8
  have h5 := hS.v5
  rw [impl_nextStates.s]
  refine for_post (m := s.2.length) (l := fun n v j => impl_nextStates.l3 k s st n v j) (fun j v => v = nextOf s st j) (fun x => x = _) (fun n v hI => ?_) (fun n j v hj hI ih => ?_) (by omega) (by simp [nextOf])
  · obtain ⟨g1, g2, g3⟩ := nextOf_facts s st s.2.length (Nat.le_refl _)
    rw [hI]
    simp only [impl_nextStates.s3]
    rw [if_neg (by simp), cloneL_eq _ (by omega)]
    rfl
  · obtain ⟨g1, g2, g3⟩ := nextOf_facts s st j (by omega)
    rw [← hI] at g1 g2 g3
    simp (disch := omega) only [impl_nextStates.s3, use_eq hS hst (show 1048576 < k by omega) j hj, Option.bind_some, w64_id]
    rw [if_pos (by simpa using hj)]
    have e := nextOf_succ s st hj
    rw [← hI] at e
    cases hu : useT s st s.2[j] with
    | none =>
      rw [hu] at e
      simp only [Option.isSome_none, Bool.false_eq_true, if_false]
      exact ih _ e.symm
    | some x =>
      rw [hu] at e
      have hx := (useT_StP hu).length
      obtain ⟨i, i1, i2, i3, i4⟩ := BinarySearch_eq (k := k) v x (fun p => (slices_Compare_int_int.f k p.1 p.2.1).bind fun r => some r.1) (fun y hy => by
        dsimp only
        rw [Compare_eq y x (by have := (g2 y hy).length; omega) (by omega) (by omega)]; rfl) g1 (by omega) (by omega)
      simp only [Option.getD_some, Option.isSome_some, if_true, i2, Option.bind_some]
      by_cases hm : x ∈ v
      · rw [if_neg (by simp [hm])]
        exact ih _ (by rw [e]; exact (putL_mem g1 hm).symm)
      · rw [if_pos (by simp [hm]), slices_Insert_int_int.s, gd_t (by omega), gd_t (by omega), gd_t (by simp), gd_t (by unfold LIM; simp; omega)]
        simp only [Option.bind_some]
        exact ih _ (by rw [e]; exact insert_putL i3 i4 hm)
def preNo (vs : List VA) (st : List Int) : Nat → Nat
  | 0 => 0
  | j + 1 => preNo vs st j * wid (vs.getD j (0, 0, 0)) + (st.getD j 0 - (vs.getD j (0, 0, 0)).1).toNat
theorem preNo_spec {vs : List VA} {st : List Int} (hl : st.length = vs.length) : ∀ j, j ≤ vs.length → noOf vs st = preNo vs st j * prodW (vs.drop j) + noOf (vs.drop j) (st.drop j)
  | 0, _ => by simp [preNo]
  | j + 1, h => by
    have hj : j < vs.length := by omega
    have hj' : j < st.length := by omega
    rw [preNo_spec hl j (by omega), preNo, drop_cons_get hj, drop_cons_get hj', prodW, noOf, getD_get hj, getD_get hj', Nat.add_mul, Nat.mul_assoc, Nat.add_assoc]
theorem preNo_lt {vs : List VA} {st : List Int} (h : StP vs st) (hv : ∀ v ∈ vs, VarP v) {j : Nat} (hj : j ≤ vs.length) : preNo vs st j ≤ noOf vs st := by
  have e := preNo_spec h.length j hj
  have hp : 0 < prodW (vs.drop j) := prodW_pos fun v hm => hv v (List.mem_of_mem_drop hm)
  have := Nat.le_mul_of_pos_right (preNo vs st j) hp
  omega
theorem no_step {vs : List VA} {st : List Int} (h : StP vs st) (hv : ∀ v ∈ vs, VarP v) (hsz : prodW vs ≤ 400) {j : Nat} (hj : j < vs.length) (hj' : j < st.length) :
    w64 (w64 (w64 ((preNo vs st j : Int) * w64 (w64 (vs[j].2.1 - vs[j].1) + 1)) + st[j]) - vs[j].1) = ((preNo vs st (j + 1) : Nat) : Int) := by
  have hp := hv _ (List.getElem_mem hj)
  have hb := hp
  unfold VarP at hb
  have hst := (StP_iff.1 h).2 j hj hj'
  have h1 := preNo_lt h hv (j := j + 1) (by omega)
  have h2 := noOf_lt h hv
  have e : preNo vs st (j + 1) = preNo vs st j * wid vs[j] + (st[j] - vs[j].1).toNat := by rw [preNo, getD_get hj, getD_get hj']
  have e2 : (preNo vs st j : Int) * (wid vs[j] : Int) = ((preNo vs st j * wid vs[j] : Nat) : Int) := by simp
  rw [wid_w64 hp, e2, e]
  rw [e] at h1
  generalize preNo vs st j * wid vs[j] = m at h1 ⊢
  rw [w64_id (x := (m : Int)) (by omega) (by omega), w64_id (x := (m : Int) + st[j]) (by omega) (by omega), w64_id (by omega) (by omega)]
  omega
theorem number_eq {k : Nat} {s : SY} {st : List Int} (hS : SysP s) (hst : StP s.1 st) (hk : 1000 < k) : impl_number.f k s st = some (((noOf s.1 st : Nat) : Int), ()) := by
  have h5 := hS.v5
  have hl := hst.length
  rw [impl_number.s]
  refine for_post (m := s.1.length) (l := fun n (v : Int) j => impl_number.l3 k s st n v j) (fun j v => v = ((preNo s.1 st j : Nat) : Int)) (fun x => x = _) (fun n v hI => ?_) (fun n j v hj hI ih => ?_) (by omega) (by simp [preNo])
  · have := preNo_spec hl s.1.length (Nat.le_refl _)
    rw [List.drop_eq_nil_of_le (Nat.le_refl _), List.drop_eq_nil_of_le (by omega)] at this
    simp [prodW, noOf] at this
    simp [impl_number.s3, hI, this]
  · have hj' : j < st.length := by omega
    simp (disch := omega) only [impl_number.s3, gd_t, toNat_nat, getD_get hj, getD_get hj', hI, no_step hst hS.vp hS.sz hj hj']
    rw [if_pos (by simpa using hj), w64_id (x := (j : Int) + 1) (by omega) (by omega)]
    exact ih _ rfl
theorem l4Number_eq {k : Nat} {s : SY} {st : List Int} (hS : SysP s) (hst : StP s.1 st) (hk : 1000 < k) : spec_l4Number.f k s st = some (((noOf s.1 st : Nat) : Int), ()) := by
  have h5 := hS.v5
  have hl := hst.length
  rw [spec_l4Number.s]
  refine for_post (m := s.1.length) (l := fun n (v : Int) j => spec_l4Number.l3 k s st n v j) (fun j v => v = ((preNo s.1 st j : Nat) : Int)) (fun x => x = _) (fun n v hI => ?_) (fun n j v hj hI ih => ?_) (by omega) (by simp [preNo])
  · have := preNo_spec hl s.1.length (Nat.le_refl _)
    rw [List.drop_eq_nil_of_le (Nat.le_refl _), List.drop_eq_nil_of_le (by omega)] at this
    simp [prodW, noOf] at this
    simp [spec_l4Number.s3, hI, this, hl]
  · have hj' : j < st.length := by omega
    simp (disch := omega) only [spec_l4Number.s3, gd_t, toNat_nat, getD_get hj, getD_get hj', hI, no_step hst hS.vp hS.sz hj hj']
    rw [if_pos (by simpa using hj'), w64_id (x := (j : Int) + 1) (by omega) (by omega)]
    exact ih _ rfl
theorem set_getD_self {α : Type} (v : List α) (j : Nat) (d : α) : v.set j (v.getD j d) = v := by
  by_cases h : j < v.length
  · rw [getD_get h]; simp
  · rw [List.set_eq_of_length_le (by omega)]
noncomputable def rowT (s : SY) (n : Nat) : List Int := (nextT s (stOf s.1 n)).map fun x => ((noOf s.1 x : Nat) : Int)
noncomputable def stepsT (s : SY) : List (List Int) := (List.range (prodW s.1)).map (rowT s)
theorem stepsT_length (s : SY) : (stepsT s).length = prodW s.1 := by simp [stepsT]
theorem nextT_facts (s : SY) (st : List Int) : SortedL (nextT s st) ∧ (∀ x ∈ nextT s st, StP s.1 x) ∧ (nextT s st).length ≤ s.2.length := nextOf_facts s st _ (Nat.le_refl _)
theorem l4Steps_eq {k : Nat} {s : SY} (hS : SysP s) (hv : spec_SystemValid.f k s = some (true, ())) (hz : spec_SizeOf.f k s = some (((prodW s.1 : Nat) : Int), ())) (hk : 1048577 < k) : spec_l4Steps.f k s = some (stepsT s, ()) := by
  have hsz := hS.sz
  have h8 := hS.r8
  rw [spec_l4Steps.s]
  refine push_loop (l := fun n v j => spec_l4Steps.l3 k s n v j) (ys := stepsT s) (m := prodW s.1) (stepsT_length s) (fun n j v hj hv' => ?_) (fun n => ?_) (by omega)
  · have hst := stOf_StP j hS.vp
    obtain ⟨g1, g2, g3⟩ := nextT_facts s (stOf s.1 j)
    simp (disch := omega) only [spec_l4Steps.s3, hz, Option.bind_some, l4State_eq hS hv j (by omega) (show 1048576 < k by omega), l2Next_eq hS hst hk]
    rw [if_pos (by simpa using hj)]
    refine push_loop (l := fun q v i => spec_l4Steps.l8 k n s _ (j : Int) q (nextT s (stOf s.1 j)) v i) (ys := rowT s j) (m := (nextT s (stOf s.1 j)).length) (by simp [rowT]) (fun q i u hi hu => ?_) (fun q => ?_) (by omega)
    · simp (disch := omega) only [spec_l4Steps.s8, gd_t, toNat_nat, getD_get hi, l4Number_eq hS (g2 _ (List.getElem_mem hi)) (show 1000 < k by omega), Option.bind_some, w64_id]
      rw [if_pos (by simpa using hi), gd_t (by simp; omega)]
      simp [rowT]
    · simp (disch := omega) only [spec_l4Steps.s8, w64_id]
      rw [if_neg (by simp), gd_t (by simp; omega)]
      simp [stepsT]
  · simp only [spec_l4Steps.s3, hz, Option.bind_some]
    rw [if_neg (by simp)]
theorem nexts_eq {k : Nat} {s : SY} (hS : SysP s) (hz : impl_size.f k s.1 = some (((prodW s.1 : Nat) : Int), ())) (hk : 1048577 < k) : impl_nexts.f k s = some (stepsT s, ()) := by
  have hsz := hS.sz
  have h8 := hS.r8
  rw [impl_nexts.s, hz]
  simp only [Option.bind_some]
  rw [gd_t (by omega), gd_t (by omega)]
  simp only [List.length_replicate, toNat_nat]
  refine for_post (m := prodW s.1) (l := fun n v j => impl_nexts.l3 k s n v ((prodW s.1 : Nat) : Int) j) (fun j v => v = (stepsT s).take j ++ List.replicate (prodW s.1 - j) []) (fun x => x = _) (fun n v hI => ?_) (fun n j v hj hI ih => ?_) (by omega) (by simp)
  · rw [hI, List.take_of_length_le (by rw [stepsT_length]; omega)]
    simp [impl_nexts.s3]
  · have hst := stOf_StP j hS.vp
    obtain ⟨g1, g2, g3⟩ := nextT_facts s (stOf s.1 j)
    simp (disch := omega) only [impl_nexts.s3, stateAt_eq hS j (by omega) (show 1000 < k by omega), nextStates_eq hS hst hk, Option.bind_some]
    rw [if_pos (by simpa using hj)]
    have hvl : v.length = prodW s.1 := by rw [hI]; simp [stepsT_length]; omega
    have hvj : v.getD j [] = [] := by
      rw [hI, List.getD_eq_getElem?_getD, List.getElem?_append_right (by simp [stepsT_length]; omega)]
      simp [stepsT_length]
      cases h : (prodW s.1 - j) with
      | zero => rfl
      | succ q => simp [List.replicate_succ, show j - min j (prodW s.1) = 0 by omega]
    refine for_post (m := (nextT s (stOf s.1 j)).length) (l := fun q u i => impl_nexts.l6 k n s ((prodW s.1 : Nat) : Int) (j : Int) q u (nextT s (stOf s.1 j)) ((nextT s (stOf s.1 j)).length : Int) i) (fun i u => u = v.set j ((rowT s j).take i)) (fun x => x = _) (fun q u hu => ?_) (fun q i u hi hu ih2 => ?_) (by omega) (by
      simp only [List.take_zero]
      rw [← hvj]; exact (set_getD_self v j []).symm)
    · simp (disch := omega) only [impl_nexts.s6, w64_id]
      rw [if_neg (by simp)]
      refine ih _ ?_
      rw [hu, List.take_of_length_le (by simp [rowT]), hI, List.set_append_right _ _ (by simp [stepsT_length]; omega), List.take_succ_eq_append_getElem (by rw [stepsT_length]; exact hj)]
      have e : prodW s.1 - j = (prodW s.1 - (j + 1)) + 1 := by omega
      rw [e, List.replicate_succ]
      simp [stepsT_length, stepsT, show j - min j (prodW s.1) = 0 by omega]
    · have hul : u.length = prodW s.1 := by rw [hu]; simp [hvl]
      have hrl : (rowT s j).length = (nextT s (stOf s.1 j)).length := by simp [rowT]
      have huj : u.getD j [] = (rowT s j).take i := by rw [hu]; exact getD_set_self (by omega)
      simp (disch := omega) only [impl_nexts.s6, gd_t, toNat_nat, getD_get hi, number_eq hS (g2 _ (List.getElem_mem hi)) (show 1000 < k by omega), Option.bind_some, w64_id, huj]
      rw [if_pos (by simpa using hi), gd_t (by simp; omega)]
      simp only [gd_true]
      refine ih2 _ ?_
      rw [hu, List.set_set, List.take_succ_eq_append_getElem (by omega)]
      simp [rowT]
end Go.Ev

namespace Go.Ev
def Asc (l : List Int) : Prop := l.Pairwise (· < ·)
theorem asc_ext : ∀ {a b : List Int}, Asc a → Asc b → (∀ x, x ∈ a ↔ x ∈ b) → a = b
  | [], [], _, _, _ => rfl
  | [], y :: b, _, _, h => by have := (h y).2 (by simp); simp at this
  | x :: a, [], _, _, h => by have := (h x).1 (by simp); simp at this
  | x :: a, y :: b, ha, hb, h => by
    obtain ⟨a1, a2⟩ := List.pairwise_cons.1 ha
    obtain ⟨b1, b2⟩ := List.pairwise_cons.1 hb
    have hxy : x = y := by
      have h1 := (h x).1 (by simp)
      have h2 := (h y).2 (by simp)
      rcases List.mem_cons.1 h1 with e | h1
      · exact e
      · rcases List.mem_cons.1 h2 with e | h2
        · exact e.symm
        · have := a1 y h2
          have := b1 x h1
          omega
    subst hxy
    rw [asc_ext a2 b2 fun z => ?_]
    constructor
    · intro hz
      rcases List.mem_cons.1 ((h z).1 (by simp [hz])) with e | hz'
      · have := a1 z hz; omega
      · exact hz'
    · intro hz
      rcases List.mem_cons.1 ((h z).2 (by simp [hz])) with e | hz'
      · have := b1 z hz; omega
      · exact hz'
def listT (v : List Bool) : List Int := ((List.range v.length).filter fun i => v.getD i false).map fun (i : Nat) => (i : Int)
theorem listT_asc (v : List Bool) : Asc (listT v) := by
  unfold Asc listT
  rw [List.pairwise_map]
  exact (List.Pairwise.filter _ List.pairwise_lt_range).imp fun h => by omega
theorem mem_listT {v : List Bool} {x : Int} : x ∈ listT v ↔ ∃ i : Nat, i < v.length ∧ v.getD i false = true ∧ (i : Int) = x := by
  simp only [listT, List.mem_map, List.mem_filter, List.mem_range, and_assoc]
theorem l4List_eq {k : Nat} (v : List Bool) (hv : v.length ≤ 1048576) (hk : 1048576 < k) : spec_l4List.f k v = some (listT v, ()) := by
  rw [spec_l4List.s]
  refine for_post (m := v.length) (l := fun n l j => spec_l4List.l3 k v n l j) (fun j l => l = ((List.range j).filter fun i => v.getD i false).map (fun (i : Nat) => (i : Int)) ∧ l.length ≤ j) (fun x => x = some (listT v, ())) (fun n l hI => ?_) (fun n j l hj hI ih => ?_) (by omega) (by simp)
  · rw [hI.1]; simp [spec_l4List.s3, listT]
  · simp (disch := omega) only [spec_l4List.s3, gd_t, toNat_nat, w64_id]
    rw [if_pos (by simpa using hj)]
    by_cases hb : v.getD j false = true
    · rw [if_pos hb, gd_t (by have := hI.2; simp; omega)]
      exact ih _ ⟨by rw [hI.1, List.range_succ, List.filter_append]; simp [hb, -List.getD_eq_getElem?_getD], by have := hI.2; simp; omega⟩
    · rw [if_neg hb]
      exact ih _ ⟨by rw [hI.1, List.range_succ, List.filter_append]; simp [hb, -List.getD_eq_getElem?_getD], by omega⟩
theorem l17Ordered_eq {k : Nat} (p : List Int) (h : ∀ x ∈ p, 0 ≤ x ∧ x < 400) (hp : p.length ≤ 1048576) (hk : 1048576 < k) : ∃ q, spec_l17Ordered.f k p = some (q, ()) ∧ Asc q ∧ ∀ x, x ∈ q ↔ x ∈ p := by
  rw [spec_l17Ordered.s, gd_t (by omega), gd_t (by omega), gd_t (by omega)]
  obtain ⟨N, hN⟩ : ∃ N : Nat, N = Int.toNat 400 := ⟨_, rfl⟩
  have hN4 : N = 400 := hN
  rw [← hN]
  clear hN
  refine for_post (m := p.length) (l := fun n v j => spec_l17Ordered.l3 k p n v j) (fun j v => v.length = N ∧ ∀ i : Nat, i < N → (v.getD i false = true ↔ (i : Int) ∈ p.take j)) (fun x => ∃ q, x = some (q, ()) ∧ Asc q ∧ ∀ x, x ∈ q ↔ x ∈ p) (fun n v hI => ?_) (fun n j v hj hI ih => ?_) (by omega) (by
    refine ⟨by simp, fun i hi => ?_⟩
    simp [List.getD_eq_getElem?_getD, List.getElem?_replicate, hi])
  · obtain ⟨h1, h2⟩ := hI
    rw [List.take_of_length_le (by omega)] at h2
    simp only [spec_l17Ordered.s3, l4List_eq v (by omega) hk]
    rw [if_neg (by simp)]
    refine ⟨_, rfl, listT_asc v, fun x => ?_⟩
    rw [mem_listT]
    constructor
    · rintro ⟨i, hi, hb, rfl⟩
      exact (h2 i (by omega)).1 hb
    · intro hx
      have := h x hx
      refine ⟨x.toNat, by omega, (h2 x.toNat (by omega)).2 ?_, by omega⟩
      rw [show ((x.toNat : Nat) : Int) = x by omega]; exact hx
  · obtain ⟨h1, h2⟩ := hI
    have hx := h _ (List.getElem_mem hj)
    simp (disch := omega) only [spec_l17Ordered.s3, gd_t, toNat_nat, getD_get hj, w64_id]
    rw [if_pos (by simpa using hj)]
    refine ih _ ⟨by simp [h1], fun i hi => ?_⟩
    rw [mem_take1 hj]
    by_cases e : p[j].toNat = i
    · have : (i : Int) = p[j] := by omega
      rw [← e, getD_set_self (by omega)]
      simp [e, this]
    · have : (i : Int) ≠ p[j] := by omega
      rw [List.getD_eq_getElem?_getD, List.getElem?_set_ne e, ← List.getD_eq_getElem?_getD, h2 i hi]
      simp [this]
end Go.Ev

namespace Go.Ev
theorem rowT_mem {s : SY} {n : Nat} {x : Int} (h : x ∈ rowT s n) (hS : SysP s) : 0 ≤ x ∧ x < (prodW s.1 : Int) := by
  simp only [rowT, List.mem_map] at h
  obtain ⟨y, hy, rfl⟩ := h
  have := noOf_lt ((nextT_facts s _).2.1 y hy) hS.vp
  omega
theorem steps_get {s : SY} {n : Nat} (h : n < (stepsT s).length) : (stepsT s)[n] = rowT s n := by simp [stepsT]
end Go.Ev

namespace Go.Ev
theorem arr_get {p : List Int} {i : Nat} (h : i < p.length) : p.toArray[i]! = p[i] := by simp [h]
theorem le_get {p : List Int} (h : p.Pairwise (· ≤ ·)) {i j : Nat} (hij : i ≤ j) (hj : j < p.length) : p[i] ≤ p[j] := by
  rcases Nat.lt_or_ge i j with hlt | hge
  · exact List.pairwise_iff_getElem.1 h i j (by omega) hj hlt
  · have : i = j := by omega
    subst this; exact Int.le_refl _
theorem compact_lt {p : List Int} (h : p.Pairwise (· ≤ ·)) : (Lib.compact p).Pairwise (· < ·) := by
  unfold Lib.compact Lib.compactUpTo
  rw [List.pairwise_map]
  refine List.Pairwise.imp_of_mem ?_ (List.Pairwise.filter _ List.pairwise_lt_range)
  intro i j hi hj hij
  simp only [List.mem_filter, List.mem_range] at hi hj
  obtain ⟨hjl, hk⟩ := hj
  have hk : j = 0 ∨ p.toArray[j]! ≠ p.toArray[j - 1]! := by simpa [Lib.keeps] using hk
  rw [arr_get hjl, arr_get (show j - 1 < p.length by omega)] at hk
  rw [arr_get hi.1, arr_get hjl]
  have h1 := le_get h (show i ≤ j - 1 by omega) (by omega)
  have h2 := le_get h (show j - 1 ≤ j by omega) hjl
  rcases hk with hk | hk
  · omega
  · omega
theorem mem_compact {p : List Int} {x : Int} : x ∈ Lib.compact p ↔ x ∈ p := by
  unfold Lib.compact Lib.compactUpTo
  simp only [List.mem_map, List.mem_filter, List.mem_range]
  constructor
  · rintro ⟨i, ⟨hi, _⟩, rfl⟩
    rw [arr_get hi]; exact List.getElem_mem hi
  · intro hx
    have hi : p.idxOf x < p.length := List.idxOf_lt_length_iff.2 hx
    refine ⟨p.idxOf x, ⟨hi, ?_⟩, by rw [arr_get hi]; simp⟩
    simp only [Lib.keeps, decide_eq_true_eq]
    rcases Nat.eq_zero_or_pos (p.idxOf x) with h0 | h0
    · exact .inl h0
    · right
      rw [arr_get hi, arr_get (show p.idxOf x - 1 < p.length by omega)]
      have : p[p.idxOf x] = x := by simp
      rw [this]
      intro e
      have := List.not_of_lt_findIdx (p := (· == x)) (xs := p) (i := p.idxOf x - 1) (show p.idxOf x - 1 < p.idxOf x by omega)
      simp [← e] at this
theorem sort_le (p : List Int) : (p.mergeSort fun x y => decide (x ≤ y)).Pairwise (· ≤ ·) :=
  (List.pairwise_mergeSort (le := fun x y : Int => decide (x ≤ y)) (fun a b c h1 h2 => by simp at *; omega) (fun a b => by simp; omega) p).imp fun h => of_decide_eq_true h
theorem mem_sort {p : List Int} {x : Int} : x ∈ (p.mergeSort fun x y => decide (x ≤ y)) ↔ x ∈ p := List.mem_mergeSort
end Go.Ev
