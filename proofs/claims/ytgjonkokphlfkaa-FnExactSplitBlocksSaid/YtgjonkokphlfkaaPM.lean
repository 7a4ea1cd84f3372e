/- Plain mathematics on what the functions compute. -/
import Derived.Test.YtgjonkokphlfkaaPH
set_option linter.unusedVariables false
set_option linter.unusedSimpArgs false
namespace Go.Ev

/-! ### marks -/
/-- A list marked from m on, up to m'. -/
def Chain {α : Type} (H : α → Int → Int → Prop) : List α → Int → Int → Prop
  | [], m, m' => m = m'
  | y :: ys, m, m' => ∃ m1, m ≤ m1 ∧ H y m m1 ∧ Chain H ys m1 m'
theorem Chain.snoc {α : Type} {H : α → Int → Int → Prop} : ∀ {q : List α} {m m1 m2 : Int} {y : α}, Chain H q m m1 → m1 ≤ m2 → H y m1 m2 → Chain H (q ++ [y]) m m2
  | [], m, m1, m2, y, h, hl, hy => by cases h; exact ⟨m2, hl, hy, rfl⟩
  | x :: q, m, m1, m2, y, ⟨a, h1, h2, h3⟩, hl, hy => ⟨a, h1, h2, Chain.snoc h3 hl hy⟩
theorem Chain.le {α : Type} {H : α → Int → Int → Prop} : ∀ {q : List α} {m m1 : Int}, Chain H q m m1 → m ≤ m1
  | [], m, m1, h => by cases h; omega
  | x :: q, m, m1, ⟨a, h1, h2, h3⟩ => by have := Chain.le h3; omega
/-- What marking makes of a value: numbers from m on, up to m', and at most c of them. -/
def MkOk {α : Type} (f : Int → Option (Int × α)) (c : Int) (H : α → Int → Int → Prop) : Prop :=
  ∀ m : Int, 0 ≤ m → m + c ≤ 9223372036854775000 → ∃ m' q, f m = some (m', q) ∧ m ≤ m' ∧ m' ≤ m + c ∧ H q m m'
theorem mark_loop {α : Type} {l : Nat → List α → Int → Int → Option (Int × List α)} {p : List α} {c : Int} {H : α → Int → Int → Prop} {k : Nat} {m : Int}
    (h : ∀ n (v : List α) (m : Int) (j : Nat) (hj : j < p.length) (hv : v.length = p.length), v[j] = p[j] → 0 ≤ m → m + c ≤ 9223372036854775000 → ∃ m' y, m ≤ m' ∧ m' ≤ m + c ∧ H y m m' ∧ l (n + 1) v m (j : Int) = l n (v.set j y) m' ((j + 1 : Nat) : Int))
    (h0 : ∀ n (v : List α) (m : Int), v.length = p.length → l (n + 1) v m (p.length : Int) = some (m, v)) (hk : p.length < k) (hm : 0 ≤ m) (hc : 0 ≤ c) (hb : m + 1048576 * c ≤ 9223372036854775000) (hp : p.length ≤ 1048576) :
    ∃ m' q, l k p m 0 = some (m', q) ∧ m ≤ m' ∧ m' ≤ m + 1048576 * c ∧ (q.length = p.length ∧ Chain H q m m') := by
  have key : ∀ (d n j : Nat) (v : List α) (m1 : Int), j + d = p.length → d < n → v.length = p.length → v.drop j = p.drop j → Chain H (v.take j) m m1 → m1 ≤ m + j * c →
      ∃ m' q, l n v m1 (j : Int) = some (m', q) ∧ m ≤ m' ∧ m' ≤ m + p.length * c ∧ (q.length = p.length ∧ Chain H q m m') := by
    intro d
    induction d with
    | zero =>
      intro n j v m1 hd hn hv hvj hch hm1
      obtain ⟨n, rfl⟩ : ∃ i, n = i + 1 := ⟨n - 1, by omega⟩
      have : j = p.length := by omega
      subst this
      rw [List.take_of_length_le (by omega)] at hch
      exact ⟨m1, v, h0 n v m1 hv, hch.le, hm1, hv, hch⟩
    | succ d ih =>
      intro n j v m1 hd hn hv hvj hch hm1
      obtain ⟨n, rfl⟩ : ∃ i, n = i + 1 := ⟨n - 1, by omega⟩
      have hj : j < p.length := by omega
      have hvv : v[j] = p[j] := by
        have := congrArg (fun x => x[0]?) hvj
        simpa [List.getElem?_eq_getElem hj, List.getElem?_eq_getElem (l := v) (i := j) (by omega)] using this
      have hjc : (j : Int) * c ≤ 1048575 * c := Int.mul_le_mul_of_nonneg_right (by omega) hc
      have hle := hch.le
      obtain ⟨m', y, a1, a2, a3, a4⟩ := h n v m1 j hj hv hvv (by omega) (by omega)
      rw [a4]
      refine ih n (j + 1) _ m' (by omega) (by omega) (by simp [hv]) ?_ ?_ ?_
      · rw [List.drop_set_of_lt (by omega)]
        have := congrArg List.tail hvj
        simpa using this
      · rw [take_set (by omega)]
        exact hch.snoc a1 a3
      · have : ((j + 1 : Nat) : Int) * c = j * c + c := by rw [Int.natCast_add, Int.add_mul]; simp
        omega
  obtain ⟨m', q, a1, a2, a3, a4⟩ := key p.length k 0 p m (by omega) hk rfl rfl rfl (by omega)
  refine ⟨m', q, a1, a2, ?_, a4⟩
  have : (p.length : Int) * c ≤ 1048576 * c := Int.mul_le_mul_of_nonneg_right (by omega) hc
  omega
theorem held_loop {α : Type} {l : Nat → Int → Int → Option (Int × Unit)} {H : α → Int → Int → Prop} {q : List α} {k : Nat} {m m' : Int}
    (h : ∀ n (m m1 : Int) (j : Nat) (hj : j < q.length), 0 ≤ m → m ≤ m1 → m1 ≤ m' → H q[j] m m1 → l (n + 1) m (j : Int) = l n m1 ((j + 1 : Nat) : Int))
    (h0 : ∀ n (m : Int), l (n + 1) m (q.length : Int) = some (m, ())) (hc : Chain H q m m') (hk : q.length < k) (hm : 0 ≤ m) : l k m 0 = some (m', ()) := by
  have key : ∀ (d n j : Nat) (m1 : Int), j + d = q.length → d < n → 0 ≤ m1 → Chain H (q.drop j) m1 m' → l n m1 (j : Int) = some (m', ()) := by
    intro d
    induction d with
    | zero =>
      intro n j m1 hd hn h1 hch
      obtain ⟨n, rfl⟩ : ∃ i, n = i + 1 := ⟨n - 1, by omega⟩
      have : j = q.length := by omega
      subst this
      rw [List.drop_eq_nil_of_le (by omega)] at hch
      rw [show m1 = m' from hch]
      exact h0 n m'
    | succ d ih =>
      intro n j m1 hd hn h1 hch
      obtain ⟨n, rfl⟩ : ∃ i, n = i + 1 := ⟨n - 1, by omega⟩
      have hj : j < q.length := by omega
      rw [drop_get hj] at hch
      obtain ⟨m2, b1, b2, b3⟩ := hch
      rw [h n m1 m2 j hj h1 b1 b3.le b2]
      exact ih n (j + 1) m2 (by omega) (by omega) (by omega) b3
  exact key q.length k 0 m (by omega) hk hm (by simpa using hc)
theorem getD_set_self {α : Type} {v : List α} {j : Nat} {x d : α} (h : j < v.length) : (v.set j x).getD j d = x := by
  simp [List.getD, h]

theorem markIntS_ok {k : Nat} {p : List Int} (hk : 1048576 < k) (hp : p.length ≤ 1048576) : MkOk (laws_markIntS.f k p) 1048576 (fun q m m' => q.length = p.length ∧ Chain (fun y m m' => y = m ∧ m' = m + 1) q m m') := by
  intro m h0 h1
  rw [laws_markIntS.s]
  refine mark_loop (c := 1) (fun n v m j hj hv hvj h0 h1 => ⟨m + 1, m, by omega, by omega, ⟨rfl, rfl⟩, ?_⟩) (fun n v m hv => ?_) (by omega) h0 (by omega) (by omega) hp
  · simp (disch := omega) [laws_markIntS.s2, w64_id, hj, hv]
  · simp [laws_markIntS.s2, hv]
theorem heldIntS_ok {k : Nat} {q : List Int} {m m' : Int} (hk : q.length < k) (hl : q.length < 2 ^ 60) (h0 : 0 ≤ m) (h1 : m' ≤ 9223372036854775000) (h : Chain (fun y m m' => y = m ∧ m' = m + 1) q m m') : laws_heldIntS.f k q m = some (m', ()) := by
  rw [laws_heldIntS.s]
  refine held_loop (fun n m m1 j hj hm0 hm1 hm2 hH => ?_) (fun n m => ?_) h hk h0
  · obtain ⟨e1, e2⟩ := hH
    simp (disch := omega) [laws_heldIntS.s2, w64_id, hj, getD_get, e1, e2, -List.getD_eq_getElem?_getD]
  · simp [laws_heldIntS.s2]
theorem markVarS_ok {k : Nat} {p : List VA} (hk : 1048576 < k) (hp : p.length ≤ 1048576) : MkOk (laws_markVarS.f k p) (1048576 * 3) (fun q m m' => q.length = p.length ∧ Chain (fun y m m' => y = (m, m + 1, m + 2) ∧ m' = m + 3) q m m') := by
  intro m h0 h1
  rw [laws_markVarS.s]
  refine mark_loop (c := 3) (fun n v m j hj hv hvj h0 h1 => ⟨m + 3, (m, m + 1, m + 2), by omega, by omega, ⟨rfl, rfl⟩, ?_⟩) (fun n v m hv => ?_) (by omega) h0 (by omega) (by omega) hp
  · simp (disch := omega) [laws_markVarS.s2, w64_id, hj, hv, getD_set_self, List.set_set, -List.getD_eq_getElem?_getD, Int.add_assoc]
  · simp [laws_markVarS.s2, hv]
theorem markTermS_ok {k : Nat} {p : List TM} (hk : 1048576 < k) (hp : p.length ≤ 1048576) : MkOk (laws_markTermS.f k p) (1048576 * 4) (fun q m m' => q.length = p.length ∧ Chain (fun y m m' => y = (m, m + 1, m + 2, m + 3) ∧ m' = m + 4) q m m') := by
  intro m h0 h1
  rw [laws_markTermS.s]
  refine mark_loop (c := 4) (fun n v m j hj hv hvj h0 h1 => ⟨m + 4, (m, m + 1, m + 2, m + 3), by omega, by omega, ⟨rfl, rfl⟩, ?_⟩) (fun n v m hv => ?_) (by omega) h0 (by omega) (by omega) hp
  · simp (disch := omega) [laws_markTermS.s2, w64_id, hj, hv, getD_set_self, List.set_set, -List.getD_eq_getElem?_getD, Int.add_assoc]
  · simp [laws_markTermS.s2, hv]
theorem markTermSS_ok {k : Nat} {p : List (List TM)} (hk : 1048576 < k) (hp : SmTSS p) : MkOk (laws_markTermSS.f k p) (1048576 * (1048576 * 4)) (fun q m m' => q.length = p.length ∧ Chain (fun y m m' => True) q m m') := by
  intro m h0 h1
  rw [laws_markTermSS.s]
  refine mark_loop (c := 1048576 * 4) (fun n v m j hj hv hvj h0 h1 => ?_) (fun n v m hv => ?_) (by have := hp.1; omega) h0 (by omega) (by omega) hp.1
  · obtain ⟨m1, q1, a1, a2, a3, a4⟩ := markTermS_ok hk (hp.2 _ (List.getElem_mem hj)) m (by omega) (by omega)
    refine ⟨m1, q1, by omega, by omega, trivial, ?_⟩
    have := hp.1
    have a1' : laws_markTermS.f k v[j] m = some (m1, q1) := by rw [hvj]; exact a1
    simp (disch := omega) [laws_markTermSS.s2, w64_id, hj, hv, getD_get, a1', getD_set_self, List.set_set, -List.getD_eq_getElem?_getD]
  · simp [laws_markTermSS.s2, hv]
theorem markRuleS_ok {k : Nat} {p : List RU} (hk : 1048576 < k) (hp : SmRS p) : MkOk (laws_markRuleS.f k p) (1048576 * (1048576 * 4 + 1048576 + 1048576 * (1048576 * 4))) (fun q m m' => q.length = p.length ∧ Chain (fun y m m' => True) q m m') := by
  intro m h0 h1
  rw [laws_markRuleS.s]
  refine mark_loop (c := 1048576 * 4 + 1048576 + 1048576 * (1048576 * 4)) (fun n v m j hj hv hvj h0 h1 => ?_) (fun n v m hv => ?_) (by have := hp.1; omega) h0 (by omega) (by omega) hp.1
  · have hx := hp.2 _ (List.getElem_mem hj)
    have := hp.1
    rw [← hvj] at hx
    obtain ⟨m1, q1, a1, a2, a3, a4⟩ := markTermS_ok hk hx.1 m (by omega) (by omega)
    obtain ⟨m2, q2, b1, b2, b3, b4⟩ := markIntS_ok hk hx.2.1 m1 (by omega) (by omega)
    obtain ⟨m3, q3, c1, c2, c3, c4⟩ := markTermSS_ok hk hx.2.2 m2 (by omega) (by omega)
    refine ⟨m3, (q1, q2, q3), by omega, by omega, trivial, ?_⟩
    simp (disch := omega) [laws_markRuleS.s2, w64_id, hj, hv, getD_get, a1, b1, c1, getD_set_self, List.set_set, -List.getD_eq_getElem?_getD]
  · simp [laws_markRuleS.s2, hv]
theorem markSystem_ok {k : Nat} {p : SY} (hk : 1048576 < k) (hp : SmS p) : MkOk (laws_markSystem.f k p) (1048576 * 3 + 1048576 * (1048576 * 4 + 1048576 + 1048576 * (1048576 * 4))) (fun q m m' => True) := by
  intro m h0 h1
  rw [laws_markSystem.s]
  obtain ⟨m1, q1, a1, a2, a3, a4⟩ := markVarS_ok hk hp.1 m (by omega) (by omega)
  obtain ⟨m2, q2, b1, b2, b3, b4⟩ := markRuleS_ok hk hp.2 m1 (by omega) (by omega)
  refine ⟨m2, (q1, q2), ?_, by omega, by omega, trivial⟩
  simp [a1, b1]
theorem markBlocks_ok {k : Nat} {p : List Int} (hk : 1048576 < k) (hp : p.length ≤ 1048576) : MkOk (laws_markBlocks.f k p) 1048576 (fun q m m' => q.length = p.length ∧ Chain (fun y m m' => y = m ∧ m' = m + 1) q m m') := by
  intro m h0 h1
  rw [laws_markBlocks.s]
  obtain ⟨m1, q1, a1, a2, a3, a4⟩ := markIntS_ok hk hp m (by omega) (by omega)
  exact ⟨m1, q1, by simp [a1], by omega, by omega, a4⟩
theorem heldBlocks_ok {k : Nat} {q : List Int} {m m' : Int} (hk : q.length < k) (hl : q.length < 2 ^ 60) (h0 : 0 ≤ m) (h1 : m' ≤ 9223372036854775000) (h : Chain (fun y m m' => y = m ∧ m' = m + 1) q m m') : laws_heldBlocks.f k q m = some (m', ()) := by
  rw [laws_heldBlocks.s, heldIntS_ok hk hl h0 h1 h]
  have := h.le
  simp only [Option.bind_some]
  rw [if_neg (by simp; omega)]
end Go.Ev
