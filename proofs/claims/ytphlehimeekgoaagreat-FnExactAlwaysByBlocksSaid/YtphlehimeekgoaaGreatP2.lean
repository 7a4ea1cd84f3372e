/- Plain mathematics on what the functions compute. -/
import Derived.Test.YtphlehimeekgoaaGreatP1
import Derived.Test.YtphlehimeekgoaaGreatEv4
import Derived.IntWalk
import Derived.Lib.SlicesCompact
set_option linter.unusedVariables false
set_option linter.unusedSimpArgs false
namespace Go.Ev

/-! ### ascending lists of numbers -/
def Asc (l : List Int) : Prop := l.Pairwise (· < ·)
theorem asc_ext : ∀ {a b : List Int}, Asc a → Asc b → (∀ x, x ∈ a ↔ x ∈ b) → a = b
  | [], [], _, _, _ => rfl
  | [], y :: b, _, _, h => by have := (h y).2 (by simp); simp at this
  | x :: a, [], _, _, h => by have := (h x).1 (by simp); simp at this
  | x :: a, y :: b, ha, hb, h => by
    obtain ⟨a1, a2⟩ := List.pairwise_cons.1 ha
    obtain ⟨b1, b2⟩ := List.pairwise_cons.1 hb
    have hxy : x = y := by
      have h1 := (h x).1 (by simp)
      have h2 := (h y).2 (by simp)
      rcases List.mem_cons.1 h1 with e | h1
      · exact e
      · rcases List.mem_cons.1 h2 with e | h2
        · exact e.symm
        · have := a1 y h2
          have := b1 x h1
          omega
    subst hxy
    rw [asc_ext a2 b2 fun z => ?_]
    constructor
    · intro hz
      rcases List.mem_cons.1 ((h z).1 (by simp [hz])) with e | hz'
      · have := a1 z hz; omega
      · exact hz'
    · intro hz
      rcases List.mem_cons.1 ((h z).2 (by simp [hz])) with e | hz'
      · have := b1 z hz; omega
      · exact hz'
/-- The numbers marked. -/
def listT (v : List Bool) : List Int := ((List.range v.length).filter fun i => v.getD i false).map fun (i : Nat) => (i : Int)
theorem listT_asc (v : List Bool) : Asc (listT v) := by
  unfold Asc listT
  rw [List.pairwise_map]
  exact (List.Pairwise.filter _ List.pairwise_lt_range).imp fun h => by omega
theorem mem_listT {v : List Bool} {x : Int} : x ∈ listT v ↔ ∃ i : Nat, i < v.length ∧ v.getD i false = true ∧ (i : Int) = x := by
  simp only [listT, List.mem_map, List.mem_filter, List.mem_range, and_assoc]
theorem l4List_eq {k : Nat} (v : List Bool) (hv : v.length ≤ 1048576) (hk : 1048576 < k) : spec_l4List.f k v = some (listT v, ()) := by
  rw [spec_l4List.s]
  refine for_post (m := v.length) (l := fun n l j => spec_l4List.l3 k v n l j) (fun j l => l = ((List.range j).filter fun i => v.getD i false).map (fun (i : Nat) => (i : Int)) ∧ l.length ≤ j) (fun x => x = some (listT v, ())) (fun n l hI => ?_) (fun n j l hj hI ih => ?_) (by omega) (by simp)
  · rw [hI.1]; simp [spec_l4List.s3, listT]
  · simp (disch := omega) only [spec_l4List.s3, gd_t, toNat_nat, w64_id]
    rw [if_pos (by simpa using hj)]
    by_cases hb : v.getD j false = true
    · rw [if_pos hb, gd_t (by have := hI.2; simp; omega)]
      exact ih _ ⟨by rw [hI.1, List.range_succ, List.filter_append]; simp [hb, -List.getD_eq_getElem?_getD], by have := hI.2; simp; omega⟩
    · rw [if_neg hb]
      exact ih _ ⟨by rw [hI.1, List.range_succ, List.filter_append]; simp [hb, -List.getD_eq_getElem?_getD], by omega⟩
/-- A list of numbers below 400, put in order without repeats. -/
theorem l17Ordered_eq {k : Nat} (p : List Int) (h : ∀ x ∈ p, 0 ≤ x ∧ x < 400) (hp : p.length ≤ 1048576) (hk : 1048576 < k) : ∃ q, spec_l17Ordered.f k p = some (q, ()) ∧ Asc q ∧ ∀ x, x ∈ q ↔ x ∈ p := by
  rw [spec_l17Ordered.s, gd_t (by omega), gd_t (by omega), gd_t (by omega)]
  obtain ⟨N, hN⟩ : ∃ N : Nat, N = Int.toNat 400 := ⟨_, rfl⟩
  have hN4 : N = 400 := hN
  rw [← hN]
  clear hN
  refine for_post (m := p.length) (l := fun n v j => spec_l17Ordered.l3 k p n v j) (fun j v => v.length = N ∧ ∀ i : Nat, i < N → (v.getD i false = true ↔ (i : Int) ∈ p.take j)) (fun x => ∃ q, x = some (q, ()) ∧ Asc q ∧ ∀ x, x ∈ q ↔ x ∈ p) (fun n v hI => ?_) (fun n j v hj hI ih => ?_) (by omega) (by
    refine ⟨by simp, fun i hi => ?_⟩
    simp [List.getD_eq_getElem?_getD, List.getElem?_replicate, hi])
  · obtain ⟨h1, h2⟩ := hI
    rw [List.take_of_length_le (by omega)] at h2
    simp only [spec_l17Ordered.s3, l4List_eq v (by omega) hk]
    rw [if_neg (by simp)]
    refine ⟨_, rfl, listT_asc v, fun x => ?_⟩
    rw [mem_listT]
    constructor
    · rintro ⟨i, hi, hb, rfl⟩
      exact (h2 i (by omega)).1 hb
    · intro hx
      have := h x hx
      refine ⟨x.toNat, by omega, (h2 x.toNat (by omega)).2 ?_, by omega⟩
      rw [show ((x.toNat : Nat) : Int) = x by omega]; exact hx
  · obtain ⟨h1, h2⟩ := hI
    have hx := h _ (List.getElem_mem hj)
    simp (disch := omega) only [spec_l17Ordered.s3, gd_t, toNat_nat, getD_get hj, w64_id]
    rw [if_pos (by simpa using hj)]
    refine ih _ ⟨by simp [h1], fun i hi => ?_⟩
    rw [mem_take1 hj]
    by_cases e : p[j].toNat = i
    · have : (i : Int) = p[j] := by omega
      rw [← e, getD_set_self (by omega)]
      simp [e, this]
    · have : (i : Int) ≠ p[j] := by omega
      rw [List.getD_eq_getElem?_getD, List.getElem?_set_ne e, ← List.getD_eq_getElem?_getD, h2 i hi]
      simp [this]
end Go.Ev


set_option linter.unusedVariables false
set_option linter.unusedSimpArgs false
namespace Go.Ev

/-! ### a state with its variables exchanged -/
theorem rowT_mem {s : SY} {n : Nat} {x : Int} (h : x ∈ rowT s n) (hS : SysP s) : 0 ≤ x ∧ x < (prodW s.1 : Int) := by
  simp only [rowT, List.mem_map] at h
  obtain ⟨y, hy, rfl⟩ := h
  have := noOf_lt ((nextT_facts s _).2.1 y hy) hS.vp
  omega
theorem steps_get {s : SY} {n : Nat} (h : n < (stepsT s).length) : (stepsT s)[n] = rowT s n := by simp [stepsT]
end Go.Ev


set_option linter.unusedVariables false
set_option linter.unusedSimpArgs false
namespace Go.Ev
theorem arr_get {p : List Int} {i : Nat} (h : i < p.length) : p.toArray[i]! = p[i] := by simp [h]
theorem le_get {p : List Int} (h : p.Pairwise (· ≤ ·)) {i j : Nat} (hij : i ≤ j) (hj : j < p.length) : p[i] ≤ p[j] := by
  rcases Nat.lt_or_ge i j with hlt | hge
  · exact List.pairwise_iff_getElem.1 h i j (by omega) hj hlt
  · have : i = j := by omega
    subst this; exact Int.le_refl _
theorem compact_lt {p : List Int} (h : p.Pairwise (· ≤ ·)) : (Lib.compact p).Pairwise (· < ·) := by
  unfold Lib.compact Lib.compactUpTo
  rw [List.pairwise_map]
  refine List.Pairwise.imp_of_mem ?_ (List.Pairwise.filter _ List.pairwise_lt_range)
  intro i j hi hj hij
  simp only [List.mem_filter, List.mem_range] at hi hj
  obtain ⟨hjl, hk⟩ := hj
  have hk : j = 0 ∨ p.toArray[j]! ≠ p.toArray[j - 1]! := by simpa [Lib.keeps] using hk
  rw [arr_get hjl, arr_get (show j - 1 < p.length by omega)] at hk
  rw [arr_get hi.1, arr_get hjl]
  have h1 := le_get h (show i ≤ j - 1 by omega) (by omega)
  have h2 := le_get h (show j - 1 ≤ j by omega) hjl
  rcases hk with hk | hk
  · omega
  · omega
theorem mem_compact {p : List Int} {x : Int} : x ∈ Lib.compact p ↔ x ∈ p := by
  unfold Lib.compact Lib.compactUpTo
  simp only [List.mem_map, List.mem_filter, List.mem_range]
  constructor
  · rintro ⟨i, ⟨hi, _⟩, rfl⟩
    rw [arr_get hi]; exact List.getElem_mem hi
  · intro hx
    have hi : p.idxOf x < p.length := List.idxOf_lt_length_iff.2 hx
    refine ⟨p.idxOf x, ⟨hi, ?_⟩, by rw [arr_get hi]; simp⟩
    simp only [Lib.keeps, decide_eq_true_eq]
    rcases Nat.eq_zero_or_pos (p.idxOf x) with h0 | h0
    · exact .inl h0
    · right
      rw [arr_get hi, arr_get (show p.idxOf x - 1 < p.length by omega)]
      have : p[p.idxOf x] = x := by simp
      rw [this]
      intro e
      have := List.not_of_lt_findIdx (p := (· == x)) (xs := p) (i := p.idxOf x - 1) (show p.idxOf x - 1 < p.idxOf x by omega)
      simp [← e] at this
theorem sort_le (p : List Int) : (p.mergeSort fun x y => decide (x ≤ y)).Pairwise (· ≤ ·) :=
  (List.pairwise_mergeSort (le := fun x y : Int => decide (x ≤ y)) (fun a b c h1 h2 => by simp at *; omega) (fun a b => by simp; omega) p).imp fun h => of_decide_eq_true h
theorem mem_sort {p : List Int} {x : Int} : x ∈ (p.mergeSort fun x y => decide (x ≤ y)) ↔ x ∈ p := List.mem_mergeSort
end Go.Ev

set_option linter.unusedVariables false
set_option linter.unusedSimpArgs false
namespace Go.Ev
/-- A loop over the numbers from a on, below m. -/
theorem for_from {σ R : Type} {l : Nat → σ → Int → R} {a m : Nat} (ha : a ≤ m) (I : Nat → σ → Prop) (Q : R → Prop)
    (stop : ∀ n s, I m s → Q (l (n + 1) s (m : Int)))
    (step : ∀ n j s, a ≤ j → j < m → I j s → (∀ s', I (j + 1) s' → Q (l n s' ((j : Int) + 1))) → Q (l (n + 1) s (j : Int))) :
    ∀ {k s}, m < k → I a s → Q (l k s (a : Int)) := by
  have key : ∀ d n j s, a ≤ j → j + d = m → d < n → I j s → Q (l n s (j : Int)) := by
    intro d
    induction d with
    | zero =>
      intro n j s haj h hn hI
      obtain ⟨n, rfl⟩ : ∃ q, n = q + 1 := ⟨n - 1, by omega⟩
      have : j = m := by omega
      subst this
      exact stop n s hI
    | succ d ih =>
      intro n j s haj h hn hI
      obtain ⟨n, rfl⟩ : ∃ q, n = q + 1 := ⟨n - 1, by omega⟩
      refine step n j s haj (by omega) hI fun s' h' => ?_
      have := ih n (j + 1) s' (by omega) (by omega) (by omega) h'
      simpa using this
  intro k s hk hI
  exact key (m - a) k a s (Nat.le_refl _) (by omega) (by omega) hI
theorem filter_lt {α : Type} {p q : α → Bool} (h : ∀ x, p x = true → q x = true) : ∀ {l : List α}, (l.filter p).length ≤ (l.filter q).length ∧ ((∃ x ∈ l, q x = true ∧ p x = false) → (l.filter p).length < (l.filter q).length)
  | [] => ⟨Nat.le_refl _, fun ⟨x, hx, _⟩ => by simp at hx⟩
  | y :: l => by
    obtain ⟨h1, h2⟩ := filter_lt h (l := l)
    cases hp : p y with
    | true =>
      have hq := h y hp
      simp only [List.filter_cons, hp, hq, if_true, List.length_cons]
      refine ⟨by omega, fun ⟨x, hx, e1, e2⟩ => ?_⟩
      rcases List.mem_cons.1 hx with e | hx
      · rw [e, hp] at e2; cases e2
      · have := h2 ⟨x, hx, e1, e2⟩; omega
    | false =>
      cases hq : q y with
      | true =>
        simp only [List.filter_cons, hp, hq, if_true, List.length_cons]
        refine ⟨by simp; omega, fun _ => by simp; omega⟩
      | false =>
        simp only [List.filter_cons, hp, hq]
        refine ⟨by simpa using h1, fun ⟨x, hx, e1, e2⟩ => ?_⟩
        rcases List.mem_cons.1 hx with e | hx
        · rw [e, hq] at e1; cases e1
        · simpa using h2 ⟨x, hx, e1, e2⟩

/-! ### how far it is over a table -/
/-- A table whose numbers are below its length. -/
def TabP (T : List (List Int)) : Prop := ∀ r ∈ T, ∀ x ∈ r, 0 ≤ x ∧ x < (T.length : Int)
/-- How far it is to each number, as far as that is at most d. -/
noncomputable def lv (T : List (List Int)) (v : List Bool) : Nat → List Int
  | 0 => (List.range T.length).map fun x => if v.getD x false = true then 0 else -1
  | d + 1 => by
    classical
    exact (List.range T.length).map fun x => if 0 ≤ (lv T v d).getD x 0 then (lv T v d).getD x 0 else if ∃ m, m < T.length ∧ (lv T v d).getD m 0 = (d : Int) ∧ (x : Int) ∈ T.getD m [] then ((d + 1 : Nat) : Int) else -1
variable {T : List (List Int)} {v : List Bool}
theorem lv_length : ∀ d, (lv T v d).length = T.length
  | 0 => by simp [lv]
  | d + 1 => by simp [lv]
theorem lv_zero {x : Nat} (h : x < T.length) : (lv T v 0).getD x 0 = if v.getD x false = true then 0 else -1 := by
  rw [List.getD_eq_getElem?_getD]; simp [lv, h]
theorem lv_succ {d x : Nat} (h : x < T.length) : (0 ≤ (lv T v d).getD x 0 → (lv T v (d + 1)).getD x 0 = (lv T v d).getD x 0) ∧
    (¬ 0 ≤ (lv T v d).getD x 0 → (∃ m, m < T.length ∧ (lv T v d).getD m 0 = (d : Int) ∧ (x : Int) ∈ T.getD m []) → (lv T v (d + 1)).getD x 0 = ((d + 1 : Nat) : Int)) ∧
    (¬ 0 ≤ (lv T v d).getD x 0 → ¬ (∃ m, m < T.length ∧ (lv T v d).getD m 0 = (d : Int) ∧ (x : Int) ∈ T.getD m []) → (lv T v (d + 1)).getD x 0 = -1) := by
  have e : (lv T v (d + 1)).getD x 0 = @ite _ (0 ≤ (lv T v d).getD x 0) (Classical.propDecidable _) ((lv T v d).getD x 0) (@ite _ (∃ m, m < T.length ∧ (lv T v d).getD m 0 = (d : Int) ∧ (x : Int) ∈ T.getD m []) (Classical.propDecidable _) ((d + 1 : Nat) : Int) (-1)) := by
    rw [List.getD_eq_getElem?_getD]; simp [lv, h]
  refine ⟨fun h1 => ?_, fun h1 h2 => ?_, fun h1 h2 => ?_⟩
  · rw [e, if_pos h1]
  · rw [e, if_neg h1, if_pos h2]
  · rw [e, if_neg h1, if_neg h2]
theorem lv_range {x : Nat} (h : x < T.length) : ∀ d, (lv T v d).getD x 0 = -1 ∨ 0 ≤ (lv T v d).getD x 0 ∧ (lv T v d).getD x 0 ≤ (d : Int)
  | 0 => by rw [lv_zero h]; split <;> simp
  | d + 1 => by
    obtain ⟨h1, h2, h3⟩ := lv_succ (v := v) (d := d) h
    rcases lv_range h d with e | ⟨e1, e2⟩
    · by_cases hx : ∃ m, m < T.length ∧ (lv T v d).getD m 0 = (d : Int) ∧ (x : Int) ∈ T.getD m []
      · rw [h2 (by omega) hx]; right; omega
      · rw [h3 (by omega) hx]; left; rfl
    · rw [h1 e1]; right; omega
theorem lv_ext {a b : List Int} (ha : a.length = T.length) (hb : b.length = T.length) (h : ∀ x, x < T.length → a.getD x 0 = b.getD x 0) : a = b := by
  apply List.ext_getElem (by omega)
  intro i h1 h2
  have := h i (by omega)
  rwa [getD_get h1, getD_get h2] at this
theorem lv_mono {x d : Nat} (h : x < T.length) (h0 : 0 ≤ (lv T v d).getD x 0) : ∀ e, (lv T v (d + e)).getD x 0 = (lv T v d).getD x 0
  | 0 => rfl
  | e + 1 => by
    have ih := lv_mono h h0 e
    rw [← Nat.add_assoc, (lv_succ (v := v) (d := d + e) h).1 (by omega), ih]
theorem lv_same {d : Nat} (h : lv T v (d + 1) = lv T v d) : ∀ e, lv T v (d + e) = lv T v d
  | 0 => rfl
  | e + 1 => by
    have ih := lv_same h e
    rw [← Nat.add_assoc]
    rw [← ih]
    refine lv_ext (T := T) (lv_length _) (lv_length _) fun x hx => ?_
    obtain ⟨h1, h2, h3⟩ := lv_succ (v := v) (d := d + e) hx
    by_cases h0 : 0 ≤ (lv T v (d + e)).getD x 0
    · exact h1 h0
    · have hm : (lv T v (d + e)).getD x 0 = -1 := by
        rcases lv_range (v := v) hx (d + e) with q | q
        · exact q
        · omega
      rw [hm]
      by_cases hx2 : ∃ m, m < T.length ∧ (lv T v (d + e)).getD m 0 = ((d + e : Nat) : Int) ∧ (x : Int) ∈ T.getD m []
      · exfalso
        rcases Nat.eq_zero_or_pos e with he | he
        · subst he
          have q1 := (lv_succ (v := v) (d := d) hx).2.1 (by simpa using h0) hx2
          have q2 : (lv T v (d + 1)).getD x 0 = (lv T v d).getD x 0 := by rw [h]
          have : ¬ 0 ≤ (lv T v d).getD x 0 := h0
          omega
        · obtain ⟨m, hm1, hm2, _⟩ := hx2
          rw [ih] at hm2
          rcases lv_range (v := v) hm1 d with q | q <;> omega
      · exact h3 h0 hx2
/-- How many are told. -/
noncomputable def cnt (l : List Int) (n : Nat) : Nat := ((List.range n).filter fun x => decide (0 ≤ l.getD x 0)).length
theorem cnt_le (l : List Int) (n : Nat) : cnt l n ≤ n := by
  have := List.length_filter_le (fun x => decide (0 ≤ l.getD x 0)) (List.range n)
  simpa [cnt] using this
theorem cnt_lt {d : Nat} (h : lv T v (d + 1) ≠ lv T v d) : cnt (lv T v d) T.length < cnt (lv T v (d + 1)) T.length := by
  have hx : ∃ x, x < T.length ∧ (lv T v (d + 1)).getD x 0 ≠ (lv T v d).getD x 0 := by
    apply Classical.byContradiction
    intro hn
    exact h (lv_ext (T := T) (lv_length _) (lv_length _) fun x hx => Classical.byContradiction fun hne => hn ⟨x, hx, hne⟩)
  obtain ⟨x, hx, hne⟩ := hx
  have mono : ∀ y, y < T.length → 0 ≤ (lv T v d).getD y 0 → 0 ≤ (lv T v (d + 1)).getD y 0 := fun y hy h0 => by
    rw [(lv_succ (v := v) (d := d) hy).1 h0]; exact h0
  have e : ∀ l : List Int, cnt l T.length = ((List.range T.length).filter fun x => decide (x < T.length ∧ 0 ≤ l.getD x 0)).length := fun l => by
    unfold cnt
    congr 1
    apply List.filter_congr
    intro y hy
    have := List.mem_range.1 hy
    simp [this]
  rw [e, e]
  refine (filter_lt (fun y hy => ?_)).2 ⟨x, List.mem_range.2 hx, ?_, ?_⟩
  · simp only [decide_eq_true_eq] at hy ⊢
    exact ⟨hy.1, mono y hy.1 hy.2⟩
  · simp only [decide_eq_true_eq]
    refine ⟨hx, ?_⟩
    obtain ⟨h1, h2, h3⟩ := lv_succ (v := v) (d := d) hx
    by_cases h0 : 0 ≤ (lv T v d).getD x 0
    · exact absurd (h1 h0) hne
    · by_cases hx2 : ∃ m, m < T.length ∧ (lv T v d).getD m 0 = (d : Int) ∧ (x : Int) ∈ T.getD m []
      · rw [h2 h0 hx2]; omega
      · rcases lv_range (v := v) hx d with q | q
        · exact absurd ((h3 h0 hx2).trans q.symm) hne
        · omega
  · simp only [decide_eq_false_iff_not]
    rintro ⟨_, h0⟩
    exact hne ((lv_succ (v := v) (d := d) hx).1 h0)
theorem lv_stop : ∀ d, (∃ e, e < d ∧ lv T v (e + 1) = lv T v e) ∨ d ≤ cnt (lv T v d) T.length
  | 0 => .inr (Nat.zero_le _)
  | d + 1 => by
    rcases lv_stop d with ⟨e, h1, h2⟩ | h
    · exact .inl ⟨e, by omega, h2⟩
    · by_cases hs : lv T v (d + 1) = lv T v d
      · exact .inl ⟨d, by omega, hs⟩
      · have := cnt_lt hs
        exact .inr (by omega)
/-- How far it is to each number; -1 where one never comes. -/
noncomputable def farT (T : List (List Int)) (v : List Bool) : List Int := lv T v T.length
theorem farT_length : (farT T v).length = T.length := lv_length _
theorem lv_end : ∀ e, lv T v (T.length + e) = farT T v := by
  rcases lv_stop (T := T) (v := v) (T.length + 1) with ⟨d, h1, h2⟩ | h
  · intro e
    have q1 := lv_same h2 (T.length + e - d)
    have q2 := lv_same h2 (T.length - d)
    rw [show d + (T.length + e - d) = T.length + e by omega] at q1
    rw [show d + (T.length - d) = T.length by omega] at q2
    unfold farT
    rw [q1, q2]
  · have := cnt_le (lv T v (T.length + 1)) T.length
    omega
theorem lv_far {d : Nat} (h : lv T v (d + 1) = lv T v d) (hd : d ≤ T.length) : lv T v d = farT T v := by
  have := lv_same h (T.length - d)
  rw [show d + (T.length - d) = T.length by omega] at this
  exact this.symm
/-- One comes there. -/
def RchT (T : List (List Int)) (v : List Bool) (x : Nat) : Prop := 0 ≤ (farT T v).getD x 0
theorem RchT.start {x : Nat} (hx : x < T.length) (h : v.getD x false = true) : RchT T v x := by
  have h0 : (lv T v 0).getD x 0 = 0 := by rw [lv_zero hx, if_pos h]
  have := lv_mono hx (v := v) (d := 0) (by omega) T.length
  unfold RchT farT
  rw [Nat.zero_add] at this
  rw [this, h0]; omega
theorem lv_first {x : Nat} (hx : x < T.length) : ∀ d e : Nat, (lv T v d).getD x 0 = (e : Int) → (lv T v e).getD x 0 = (e : Int)
  | 0, e, h => by
    rcases lv_range (v := v) hx 0 with q | q
    · omega
    · have : e = 0 := by omega
      subst this; exact h
  | d + 1, e, h => by
    by_cases h0 : 0 ≤ (lv T v d).getD x 0
    · rw [(lv_succ (v := v) (d := d) hx).1 h0] at h
      exact lv_first hx d e h
    · by_cases hx2 : ∃ m, m < T.length ∧ (lv T v d).getD m 0 = (d : Int) ∧ (x : Int) ∈ T.getD m []
      · have := (lv_succ (v := v) (d := d) hx).2.1 h0 hx2
        have : e = d + 1 := by omega
        subst this; exact h
      · have := (lv_succ (v := v) (d := d) hx).2.2 h0 hx2
        omega
theorem RchT.step {m x : Nat} (hm : m < T.length) (hx : x < T.length) (h : RchT T v m) (hmem : (x : Int) ∈ T.getD m []) : RchT T v x := by
  obtain ⟨e, he⟩ : ∃ e : Nat, (farT T v).getD m 0 = (e : Int) := ⟨((farT T v).getD m 0).toNat, by unfold RchT at h; omega⟩
  have h1 := lv_first (v := v) hm T.length e he
  have h2 : 0 ≤ (lv T v (e + 1)).getD x 0 := by
    obtain ⟨g1, g2, g3⟩ := lv_succ (v := v) (d := e) hx
    by_cases h0 : 0 ≤ (lv T v e).getD x 0
    · rw [g1 h0]; exact h0
    · rw [g2 h0 ⟨m, hm, h1, hmem⟩]; omega
  have h3 := lv_mono hx (v := v) h2 T.length
  unfold RchT
  rw [← lv_end (T := T) (v := v) (e + 1), Nat.add_comm, h3]
  exact h2
theorem RchT.least {C : Nat → Prop} (h0 : ∀ x, x < T.length → v.getD x false = true → C x) (h1 : ∀ m x, m < T.length → x < T.length → C m → (x : Int) ∈ T.getD m [] → C x) : ∀ x, x < T.length → RchT T v x → C x := by
  have key : ∀ d x, x < T.length → 0 ≤ (lv T v d).getD x 0 → C x := by
    intro d
    induction d with
    | zero =>
      intro x hx h
      rw [lv_zero hx] at h
      by_cases hv : v.getD x false = true
      · exact h0 x hx hv
      · rw [if_neg hv] at h; omega
    | succ d ih =>
      intro x hx h
      by_cases h2 : 0 ≤ (lv T v d).getD x 0
      · exact ih x hx h2
      · by_cases hx2 : ∃ m, m < T.length ∧ (lv T v d).getD m 0 = (d : Int) ∧ (x : Int) ∈ T.getD m []
        · obtain ⟨m, hm, e, hmem⟩ := hx2
          exact h1 m x hm hx (ih m hm (by omega)) hmem
        · have := (lv_succ (v := v) (d := d) hx).2.2 h2 hx2
          omega
  exact fun x hx h => key T.length x hx h
end Go.Ev

set_option linter.unusedVariables false
set_option linter.unusedSimpArgs false
namespace Go.Ev

/-! ### what a valid system gives, and valid blocks -/
structure Env (k : Nat) (s : SY) : Prop where
  S : SysP s
  hv : spec_SystemValid.f k s = some (true, ())
  iv : impl_SystemValid.f k s = some (true, ())
  hz : spec_SizeOf.f k s = some (((prodW s.1 : Nat) : Int), ())
  iz : impl_size.f k s.1 = some (((prodW s.1 : Nat) : Int), ())
theorem sys_env {k : Nat} (hk : 1048576 < k) (s : SY) (hb : BigS s) (hs : SmS s) : Env k s ∨ (spec_SystemValid.f k s = some (false, ()) ∧ impl_SystemValid.f k s = some (false, ()) ∧ spec_SizeOf.f k s = some (0, ())) := by
  obtain ⟨V, z, m1, m2, m3, m4, m5⟩ := sys_eq (k := k) (by omega) s hb hs
  cases V with
  | false => exact .inr ⟨m1, m2, by rw [m5]; rfl⟩
  | true =>
    obtain ⟨_, hz, hS⟩ := m4 rfl
    rw [if_pos rfl] at m5
    rw [hz] at m3 m5
    exact .inl ⟨hS, m1, m2, m5, m3⟩
structure BlkP (n : Nat) (b : List Int) : Prop where
  len : b.length = n
  low : ∀ j (h : j < b.length), 0 ≤ b[j] ∧ b[j] ≤ (j : Int)
  fix : ∀ j (h : j < b.length), b.getD b[j].toNat 0 = b[j]
theorem blocks_v (k : Nat) (p : List Int) (hp : p.length < 4611686018427387904) : ∀ (d n j : Nat), j + d = p.length → d < n → impl_blocksOk.l4 k p n (j : Int) = some (true, ()) →
    ∀ i (h : i < p.length), j ≤ i → 0 ≤ p[i] ∧ p[i] ≤ (i : Int) ∧ p.getD p[i].toNat 0 = p[i]
  | 0, n + 1, j, hd, hn, h, i, hi, hji => by omega
  | d + 1, n + 1, j, hd, hn, h, i, hi, hji => by
    have hj : j < p.length := by omega
    simp (disch := omega) only [impl_blocksOk.s4, gd_t, toNat_nat, getD_get hj, impl_in_eq, Option.bind_some, w64_id] at h
    rw [if_pos (by simpa using hj)] at h
    by_cases hin : 0 ≤ p[j] ∧ p[j] ≤ (j : Int)
    · simp (disch := omega) only [decide_eq_true hin, gd_t] at h
      by_cases he : p.getD p[j].toNat 0 = p[j]
      · rw [if_neg (by simp), if_neg (by simp [he, -List.getD_eq_getElem?_getD])] at h
        rcases Nat.lt_or_ge j i with hlt | hge
        · exact blocks_v k p hp d n (j + 1) (by omega) (by omega) (by simpa using h) i hi (by omega)
        · have : i = j := by omega
          subst this
          exact ⟨hin.1, hin.2, he⟩
      · rw [if_neg (by simp), if_pos (by simpa [-List.getD_eq_getElem?_getD] using he)] at h
        cases h
    · simp only [decide_eq_false hin] at h
      cases h
theorem blocks_ok {k : Nat} (hk : 1048576 < k) {s : SY} (E : Env k s) (p : List Int) (hp : p.length ≤ 1048576) : ∃ c, spec_BlocksValid.f k s p = some (c, ()) ∧ impl_blocksOk.f k s p = some (c, ()) ∧ (c = true → BlkP (prodW s.1) p) := by
  have hpos := prodW_pos E.S.vp
  rw [spec_BlocksValid.s, impl_blocksOk.s, E.hz, E.iz]
  simp only [Option.bind_some]
  obtain ⟨b, h1, h2⟩ := blocks_l k p (by omega) p.length k k 0 (by omega) (by omega) (by omega)
  have h1 : spec_BlocksValid.l4 k p k 0 = some (b, ()) := h1
  have h2 : impl_blocksOk.l4 k p k 0 = some (b, ()) := h2
  rw [h1, h2]
  by_cases hl : p.length = prodW s.1
  · rw [if_neg (c := ((p.length : Int) != ((prodW s.1 : Nat) : Int)) = true) (by simp [hl]), if_neg (c := ((p.length : Int) == 0) = true) (by simp only [beq_iff_eq]; omega), if_neg (c := ((p.length : Int) != ((prodW s.1 : Nat) : Int)) = true) (by simp [hl])]
    refine ⟨b, rfl, rfl, fun hb => ?_⟩
    subst hb
    have := blocks_v k p (by omega) p.length k 0 (by omega) (by omega) h2
    exact ⟨hl, fun j hj => ⟨(this j hj (by omega)).1, (this j hj (by omega)).2.1⟩, fun j hj => (this j hj (by omega)).2.2⟩
  · rw [if_pos (c := ((p.length : Int) != ((prodW s.1 : Nat) : Int)) = true) (by simp; omega), if_pos (c := ((p.length : Int) != ((prodW s.1 : Nat) : Int)) = true) (by simp; omega)]
    exact ⟨false, rfl, rfl, fun h => by cases h⟩
theorem blocks_no {k : Nat} {s : SY} (h : spec_SizeOf.f k s = some (0, ())) (p : List Int) : spec_BlocksValid.f k s p = some (false, ()) := by
  rw [spec_BlocksValid.s, h]
  simp only [Option.bind_some]
  by_cases h0 : p.length = 0
  · simp [h0]
  · rw [if_pos (by simp only [bne_iff_ne, ne_eq]; omega)]
theorem blocks_cases0 {k : Nat} (hk : 1048576 < k) (s : SY) (p : List Int) (hb : BigS s) (hs : SmS s) (hp : p.length ≤ 1048576) :
    (spec_BlocksValid.f k s p = some (false, ()) ∧ (impl_SystemValid.f k s = some (false, ()) ∨ (Env k s ∧ impl_blocksOk.f k s p = some (false, ())))) ∨ (spec_BlocksValid.f k s p = some (true, ()) ∧ impl_blocksOk.f k s p = some (true, ()) ∧ Env k s ∧ BlkP (prodW s.1) p) := by
  rcases sys_env hk s hb hs with E | ⟨e1, e2, e3⟩
  · obtain ⟨c, c1, c2, c3⟩ := blocks_ok hk E p hp
    cases c with
    | false => exact .inl ⟨c1, .inr ⟨E, c2⟩⟩
    | true => exact .inr ⟨c1, c2, E, c3 rfl⟩
  · exact .inl ⟨blocks_no e3 p, .inl e2⟩
/-! ### steps between blocks -/
theorem steps_getD {s : SY} {j : Nat} (h : j < prodW s.1) : (stepsT s).getD j [] = rowT s j := by rw [getD_get (by rw [stepsT_length]; exact h), steps_get]
theorem rowT_len (s : SY) (n : Nat) : (rowT s n).length ≤ s.2.length := by
  have := (nextT_facts s (stOf s.1 n)).2.2
  simpa [rowT] using this
theorem rowT_get {s : SY} (hS : SysP s) {n i : Nat} (h : i < (rowT s n).length) : 0 ≤ (rowT s n)[i] ∧ (rowT s n)[i] < (prodW s.1 : Int) := rowT_mem (List.getElem_mem h) hS
/-- The blocks behind the numbers below n that are of block x. -/
noncomputable def accB (s : SY) (b : List Int) (x : Int) (n : Nat) : List Int := (List.range n).flatMap fun m => if b.getD m 0 = x then (rowT s m).map fun y => b.getD y.toNat 0 else []
theorem accB_succ (s : SY) (b : List Int) (x : Int) (n : Nat) : accB s b x (n + 1) = accB s b x n ++ (if b.getD n 0 = x then (rowT s n).map fun y => b.getD y.toNat 0 else []) := by
  simp [accB, List.range_succ, List.flatMap_append]
theorem accB_len {s : SY} (hS : SysP s) (b : List Int) (x : Int) : ∀ n, (accB s b x n).length ≤ n * 8
  | 0 => by simp [accB]
  | n + 1 => by
    have ih := accB_len hS b x n
    have h8 := hS.r8
    have hl := rowT_len s n
    rw [accB_succ, List.length_append]
    split
    · rw [List.length_map]; omega
    · simp; omega
theorem accB_mem {s : SY} (hS : SysP s) {b : List Int} {N : Nat} (hb : BlkP N b) (hN : N = prodW s.1) {x y : Int} {n : Nat} (h : y ∈ accB s b x n) : 0 ≤ y ∧ y < (N : Int) := by
  simp only [accB, List.mem_flatMap, List.mem_range] at h
  obtain ⟨m, hm, h⟩ := h
  split at h
  · obtain ⟨z, hz, rfl⟩ := List.mem_map.1 h
    have hz := rowT_mem hz hS
    have hzl : z.toNat < b.length := by rw [hb.len]; omega
    rw [getD_get hzl]
    have := hb.low _ hzl
    have := hb.len
    omega
  · simp at h
noncomputable def blkRow (s : SY) (b : List Int) (x : Nat) : List Int := Lib.compact ((accB s b (x : Int) (prodW s.1)).mergeSort fun x y => decide (x ≤ y))
noncomputable def blkT (s : SY) (b : List Int) : List (List Int) := (List.range (prodW s.1)).map (blkRow s b)
theorem blkT_length (s : SY) (b : List Int) : (blkT s b).length = prodW s.1 := by simp [blkT]
theorem blkRow_asc (s : SY) (b : List Int) (x : Nat) : Asc (blkRow s b x) := compact_lt (sort_le _)
theorem mem_blkRow {s : SY} {b : List Int} {x : Nat} {y : Int} : y ∈ blkRow s b x ↔ y ∈ accB s b (x : Int) (prodW s.1) := by
  unfold blkRow
  rw [mem_compact, mem_sort]
theorem blkRow_len {s : SY} (hS : SysP s) (b : List Int) (x : Nat) : (blkRow s b x).length ≤ 3200 := by
  have h1 := compact_len ((accB s b (x : Int) (prodW s.1)).mergeSort fun x y => decide (x ≤ y))
  have h2 := accB_len hS b (x : Int) (prodW s.1)
  have h3 := hS.sz
  rw [List.length_mergeSort] at h1
  unfold blkRow
  omega
theorem blkT_tab {s : SY} (hS : SysP s) {b : List Int} (hb : BlkP (prodW s.1) b) : TabP (blkT s b) := by
  intro r hr x hx
  obtain ⟨n, _, rfl⟩ := List.mem_map.1 hr
  rw [blkT_length]
  exact accB_mem hS hb rfl (mem_blkRow.1 hx)
theorem blkT_rows {s : SY} (hS : SysP s) {b : List Int} : ∀ r ∈ blkT s b, r.length ≤ 3200 := by
  intro r hr
  obtain ⟨n, _, rfl⟩ := List.mem_map.1 hr
  exact blkRow_len hS b n
theorem blkT_getD {s : SY} {b : List Int} {x : Nat} (h : x < prodW s.1) : (blkT s b).getD x [] = blkRow s b x := by rw [getD_get (by rw [blkT_length]; exact h)]; simp [blkT]
theorem getD_set' {α : Type} (v : List α) (y x : Nat) (a e : α) (hy : y < v.length) : (v.set y a).getD x e = if x = y then a else v.getD x e := by
  rw [List.getD_eq_getElem?_getD, List.getD_eq_getElem?_getD, List.getElem?_set]
  by_cases h : y = x
  · subst h; simp [hy]
  · rw [if_neg h, if_neg (fun h' => h h'.symm)]
theorem list_ext_getD {α : Type} {a b : List α} {n : Nat} {d : α} (ha : a.length = n) (hb : b.length = n) (h : ∀ x, x < n → a.getD x d = b.getD x d) : a = b := by
  apply List.ext_getElem (by omega)
  intro i h1 h2
  have := h i (by omega)
  rwa [getD_get h1, getD_get h2] at this
theorem blockSteps_eq {k : Nat} {s : SY} {b : List Int} (E : Env k s) (hb : BlkP (prodW s.1) b) (hk : 1048577 < k) : impl_blockSteps.f k s b = some (blkT s b, ()) := by
  have hS := E.S
  have hsz := hS.sz
  have h8 := hS.r8
  have hbl := hb.len
  obtain ⟨N, hN⟩ : ∃ N, N = prodW s.1 := ⟨_, rfl⟩
  rw [← hN] at hbl hsz
  rw [impl_blockSteps.s, gd_t (by omega), gd_t (by omega), nexts_eq hS E.iz hk]
  simp only [Option.bind_some, toNat_nat, stepsT_length, ← hN, hbl]
  refine for_post (m := N) (l := fun n u j => impl_blockSteps.l3 k b n u (stepsT s) (N : Int) j) (fun j u => u.length = N ∧ ∀ x, x < N → u.getD x [] = accB s b (x : Int) j) (fun x => x = some (blkT s b, ())) (fun n u hI => ?_) (fun n j u hj hI ih => ?_) (by omega) ⟨by simp, fun x hx => by simp [accB, List.getD_eq_getElem?_getD, List.getElem?_replicate, hx]⟩
  · -- each row in order
    simp only [impl_blockSteps.s3]
    rw [if_neg (by simp)]
    obtain ⟨hul, hu⟩ := hI
    refine for_post (m := N) (l := fun n w j => impl_blockSteps.l12 k u n w j) (fun j w => w.length = N ∧ ∀ x, x < N → w.getD x [] = if x < j then blkRow s b x else accB s b (x : Int) N) (fun x => x = some (blkT s b, ())) (fun n w hW => ?_) (fun n j w hj hW ih => ?_) (by omega) ⟨hul, fun x hx => by rw [if_neg (by omega)]; exact hu x hx⟩
    · simp only [impl_blockSteps.s12]
      rw [if_neg (by simp [hul])]
      have : w = blkT s b := list_ext_getD (d := []) hW.1 (by rw [blkT_length, hN]) fun x hx => by rw [hW.2 x hx, if_pos hx, blkT_getD (by omega)]
      rw [this]
    · obtain ⟨hwl, hw⟩ := hW
      have hwj := hw j hj
      rw [if_neg (by omega)] at hwj
      have hal := accB_len hS b (j : Int) N
      have hcl := blkRow_len hS b j
      simp (disch := omega) only [impl_blockSteps.s12, gd_t, toNat_nat, w64_id, List.length_set, hwj, slices_Sort_int_int.s, slices_Compact_int_int.s, Option.bind_some]
      rw [if_pos (by rw [hul]; simpa using hj), gd_t (by unfold LIM; omega)]
      simp (disch := omega) only [Option.bind_some, gd_t, List.length_set, getD_set', if_true]
      rw [gd_t (by rw [List.length_mergeSort]; unfold LIM; omega)]
      simp only [Option.bind_some]
      have e : Lib.compact ((accB s b (j : Int) N).mergeSort fun x y => decide (x ≤ y)) = blkRow s b j := by unfold blkRow; rw [hN]
      rw [e, clone_int_eq (k := k) (p := blkRow s b j) (by omega)]
      simp only [Option.bind_some, List.set_set, gd_true]
      refine ih _ (And.intro ?_ ?_)
      · rw [List.length_set]; exact hwl
      intro x hx
      rw [getD_set' w j x _ [] (by omega)]
      by_cases hxj : x = j
      · rw [if_pos hxj, if_pos (by omega), hxj]
      · rw [if_neg hxj, hw x hx]
        by_cases h : x < j
        · rw [if_pos h, if_pos (by omega)]
        · rw [if_neg h, if_neg (by omega)]
  · obtain ⟨hul, hu⟩ := hI
    have hjb : j < b.length := by omega
    have hbj := hb.low j hjb
    have hrj := steps_getD (s := s) (j := j) (by omega)
    have hrl := rowT_len s j
    simp (disch := omega) only [impl_blockSteps.s3, gd_t, stepsT_length]
    rw [if_pos (by simpa using hj)]
    refine for_post (m := (rowT s j).length) (l := fun q w i => impl_blockSteps.l6 k n b (stepsT s) (N : Int) (j : Int) q w i) (fun i w => w.length = N ∧ ∀ x, x < N → w.getD x [] = accB s b (x : Int) j ++ (if b.getD j 0 = (x : Int) then ((rowT s j).take i).map (fun y => b.getD y.toNat 0) else [])) (fun x => x = some (blkT s b, ())) (fun q w hW => ?_) (fun q i w hi hW ih2 => ?_) (by omega) ⟨hul, fun x hx => by rw [hu x hx]; simp⟩
    · simp (disch := omega) only [impl_blockSteps.s6, toNat_nat, hrj, w64_id]
      rw [if_neg (by simp)]
      refine ih _ ⟨hW.1, fun x hx => ?_⟩
      rw [hW.2 x hx, accB_succ, List.take_length]
    · obtain ⟨hwl, hw⟩ := hW
      have hri := rowT_get hS hi
      have hbr : (rowT s j)[i].toNat < b.length := by omega
      have hwb := hw b[j].toNat (by omega)
      have hal := accB_len hS b (b[j] : Int) j
      have hzb : ((b[j].toNat : Nat) : Int) = b[j] := by omega
      simp (disch := omega) only [impl_blockSteps.s6, gd_t, toNat_nat, hrj, getD_get hi, getD_get hjb, w64_id]
      rw [if_pos (by simpa using hi), hwb, hzb, getD_get hjb, if_pos rfl, gd_t (by simp; omega)]
      simp only [gd_true]
      refine ih2 _ (And.intro ?_ ?_)
      · rw [List.length_set]; exact hwl
      intro x hx
      rw [getD_set' w b[j].toNat x _ [] (by omega)]
      by_cases hxb : x = b[j].toNat
      · rw [if_pos hxb, hxb, hzb, getD_get hjb, if_pos rfl, List.take_succ_eq_append_getElem hi, List.map_append, List.append_assoc]
        rfl
      · rw [if_neg hxb, hw x hx, getD_get hjb, if_neg (by omega), if_neg (by omega)]
theorem l28Steps_eq {k : Nat} {s : SY} {b : List Int} (E : Env k s) (hb : BlkP (prodW s.1) b) (hk : 1048577 < k) : spec_l28Steps.f k s b = some (blkT s b, ()) := by
  have hS := E.S
  have hsz := hS.sz
  have h8 := hS.r8
  have hbl := hb.len
  rw [spec_l28Steps.s, l4Steps_eq hS E.hv E.hz hk]
  simp only [Option.bind_some]
  refine push_loop (l := fun n u j => spec_l28Steps.l4 k b n (stepsT s) u j) (ys := blkT s b) (m := prodW s.1) (blkT_length s b) (fun n j u hj hu => ?_) (fun n => ?_) (by omega)
  · simp only [spec_l28Steps.s4]
    rw [if_pos (by rw [stepsT_length]; simpa using hj)]
    refine for_from (a := j) (m := prodW s.1) (by omega) (l := fun q w i => spec_l28Steps.l8 k n b (stepsT s) u (j : Int) q w i) (fun i w => w = accB s b (j : Int) i) (fun x => x = spec_l28Steps.l4 k b n (stepsT s) (u ++ [(blkT s b)[j]'(by rw [blkT_length]; exact hj)]) ((j : Int) + 1)) (fun q w hW => ?_) (fun q i w hji hi hW ih => ?_) (by omega) ?_
    · subst hW
      simp (disch := omega) only [spec_l28Steps.s8, w64_id]
      rw [if_neg (by rw [stepsT_length]; simp)]
      have hal := accB_len hS b (j : Int) (prodW s.1)
      obtain ⟨q', h1, h2, h3⟩ := l17Ordered_eq (k := k) (accB s b (j : Int) (prodW s.1)) (fun x hx => by have := accB_mem hS hb rfl hx; omega) (by omega) (by omega)
      rw [h1]
      simp only [Option.bind_some]
      rw [gd_t (by simp; omega)]
      have : q' = blkRow s b j := asc_ext h2 (blkRow_asc s b j) fun x => by rw [h3, mem_blkRow]
      rw [this]
      simp [blkT]
    · have hri := steps_getD (s := s) (j := i) hi
      have hib : i < b.length := by omega
      have hrl := rowT_len s i
      have hal := accB_len hS b (j : Int) i
      have hsl := stepsT_length s
      simp only [spec_l28Steps.s8]
      rw [if_pos (by rw [stepsT_length]; simpa using hi)]
      by_cases hbj : b[i] = (j : Int)
      · refine for_post (m := (rowT s i).length) (l := fun q' w' e => spec_l28Steps.l11 k n q b (stepsT s) u (j : Int) (i : Int) q' w' e) (fun e w' => w' = w ++ ((rowT s i).take e).map fun y => b.getD y.toNat 0) (fun x => x = spec_l28Steps.l4 k b n (stepsT s) (u ++ [(blkT s b)[j]'(by rw [blkT_length]; exact hj)]) ((j : Int) + 1)) (fun q' w' hw' => ?_) (fun q' e w' he hw' ih2 => ?_) (by omega) (by simp)
        · simp (disch := omega) only [spec_l28Steps.s11, gd_t, toNat_nat, hri, w64_id]
          rw [if_neg (by simp)]
          refine ih _ ?_
          rw [hw', hW, accB_succ, getD_get hib, if_pos hbj, List.take_length]
        · have hre := rowT_get hS he
          have hwl : w'.length ≤ i * 8 + e := by rw [hw', hW]; simp; omega
          simp (disch := omega) only [spec_l28Steps.s11, gd_t, toNat_nat, hri, getD_get he, getD_get hib, w64_id]
          rw [if_pos (by simpa using he), if_pos (by simpa using hbj), gd_t (by simp; omega)]
          refine ih2 _ ?_
          rw [hw', List.take_succ_eq_append_getElem he, List.map_append, List.append_assoc]
          rfl
      · obtain ⟨k', rfl⟩ : ∃ q, k = q + 1 := ⟨k - 1, by omega⟩
        have hnext : w = accB s b (j : Int) (i + 1) := by rw [hW, accB_succ, getD_get hib, if_neg hbj, List.append_nil]
        simp (disch := omega) only [spec_l28Steps.s11, gd_t, toNat_nat, hri, getD_get hib, w64_id]
        by_cases hz : (rowT s i).length = 0
        · rw [if_neg (by simp [hz])]; exact ih _ hnext
        · rw [if_pos (by simp; omega), if_neg (by simpa using hbj)]; exact ih _ hnext
    · -- none below j is of block j
      have : ∀ i, i ≤ j → accB s b (j : Int) i = [] := by
        intro i
        induction i with
        | zero => intro _; simp [accB]
        | succ i ih =>
          intro hi
          have hib : i < b.length := by omega
          have := hb.low i hib
          rw [accB_succ, ih (by omega), getD_get hib, if_neg (by omega)]; rfl
      exact (this j (Nat.le_refl _)).symm
  · simp only [spec_l28Steps.s4]
    rw [if_neg (by rw [stepsT_length]; simp)]
end Go.Ev

set_option linter.unusedVariables false
set_option linter.unusedSimpArgs false
namespace Go.Ev

/-! ### one level of the search -/
structure Up (N : Nat) (old : List Int) (d : Nat) (R : Nat → Prop) (u : List Int) (sm : Bool) : Prop where
  len : u.length = N
  keep : ∀ x, x < N → 0 ≤ old.getD x 0 → u.getD x 0 = old.getD x 0
  new : ∀ x, x < N → ¬ 0 ≤ old.getD x 0 → R x → u.getD x 0 = ((d + 1 : Nat) : Int)
  non : ∀ x, x < N → ¬ 0 ≤ old.getD x 0 → ¬ R x → u.getD x 0 = -1
  some : sm = true ↔ ∃ x, x < N ∧ ¬ 0 ≤ old.getD x 0 ∧ R x
theorem Up.imp {N : Nat} {old u : List Int} {d : Nat} {R R' : Nat → Prop} {sm : Bool} (U : Up N old d R u sm) (h : ∀ x, x < N → (R x ↔ R' x)) : Up N old d R' u sm :=
  ⟨U.len, U.keep, fun x hx h0 hr => U.new x hx h0 ((h x hx).2 hr), fun x hx h0 hr => U.non x hx h0 fun hr' => hr ((h x hx).1 hr'),
    U.some.trans ⟨fun ⟨x, hx, h0, hr⟩ => ⟨x, hx, h0, (h x hx).1 hr⟩, fun ⟨x, hx, h0, hr⟩ => ⟨x, hx, h0, (h x hx).2 hr⟩⟩⟩
theorem getD_set {α : Type} (v : List α) (y x : Nat) (a e : α) : (v.set y a).getD x e = if x = y ∧ y < v.length then a else v.getD x e := by
  rw [List.getD_eq_getElem?_getD, List.getD_eq_getElem?_getD, List.getElem?_set]
  by_cases h : y = x
  · subst h
    by_cases h2 : y < v.length
    · simp [h2]
    · simp [h2]
  · rw [if_neg h, if_neg (fun h' => h h'.1.symm)]
theorem Up.set {N : Nat} {old u : List Int} {d : Nat} {R : Nat → Prop} {sm : Bool} (U : Up N old d R u sm) {y : Nat} (hy : y < N) (h0 : u.getD y 0 < 0) : Up N old d (fun x => R x ∨ x = y) (u.set y ((d + 1 : Nat) : Int)) true := by
  have ho : ¬ 0 ≤ old.getD y 0 := fun h => by rw [U.keep y hy h] at h0; omega
  refine ⟨by rw [List.length_set]; exact U.len, fun x hx h => ?_, fun x hx h hr => ?_, fun x hx h hr => ?_, ⟨fun _ => ⟨y, hy, ho, .inr rfl⟩, fun _ => rfl⟩⟩
  · rw [getD_set, if_neg (fun e => ho (by rw [← e.1]; exact h))]; exact U.keep x hx h
  · rw [getD_set]
    by_cases e : x = y
    · rw [if_pos ⟨e, by rw [U.len]; exact hy⟩]
    · rw [if_neg (fun h' => e h'.1)]
      exact U.new x hx h (hr.resolve_right e)
  · rw [getD_set, if_neg (fun h' => hr (.inr h'.1))]
    exact U.non x hx h fun h' => hr (.inl h')
theorem Up.skip {N : Nat} {old u : List Int} {d : Nat} {R : Nat → Prop} {sm : Bool} (U : Up N old d R u sm) {y : Nat} (hy : y < N) (h0 : ¬ u.getD y 0 < 0) : Up N old d (fun x => R x ∨ x = y) u sm := by
  by_cases ho : 0 ≤ old.getD y 0
  · refine ⟨U.len, U.keep, fun x hx h hr => U.new x hx h (hr.resolve_right fun e => h (by rw [e]; exact ho)), fun x hx h hr => U.non x hx h fun h' => hr (.inl h'), U.some.trans ⟨fun ⟨x, hx, h, hr⟩ => ⟨x, hx, h, .inl hr⟩, fun ⟨x, hx, h, hr⟩ => ⟨x, hx, h, hr.resolve_right fun e => h (by rw [e]; exact ho)⟩⟩⟩
  · have hR : R y := Classical.byContradiction fun h => by rw [U.non y hy ho h] at h0; omega
    exact U.imp fun x hx => ⟨.inl, fun h => by rcases h with h | h; exact h; rw [h]; exact hR⟩

variable {T : List (List Int)} {v : List Bool}
theorem TabP.row (hT : TabP T) {j : Nat} (hj : j < T.length) {i : Nat} (hi : i < T[j].length) : 0 ≤ T[j][i] ∧ T[j][i] < (T.length : Int) := hT _ (List.getElem_mem hj) _ (List.getElem_mem hi)
/-- Who is put at level d by the numbers below j. -/
def Put (T : List (List Int)) (v : List Bool) (d j : Nat) (x : Nat) : Prop := ∃ m, m < j ∧ (lv T v d).getD m 0 = (d : Int) ∧ (x : Int) ∈ T.getD m []
theorem level {k : Nat} (n d : Nat) (hT : TabP T) (hN : T.length ≤ 1048576) (hr : ∀ r ∈ T, r.length ≤ 1048576) (hd : d ≤ 1048577) (hk : 1048577 < k) : ∃ sm : Bool, (sm = true ↔ lv T v (d + 1) ≠ lv T v d) ∧
    spec_l5Steps.l14 k n T (d : Int) k (lv T v d) false 0 = spec_l5Steps.l10 k T n (lv T v (d + 1)) sm ((d + 1 : Nat) : Int) := by
  refine for_post (m := T.length) (l := fun q (u : List Int × Bool) j => spec_l5Steps.l14 k n T (d : Int) q u.1 u.2 j) (fun j u => Up T.length (lv T v d) d (Put T v d j) u.1 u.2) (fun x => ∃ sm : Bool, (sm = true ↔ lv T v (d + 1) ≠ lv T v d) ∧ x = spec_l5Steps.l10 k T n (lv T v (d + 1)) sm ((d + 1 : Nat) : Int))
    (fun q u hI => ?_) (fun q j u hj hI ih => ?_) (s := (lv T v d, false)) (by omega) ?_
  · have e : u.1 = lv T v (d + 1) := by
      refine lv_ext (T := T) hI.len (lv_length _) fun x hx => ?_
      obtain ⟨h1, h2, h3⟩ := lv_succ (v := v) (d := d) hx
      by_cases h0 : 0 ≤ (lv T v d).getD x 0
      · rw [h1 h0]; exact hI.keep x hx h0
      · by_cases hR : Put T v d T.length x
        · rw [h2 h0 hR]; exact hI.new x hx h0 hR
        · rw [h3 h0 hR]; exact hI.non x hx h0 hR
    refine ⟨u.2, ⟨fun hs he => ?_, fun hne => ?_⟩, ?_⟩
    · obtain ⟨x, hx, h0, hR⟩ := hI.some.1 hs
      have := hI.new x hx h0 hR
      rw [e, he] at this
      omega
    · refine hI.some.2 (Classical.byContradiction fun hn => hne (lv_ext (T := T) (lv_length _) (lv_length _) fun x hx => ?_))
      obtain ⟨h1, h2, h3⟩ := lv_succ (v := v) (d := d) hx
      by_cases h0 : 0 ≤ (lv T v d).getD x 0
      · exact h1 h0
      · rw [h3 h0 fun hR => hn ⟨x, hx, h0, hR⟩]
        rcases lv_range (v := v) hx d with q | q
        · exact q.symm
        · omega
    · simp (disch := omega) only [spec_l5Steps.s14, w64_id]
      rw [if_neg (by simp), e]; rfl
  · have hrow : T.getD j [] = T[j] := getD_get hj
    have hrl := hr _ (List.getElem_mem hj)
    simp only [spec_l5Steps.s14]
    rw [if_pos (by simpa using hj)]
    -- the level of j is as it was
    have hsame : ∀ {R : Nat → Prop} {u : List Int} {sm : Bool}, Up T.length (lv T v d) d R u sm → (u.getD j 0 = (d : Int) ↔ (lv T v d).getD j 0 = (d : Int)) := by
      intro R u sm U
      by_cases h0 : 0 ≤ (lv T v d).getD j 0
      · rw [U.keep j hj h0]
      · by_cases hR : R j
        · rw [U.new j hj h0 hR]; omega
        · rw [U.non j hj h0 hR]; omega
    by_cases hjd : (lv T v d).getD j 0 = (d : Int)
    · refine for_post (m := T[j].length) (l := fun q' (u : List Int × Bool) i => spec_l5Steps.l17 k n q T (d : Int) (j : Int) q' u.1 u.2 i) (fun i u => Up T.length (lv T v d) d (fun x => Put T v d j x ∨ (x : Int) ∈ T[j].take i) u.1 u.2) (fun x => ∃ sm : Bool, (sm = true ↔ lv T v (d + 1) ≠ lv T v d) ∧ x = spec_l5Steps.l10 k T n (lv T v (d + 1)) sm ((d + 1 : Nat) : Int))
        (fun q' u hu => ?_) (fun q' i u hi hu ih2 => ?_) (s := u) (by omega) (hI.imp fun x _ => by simp)
      · simp (disch := omega) only [spec_l5Steps.s17, gd_t, toNat_nat, hrow, w64_id]
        rw [if_neg (by simp)]
        refine ih u (hu.imp fun x hx => ?_)
        rw [List.take_length]
        constructor
        · rintro (⟨m, hm, h1, h2⟩ | h)
          · exact ⟨m, by omega, h1, h2⟩
          · exact ⟨j, by omega, hjd, by rw [hrow]; exact h⟩
        · rintro ⟨m, hm, h1, h2⟩
          rcases Nat.lt_or_ge m j with h | h
          · exact .inl ⟨m, h, h1, h2⟩
          · have : m = j := by omega
            subst this
            exact .inr (by rw [← hrow]; exact h2)
      · have hx := hT.row hj hi
        have hul := hu.len
        simp (disch := omega) only [spec_l5Steps.s17, gd_t, toNat_nat, hrow, getD_get hi, w64_id]
        rw [if_pos (by simpa using hi), if_pos (by simpa [-List.getD_eq_getElem?_getD] using (hsame hu).2 hjd)]
        have hin : ∀ x : Nat, x < T.length → (((Put T v d j x ∨ (x : Int) ∈ T[j].take i) ∨ x = T[j][i].toNat) ↔ (Put T v d j x ∨ (x : Int) ∈ T[j].take (i + 1))) := by
          intro x hx'
          rw [mem_take1 hi, or_assoc]
          have : x = T[j][i].toNat ↔ (x : Int) = T[j][i] := by omega
          rw [this]
        have hy : T[j][i].toNat < T.length := by omega
        by_cases h0 : u.1.getD T[j][i].toNat 0 < 0
        · rw [if_pos (by simpa [-List.getD_eq_getElem?_getD] using h0)]
          exact ih2 (u.1.set T[j][i].toNat ((d : Int) + 1), true) ((hu.set hy h0).imp hin)
        · rw [if_neg (by simpa [-List.getD_eq_getElem?_getD] using h0)]
          exact ih2 u ((hu.skip hy h0).imp hin)
    · obtain ⟨k', rfl⟩ : ∃ q, k = q + 1 := ⟨k - 1, by omega⟩
      have hul := hI.len
      have next : Up T.length (lv T v d) d (Put T v d (j + 1)) u.1 u.2 := by
        refine hI.imp fun x hx => Iff.intro (fun ⟨m, hm, h1, h2⟩ => ⟨m, by omega, h1, h2⟩) (fun ⟨m, hm, h1, h2⟩ => ?_)
        rcases Nat.lt_or_ge m j with h | h
        · exact ⟨m, h, h1, h2⟩
        · have : m = j := by omega
          subst this
          exact absurd h1 hjd
      simp (disch := omega) only [spec_l5Steps.s17, gd_t, toNat_nat, hrow, w64_id]
      by_cases hz : T[j].length = 0
      · rw [if_neg (by simp [hz])]
        exact ih u next
      · rw [if_pos (by simp; omega), if_neg (by simpa [-List.getD_eq_getElem?_getD] using fun h => hjd ((hsame hI).1 h))]
        exact ih u next
  · refine ⟨lv_length _, fun _ _ _ => rfl, fun x hx h0 ⟨m, hm, _⟩ => by omega, fun x hx h0 _ => ?_, ⟨fun h => (by cases h), fun ⟨x, hx, h0, m, hm, _⟩ => by omega⟩⟩
    rcases lv_range (v := v) hx d with q | q
    · exact q
    · omega
theorem l5Steps_eq {k : Nat} (hT : TabP T) (hl : v.length = T.length) (hN : T.length ≤ 1048576) (hr : ∀ r ∈ T, r.length ≤ 1048576) (hk : 1048577 < k) : spec_l5Steps.f k T v = some (farT T v, ()) := by
  rw [spec_l5Steps.s]
  have main : spec_l5Steps.l10 k T k (lv T v 0) true 0 = some (farT T v, ()) := by
    refine while_post (l := fun n (q : Nat × Bool) => spec_l5Steps.l10 k T n (lv T v q.1) q.2 (q.1 : Int)) (fun q => (if q.2 = true then 1 else 0) + (T.length - cnt (lv T v q.1) T.length))
      (fun q => (q.2 = true → q.1 ≤ cnt (lv T v q.1) T.length) ∧ (q.2 = false → ∃ e, q.1 = e + 1 ∧ lv T v (e + 1) = lv T v e ∧ e ≤ T.length)) (fun x => x = some (farT T v, ())) (fun n q hI ih => ?_) (k := k) (s := (0, true)) (by simp; omega) ⟨fun _ => Nat.zero_le _, fun h => by cases h⟩
    obtain ⟨d, sm⟩ := q
    cases sm with
    | false =>
      obtain ⟨e, h1, h2, h3⟩ := hI.2 rfl
      have h1 : d = e + 1 := h1
      subst h1
      simp only [spec_l5Steps.s10]
      rw [if_neg (by simp), h2, lv_far h2 h3]
    | true =>
      have hc : d ≤ cnt (lv T v d) T.length := hI.1 rfl
      have hcl := cnt_le (lv T v d) T.length
      simp only [spec_l5Steps.s10, if_true]
      obtain ⟨sm, h1, h2⟩ := level (v := v) n d hT hN hr (by omega) hk
      rw [h2]
      cases sm with
      | true =>
        have hlt := cnt_lt (h1.1 rfl)
        refine ih (d + 1, true) ⟨fun _ => by simp only; omega, fun h => by cases h⟩ ?_
        have := cnt_le (lv T v (d + 1)) T.length
        simp only [if_true]; omega
      | false =>
        have he : lv T v (d + 1) = lv T v d := Classical.byContradiction fun h => by have := h1.2 h; cases this
        refine ih (d + 1, false) ⟨fun h => (by cases h), fun _ => ⟨d, rfl, he, by omega⟩⟩ ?_
        simp only [he]
        simp
  refine push_loop (l := fun n u j => spec_l5Steps.l3 k T v n u j) (ys := lv T v 0) (m := T.length) (lv_length 0) (fun n j u hj hu => ?_) (fun n => ?_) (by omega)
  · have hz := lv_zero (v := v) hj
    rw [getD_get (by rw [lv_length]; exact hj)] at hz
    simp (disch := omega) only [spec_l5Steps.s3, gd_t, toNat_nat, w64_id]
    rw [if_pos (by simpa using hj), hz]
    by_cases hv : v.getD j false = true
    · rw [if_pos hv, if_pos hv, gd_t (by simp; omega)]
    · rw [if_neg hv, if_neg hv, gd_t (by simp; omega)]
  · simp only [spec_l5Steps.s3]
    rw [if_neg (by simp)]
    exact main
end Go.Ev

set_option linter.unusedVariables false
set_option linter.unusedSimpArgs false
namespace Go.Ev

/-! ### where one comes, with a row of those still to be looked at -/
noncomputable def rchT (T : List (List Int)) (v : List Bool) : List Bool := (farT T v).map fun x => decide (0 ≤ x)
theorem rchT_length (T : List (List Int)) (v : List Bool) : (rchT T v).length = T.length := by simp [rchT, farT_length]
theorem rchT_get {T : List (List Int)} {v : List Bool} {x : Nat} (h : x < T.length) : ((rchT T v).getD x false = true ↔ RchT T v x) := by
  rw [getD_get (by rw [rchT_length]; exact h)]
  simp only [rchT, List.getElem_map, decide_eq_true_eq]
  unfold RchT
  rw [getD_get (by rw [farT_length]; exact h)]
/-- How many are not marked. -/
def unm (v : List Bool) (n : Nat) : Nat := ((List.range n).filter fun x => !v.getD x false).length
theorem unm_le (v : List Bool) (n : Nat) : unm v n ≤ n := by
  have := List.length_filter_le (fun x => !v.getD x false) (List.range n)
  simpa [unm] using this
theorem unm_set {v : List Bool} {n y : Nat} (hv : v.length = n) (hy : y < n) (h : v.getD y false = false) : unm (v.set y true) n < unm v n := by
  refine (filter_lt (fun x hx => ?_)).2 ⟨y, List.mem_range.2 hy, by rw [h]; rfl, by rw [getD_set' v y y _ _ (by omega), if_pos rfl]; rfl⟩
  rw [getD_set' v y x _ _ (by omega)] at hx
  by_cases e : x = y
  · rw [if_pos e] at hx; cases hx
  · rw [if_neg e] at hx; exact hx
structure BfsI (T : List (List Int)) (v : List Bool) (is : List Bool) (row : List Int) (D : Nat → Nat → Prop) : Prop where
  len : is.length = T.length
  rows : ∀ y ∈ row, 0 ≤ y ∧ y < (T.length : Int) ∧ is.getD y.toNat false = true
  snd : ∀ x, x < T.length → is.getD x false = true → RchT T v x
  start : ∀ x, x < T.length → v.getD x false = true → is.getD x false = true
  cls : ∀ m x, m < T.length → x < T.length → is.getD m false = true → (x : Int) ∈ T.getD m [] → D m x → is.getD x false = true ∨ (m : Int) ∈ row
variable {T : List (List Int)} {v : List Bool}
theorem BfsI.done {is : List Bool} (I : BfsI T v is [] fun _ _ => True) : is = rchT T v := by
  refine list_ext_getD (d := false) I.len (rchT_length T v) fun x hx => ?_
  rw [Bool.eq_iff_iff, rchT_get hx]
  refine ⟨I.snd x hx, RchT.least (C := fun x => is.getD x false = true) I.start (fun m x hm hx h1 h2 => ?_) x hx⟩
  rcases I.cls m x hm hx h1 h2 trivial with h | h
  · exact h
  · simp at h
theorem reach_loop {k : Nat} (hT : TabP T) (hN : T.length ≤ 1048576) (hr : ∀ r ∈ T, r.length ≤ 1048576) (hk : 3000000 < k) {is : List Bool} {row : List Int} (hrow : row.length ≤ 1048576) (I : BfsI T v is row fun _ _ => True) : impl_reach.l8 k T k is row = some (rchT T v, ()) := by
  refine while_post (l := fun n (q : List Bool × List Int) => impl_reach.l8 k T n q.1 q.2) (fun q => unm q.1 T.length + q.2.length) (fun q => BfsI T v q.1 q.2 (fun _ _ => True) ∧ unm q.1 T.length + q.2.length ≤ 2097152) (fun x => x = some (rchT T v, ())) (fun n q hI ih => ?_) (k := k) (s := (is, row))
    (by have := unm_le is T.length; simp only; omega) ⟨I, by have := unm_le is T.length; simp only; omega⟩
  obtain ⟨is, row⟩ := q
  obtain ⟨I, hμ⟩ := hI
  simp only at I hμ ih ⊢
  cases row with
  | nil =>
    rw [impl_reach.s8, if_neg (by simp), I.done]
  | cons y rest =>
    obtain ⟨hy0, hy1, hy2⟩ := I.rows y (by simp)
    have hyT : y.toNat < T.length := by omega
    have hg : (y :: rest).getD (Int.toNat 0) 0 = y := rfl
    have hd : (((y :: rest).take ((((y :: rest).length : Nat) : Int).toNat)).drop (Int.toNat 1)) = rest := by
      rw [toNat_nat, List.take_length]; rfl
    have hTy : T.getD y.toNat [] = T[y.toNat] := getD_get hyT
    have hrl := hr _ (List.getElem_mem hyT)
    rw [impl_reach.s8, if_pos (by simp), gd_t (by omega), gd_t (by simp), gd_t (by omega), gd_t (by simp; omega), gd_t (by omega), hg, gd_t hy0, gd_t hy1, hd]
    simp only [List.length_cons] at hμ
    refine for_post (m := T[y.toNat].length) (l := fun q (u : List Bool × List Int) i => impl_reach.l12 k n T (y :: rest) q u.1 u.2 i) (fun i u => BfsI T v u.1 u.2 (fun m x => m ≠ y.toNat ∨ (x : Int) ∈ T[y.toNat].take i) ∧ unm u.1 T.length + u.2.length ≤ unm is T.length + rest.length ∧ u.1.getD y.toNat false = true) (fun x => x = some (rchT T v, ()))
      (fun q u hU => ?_) (fun q i u hi hU ih2 => ?_) (s := (is, rest)) (by omega) ⟨⟨I.len, fun z hz => I.rows z (by simp [hz]), I.snd, I.start, fun m x hm hx h1 h2 h3 => ?_⟩, by simp only; omega, hy2⟩
    · obtain ⟨U, hu, _⟩ := hU
      rw [impl_reach.s12, hg, hTy, if_neg (by simp)]
      refine ih u ⟨⟨U.len, U.rows, U.snd, U.start, fun m x hm hx h1 h2 _ => U.cls m x hm hx h1 h2 ?_⟩, by omega⟩ (by simp only [List.length_cons]; omega)
      rw [List.take_length]
      by_cases e : m = y.toNat
      · right; rw [← hTy, ← e]; exact h2
      · exact .inl e
    · obtain ⟨U, hu, huy⟩ := hU
      have hx := hT.row hyT hi
      have hul := U.len
      have hx' : T[y.toNat][i].toNat < T.length := by omega
      have hreach : RchT T v T[y.toNat][i].toNat := by
        refine RchT.step hyT hx' (U.snd _ hyT huy) ?_
        rw [hTy, show ((T[y.toNat][i].toNat : Nat) : Int) = T[y.toNat][i] by omega]
        exact List.getElem_mem hi
      have hcast : ∀ x : Nat, (x : Int) = T[y.toNat][i] ↔ x = T[y.toNat][i].toNat := fun x => by omega
      simp (disch := omega) only [impl_reach.s12, hg, hTy, gd_t, toNat_nat, getD_get hi, w64_id]
      rw [if_pos (by simpa using hi)]
      cases hb : u.1.getD T[y.toNat][i].toNat false with
      | true =>
        simp only [Bool.not_true, Bool.false_eq_true, if_false]
        refine ih2 u ⟨⟨U.len, U.rows, U.snd, U.start, fun m x hm hx h1 h2 h3 => ?_⟩, hu, huy⟩
        rcases h3 with h3 | h3
        · exact U.cls m x hm hx h1 h2 (.inl h3)
        · rcases (mem_take1 hi _).1 h3 with h3 | h3
          · exact U.cls m x hm hx h1 h2 (.inr h3)
          · left; rw [(hcast x).1 h3]; exact hb
      | false =>
        simp only [Bool.not_false, if_true]
        have hum := unm_set hul hx' hb
        have hull : u.2.length ≤ 2097152 := by omega
        rw [gd_t (by simp; omega)]
        have hset : ∀ x, (u.1.set T[y.toNat][i].toNat true).getD x false = true ↔ x = T[y.toNat][i].toNat ∨ u.1.getD x false = true := fun x => by
          rw [getD_set' u.1 _ x _ _ (by omega)]
          by_cases e : x = T[y.toNat][i].toNat
          · simp [e]
          · simp [e, -List.getD_eq_getElem?_getD]
        refine ih2 (u.1.set T[y.toNat][i].toNat true, u.2 ++ [T[y.toNat][i]]) ⟨⟨by simp only [List.length_set]; exact hul, fun z hz => ?_, fun x hx h => ?_, fun x hx h => (hset x).2 (.inr (U.start x hx h)), fun m x hm hx h1 h2 h3 => ?_⟩, ?_, (hset _).2 (.inr huy)⟩
        · rcases List.mem_append.1 hz with hz | hz
          · obtain ⟨g1, g2, g3⟩ := U.rows z hz
            exact ⟨g1, g2, (hset _).2 (.inr g3)⟩
          · rw [List.mem_singleton.1 hz]
            exact ⟨hx.1, hx.2, (hset _).2 (.inl rfl)⟩
        · rcases (hset x).1 h with e | e
          · rw [e]; exact hreach
          · exact U.snd x hx e
        · rcases (hset m).1 h1 with e | e
          · right; simp only [List.mem_append, List.mem_singleton]; right; exact (hcast m).2 e
          · have fin_ : (m ≠ y.toNat ∨ (x : Int) ∈ T[y.toNat].take i) → (u.1.set T[y.toNat][i].toNat true).getD x false = true ∨ (m : Int) ∈ u.2 ++ [T[y.toNat][i]] := fun h3 => by
              rcases U.cls m x hm hx e h2 h3 with h | h
              · exact .inl ((hset x).2 (.inr h))
              · exact .inr (List.mem_append.2 (.inl h))
            rcases h3 with h3 | h3
            · exact fin_ (.inl h3)
            · rcases (mem_take1 hi _).1 h3 with h3 | h3
              · exact fin_ (.inr h3)
              · exact .inl ((hset x).2 (.inl ((hcast x).1 h3)))
        · simp only [List.length_append, List.length_singleton]; omega
    · rcases I.cls m x hm hx h1 h2 trivial with h | h
      · exact .inl h
      · rcases List.mem_cons.1 h with h | h
        · rcases h3 with h3 | h3
          · exact absurd (show m = y.toNat by omega) h3
          · simp at h3
        · exact .inr h
/-- Which numbers are in a list. -/
theorem marks_set (p : List Int) (n : Nat) {j : Nat} (hj : j < p.length) (h0 : 0 ≤ p[j]) (h1 : p[j] < (n : Int)) : (marksOf (p.take j) n).set p[j].toNat true = marksOf (p.take (j + 1)) n := by
  refine list_ext_getD (d := false) (n := n) (by simp [marksOf]) (by simp [marksOf]) fun x hx => ?_
  rw [getD_set' _ _ x _ _ (by simp [marksOf]; omega), getD_get (by simpa [marksOf] using hx), getD_get (by simpa [marksOf] using hx), marksOf_get _ _ hx, marksOf_get _ _ hx]
  by_cases e : x = p[j].toNat
  · rw [if_pos e]
    have : (x : Int) ∈ p.take (j + 1) := by rw [mem_take1 hj]; right; omega
    rw [decide_eq_true this]
  · rw [if_neg e]
    have : (x : Int) ≠ p[j] := by omega
    congr 1
    rw [mem_take1 hj]
    simp [this]
theorem marksOf_nil (n : Nat) : marksOf [] n = List.replicate n false := by
  apply List.ext_getElem
  · simp [marksOf]
  · intro i h1 h2; simp [marksOf]
theorem marksOf_getD {p : List Int} {n x : Nat} (h : x < n) : ((marksOf p n).getD x false = true ↔ (x : Int) ∈ p) := by
  rw [getD_get (by rw [marksOf_length]; exact h), marksOf_get _ _ h, decide_eq_true_iff]
theorem l4Marks_eq {k : Nat} {p : List Int} {n : Nat} (h : ∀ x ∈ p, 0 ≤ x ∧ x < (n : Int)) (hn : n ≤ 1048576) (hp : p.length ≤ 1048576) (hk : 1048577 < k) : spec_l4Marks.f k p (n : Int) = some (marksOf p n, ()) := by
  rw [spec_l4Marks.s, gd_t (by omega), gd_t (by omega)]
  refine for_post (m := p.length) (l := fun q u j => spec_l4Marks.l3 k p q u j) (fun j u => u = marksOf (p.take j) n) (fun x => x = some (marksOf p n, ())) (fun q u hI => ?_) (fun q j u hj hI ih => ?_) (by omega) (by simp [marksOf_nil])
  · rw [spec_l4Marks.s3, if_neg (by simp), hI, List.take_length]
  · obtain ⟨h0, h1⟩ := h _ (List.getElem_mem hj)
    have hul : u.length = n := by rw [hI, marksOf_length]
    simp (disch := omega) only [spec_l4Marks.s3, gd_t, toNat_nat, getD_get hj, w64_id]
    rw [if_pos (by simpa using hj)]
    exact ih _ (by rw [hI, marks_set p n hj h0 h1])
theorem reach_eq {k : Nat} {p : List Int} (hT : TabP T) (hN : T.length ≤ 1048576) (hr : ∀ r ∈ T, r.length ≤ 1048576) (hp : ∀ x ∈ p, 0 ≤ x ∧ x < (T.length : Int)) (hpl : p.length ≤ 1048576) (hk : 3000000 < k) : impl_reach.f k T p = some (rchT T (marksOf p T.length), ()) := by
  rw [impl_reach.s, gd_t (by omega), gd_t (by omega), slices_Clone_int_int.s, gd_t (by unfold LIM; omega)]
  simp only [Option.bind_some, toNat_nat]
  refine for_post (m := p.length) (l := fun q u j => impl_reach.l4 k T p q u p j) (fun j u => u = marksOf (p.take j) T.length) (fun x => x = some (rchT T (marksOf p T.length), ())) (fun q u hI => ?_) (fun q j u hj hI ih => ?_) (by omega) (by simp [marksOf_nil])
  · rw [List.take_length] at hI
    rw [impl_reach.s4, if_neg (by simp), hI]
    refine reach_loop hT hN hr hk hpl ⟨marksOf_length _ _, fun y hy => ?_, fun x hx h => RchT.start hx h, fun x hx h => h, fun m x hm hx h1 h2 _ => ?_⟩
    · obtain ⟨h0, h1⟩ := hp y hy
      exact ⟨h0, h1, (marksOf_getD (by omega)).2 (by rw [show ((y.toNat : Nat) : Int) = y by omega]; exact hy)⟩
    · exact .inr ((marksOf_getD hm).1 h1)
  · obtain ⟨h0, h1⟩ := hp _ (List.getElem_mem hj)
    have hul : u.length = T.length := by rw [hI, marksOf_length]
    simp (disch := omega) only [impl_reach.s4, gd_t, toNat_nat, getD_get hj, w64_id]
    rw [if_pos (by simpa using hj)]
    exact ih _ (by rw [hI, marks_set p T.length hj h0 h1])
end Go.Ev

set_option linter.unusedVariables false
set_option linter.unusedSimpArgs false
namespace Go.Ev

/-! ### BlockReach -/
theorem firstT_StP {s : SY} (hS : SysP s) : StP s.1 (firstT s) := by
  rw [StP_iff]
  refine ⟨firstT_length s, fun i h h' => ?_⟩
  have := hS.vp _ (List.getElem_mem h)
  simp only [firstT, List.getElem_map]
  exact ⟨this.2.2.2.2.1, this.2.2.2.2.2⟩
noncomputable def n0 (s : SY) : Nat := noOf s.1 (firstT s)
theorem n0_lt {s : SY} (hS : SysP s) : n0 s < prodW s.1 := noOf_lt (firstT_StP hS) hS.vp
theorem first_eq {k : Nat} {s : SY} (hS : SysP s) (hk : 1000 < k) : impl_first.f k s = some (firstT s, ()) := by
  have h5 := hS.v5
  rw [impl_first.s]
  refine push_loop (l := fun n v j => impl_first.l3 k s n v j) (ys := firstT s) (m := s.1.length) (firstT_length s) (fun n j v hj hv' => ?_) (fun n => ?_) (by omega)
  · simp (disch := omega) only [impl_first.s3, getD_get, w64_id, toNat_nat, gd_t]
    rw [if_pos (by simpa using hj), gd_t (by simp; omega)]
    simp [firstT]
  · rw [impl_first.s3, if_neg (by simp), clone_int_eq (k := k) (p := firstT s) (by rw [firstT_length]; omega)]
    rfl
theorem mem_one {x y : Int} : x ∈ [y] ↔ x = y := by simp
theorem l28First_eq {k : Nat} {s : SY} {b : List Int} (E : Env k s) (hb : BlkP (prodW s.1) b) (hk : 1048577 < k) : spec_l28First.f k s b = some (marksOf [b.getD (n0 s) 0] (prodW s.1), ()) := by
  have hS := E.S
  have hsz := hS.sz
  have hn := n0_lt hS
  have hbl := hb.len
  have hnb : n0 s < b.length := by omega
  have hlow := hb.low _ hnb
  rw [spec_l28First.s, FirstState_eq hS E.hv (by omega)]
  simp only [Option.bind_some]
  rw [l4Number_eq hS (firstT_StP hS) (by omega)]
  simp only [Option.bind_some, toNat_nat]
  rw [show noOf s.1 (firstT s) = n0 s from rfl, gd_t (by omega), gd_t (by omega), hbl, getD_get hnb, l4Marks_eq (fun x hx => by rw [mem_one] at hx; omega) (by omega) (by simp) hk]
  rfl
/-- Which states the blocks have to which one comes. -/
noncomputable def brT (s : SY) (b : List Int) : List Bool := (List.range (prodW s.1)).map fun n => (rchT (blkT s b) (marksOf [b.getD (n0 s) 0] (prodW s.1))).getD (b.getD n 0).toNat false
theorem brT_length (s : SY) (b : List Int) : (brT s b).length = prodW s.1 := by simp [brT]
theorem blockReach_eq {k : Nat} {s : SY} {b : List Int} (E : Env k s) (hb : BlkP (prodW s.1) b) (hk : 3000000 < k) : impl_blockReach.f k s b = some (brT s b, ()) := by
  have hS := E.S
  have hsz := hS.sz
  have hn := n0_lt hS
  have hbl := hb.len
  have hnb : n0 s < b.length := by omega
  have hlow := hb.low _ hnb
  have htl := blkT_length s b
  rw [impl_blockReach.s, blockSteps_eq E hb (by omega)]
  simp only [Option.bind_some]
  rw [first_eq hS (by omega)]
  simp only [Option.bind_some]
  rw [number_eq hS (firstT_StP hS) (by omega)]
  simp only [Option.bind_some, toNat_nat]
  rw [show noOf s.1 (firstT s) = n0 s from rfl, gd_t (by omega), gd_t (by omega), getD_get hnb,
    reach_eq (blkT_tab hS hb) (by omega) (fun r hr => by have := blkT_rows hS r hr; omega) (fun x hx => by rw [mem_one] at hx; omega) (by simp) hk]
  simp only [Option.bind_some, rchT_length, htl, toNat_nat]
  rw [gd_t (by omega), gd_t (by omega)]
  refine for_post (m := prodW s.1) (l := fun n u j => impl_blockReach.l4 k b n (rchT (blkT s b) (marksOf [b[n0 s]] (prodW s.1))) u j) (fun j u => u.length = prodW s.1 ∧ ∀ x, x < j → u.getD x false = (brT s b).getD x false) (fun x => x = some (brT s b, ())) (fun n u hI => ?_) (fun n j u hj hI ih => ?_) (by omega) ⟨by simp, fun x hx => by omega⟩
  · rw [impl_blockReach.s4, if_neg (by simp [hbl]), list_ext_getD (d := false) hI.1 (brT_length s b) hI.2]
  · have hjb : j < b.length := by omega
    have hlj := hb.low j hjb
    have hrl := rchT_length (blkT s b) (marksOf [b[n0 s]] (prodW s.1))
    have hul := hI.1
    simp (disch := omega) only [impl_blockReach.s4, gd_t, toNat_nat, getD_get hjb, w64_id]
    rw [if_pos (by rw [hbl]; simpa using hj)]
    refine ih _ ⟨by rw [List.length_set]; exact hul, fun x hx => ?_⟩
    rw [getD_set' u j x _ false (by omega)]
    by_cases e : x = j
    · rw [if_pos e, e, getD_get (xs := brT s b) (by rw [brT_length]; exact hj)]
      simp [brT, -List.getD_eq_getElem?_getD, getD_get hjb, getD_get hnb]
    · rw [if_neg e]; exact hI.2 x (by omega)
theorem l5Told_eq {k : Nat} (p : List Int) (hp : p.length ≤ 1048576) (hk : 1048576 < k) : spec_l5Told.f k p = some (p.map fun x => decide (0 ≤ x), ()) := by
  rw [spec_l5Told.s, gd_t (by omega), gd_t (by omega)]
  simp only [toNat_nat]
  refine for_post (m := p.length) (l := fun n u j => spec_l5Told.l3 k p n u j) (fun j u => u.length = p.length ∧ ∀ x, x < j → u.getD x false = (p.map fun x => decide (0 ≤ x)).getD x false) (fun x => x = some (p.map fun x => decide (0 ≤ x), ())) (fun n u hI => ?_) (fun n j u hj hI ih => ?_) (by omega) ⟨by simp, fun x hx => by omega⟩
  · rw [spec_l5Told.s3, if_neg (by simp), list_ext_getD (d := false) hI.1 (by simp) hI.2]
  · have hul := hI.1
    simp (disch := omega) only [spec_l5Told.s3, gd_t, toNat_nat, getD_get hj, w64_id]
    rw [if_pos (by simpa using hj)]
    refine ih _ ⟨by rw [List.length_set]; exact hul, fun x hx => ?_⟩
    rw [getD_set' u j x _ false (by omega)]
    by_cases e : x = j
    · rw [if_pos e, e, getD_get (xs := p.map fun x => decide (0 ≤ x)) (by simpa using hj)]
      simp
    · rw [if_neg e]; exact hI.2 x (by omega)
theorem specReach_eq {k : Nat} {s : SY} {b : List Int} (E : Env k s) (hb : BlkP (prodW s.1) b) (hv : spec_BlocksValid.f k s b = some (true, ())) (hk : 1048577 < k) : spec_BlockReach.f k s b = some (listT (brT s b), ()) := by
  have hS := E.S
  have hsz := hS.sz
  have hn := n0_lt hS
  have hbl := hb.len
  have htl := blkT_length s b
  rw [spec_BlockReach.s, hv]
  simp only [Option.bind_some]
  rw [l28Steps_eq E hb hk]
  simp only [Option.bind_some]
  rw [l28First_eq E hb hk]
  simp only [Option.bind_some]
  rw [l5Steps_eq (blkT_tab hS hb) (by rw [marksOf_length, htl]) (by omega) (fun r hr => by have := blkT_rows hS r hr; omega) hk]
  simp only [Option.bind_some]
  rw [l5Told_eq _ (by rw [farT_length]; omega) (by omega)]
  simp only [Option.bind_some]
  rw [show (farT (blkT s b) (marksOf [b.getD (n0 s) 0] (prodW s.1))).map (fun x => decide (0 ≤ x)) = rchT (blkT s b) (marksOf [b.getD (n0 s) 0] (prodW s.1)) from rfl]
  refine (show spec_BlockReach.l6 k b k [] (rchT (blkT s b) (marksOf [b.getD (n0 s) 0] (prodW s.1))) 0 = some (listT (brT s b), ()) from ?_)
  refine for_post (m := prodW s.1) (l := fun n l j => spec_BlockReach.l6 k b n l (rchT (blkT s b) (marksOf [b.getD (n0 s) 0] (prodW s.1))) j) (fun j l => l = ((List.range j).filter fun i => (brT s b).getD i false).map (fun (i : Nat) => (i : Int)) ∧ l.length ≤ j) (fun x => x = some (listT (brT s b), ())) (fun n l hI => ?_) (fun n j l hj hI ih => ?_) (by omega) (by simp)
  · rw [spec_BlockReach.s6, if_neg (by simp [hbl]), hI.1]
    simp [listT, brT_length]
  · have hjb : j < b.length := by omega
    have hlj := hb.low j hjb
    have hrl := rchT_length (blkT s b) (marksOf [b.getD (n0 s) 0] (prodW s.1))
    have hbr : (brT s b).getD j false = (rchT (blkT s b) (marksOf [b.getD (n0 s) 0] (prodW s.1))).getD b[j].toNat false := by
      rw [getD_get (xs := brT s b) (by rw [brT_length]; exact hj)]
      simp [brT, -List.getD_eq_getElem?_getD, getD_get hjb]
    simp (disch := omega) only [spec_BlockReach.s6, gd_t, toNat_nat, getD_get hjb, w64_id]
    rw [if_pos (by rw [hbl]; simpa using hj), ← hbr]
    by_cases hb : (brT s b).getD j false = true
    · rw [if_pos hb, gd_t (by have := hI.2; simp; omega)]
      exact ih _ ⟨by rw [hI.1, List.range_succ, List.filter_append]; simp [hb, -List.getD_eq_getElem?_getD], by have := hI.2; simp; omega⟩
    · rw [if_neg hb]
      exact ih _ ⟨by rw [hI.1, List.range_succ, List.filter_append]; simp [hb, -List.getD_eq_getElem?_getD], by omega⟩
theorem listT_length (v : List Bool) : (listT v).length ≤ v.length := by
  have := List.length_filter_le (fun i => v.getD i false) (List.range v.length)
  simpa [listT] using this
end Go.Ev

set_option linter.unusedVariables false
set_option linter.unusedSimpArgs false
namespace Go.Ev

/-! ### where an expression is true -/
noncomputable def whereT (s : SY) (p : List TM) : List Bool := (List.range (prodW s.1)).map fun n => evalT p (stOf s.1 n) == 1
theorem whereT_length (s : SY) (p : List TM) : (whereT s p).length = prodW s.1 := by simp [whereT]
theorem whereT_getD {s : SY} {p : List TM} {n : Nat} (h : n < prodW s.1) : (whereT s p).getD n false = (evalT p (stOf s.1 n) == 1) := by
  rw [getD_get (by rw [whereT_length]; exact h)]; simp [whereT]
theorem where_eq {k : Nat} {s : SY} {p : List TM} (E : Env k s) (hp : KindIs p s.1.length 2) (hk : 1048577 < k) : impl_where.f k s p = some (whereT s p, ()) := by
  have hS := E.S
  have hsz := hS.sz
  rw [impl_where.s, E.iz]
  simp only [Option.bind_some]
  rw [gd_t (by omega), gd_t (by omega)]
  simp only [toNat_nat, List.length_replicate]
  refine for_post (m := prodW s.1) (l := fun n u j => impl_where.l3 k s p n u ((prodW s.1 : Nat) : Int) j) (fun j u => u.length = prodW s.1 ∧ ∀ x, x < j → u.getD x false = (whereT s p).getD x false) (fun x => x = some (whereT s p, ())) (fun n u hI => ?_) (fun n j u hj hI ih => ?_) (by omega) ⟨by simp, fun x hx => by omega⟩
  · rw [impl_where.s3, if_neg (by simp), list_ext_getD (d := false) hI.1 (whereT_length s p) hI.2]
  · have hul := hI.1
    have hst := (stOf_StP j hS.vp).range hS.vp
    simp only [impl_where.s3]
    rw [if_pos (by simpa using hj), stateAt_eq hS j (by omega) (by omega)]
    simp only [Option.bind_some]
    rw [eval_eq hp hst (by omega)]
    simp (disch := omega) only [Option.bind_some, gd_t, toNat_nat, w64_id]
    refine ih _ ⟨by rw [List.length_set]; exact hul, fun x hx => ?_⟩
    rw [getD_set' u j x _ false (by omega)]
    by_cases e : x = j
    · rw [if_pos e, e, whereT_getD hj]
    · rw [if_neg e]; exact hI.2 x (by omega)
theorem StatesWhere_eq {k : Nat} {s : SY} {p : List TM} (E : Env k s) (hp : KindIs p s.1.length 2) (hi : spec_l2Is.f k p (s.1.length : Int) 2 = some (true, ())) (hk : 1048577 < k) : spec_StatesWhere.f k s p = some (listT (whereT s p), ()) := by
  have hS := E.S
  have hsz := hS.sz
  rw [spec_StatesWhere.s, E.hv]
  simp only [Option.bind_some]
  rw [if_neg (by simp), hi]
  simp only [Option.bind_some]
  rw [if_neg (by simp)]
  refine for_post (m := prodW s.1) (l := fun n l j => spec_StatesWhere.l5 k s p n l j) (fun j l => l = ((List.range j).filter fun i => (whereT s p).getD i false).map (fun (i : Nat) => (i : Int)) ∧ l.length ≤ j) (fun x => x = some (listT (whereT s p), ())) (fun n l hI => ?_) (fun n j l hj hI ih => ?_) (by omega) (by simp)
  · rw [spec_StatesWhere.s5, E.hz]
    simp only [Option.bind_some]
    rw [if_neg (by simp), hI.1]
    simp [listT, whereT_length]
  · have hst := (stOf_StP j hS.vp).range hS.vp
    rw [spec_StatesWhere.s5, E.hz]
    simp only [Option.bind_some]
    rw [if_pos (by simpa using hj), l4State_eq hS E.hv j (by omega) (by omega)]
    simp only [Option.bind_some]
    rw [l2Last_eq hp hst (by omega)]
    simp (disch := omega) only [Option.bind_some, w64_id]
    rw [← whereT_getD hj]
    by_cases hb : (whereT s p).getD j false = true
    · rw [if_pos hb, gd_t (by have := hI.2; simp; omega)]
      exact ih _ ⟨by rw [hI.1, List.range_succ, List.filter_append]; simp [hb, -List.getD_eq_getElem?_getD], by have := hI.2; simp; omega⟩
    · rw [if_neg hb]
      exact ih _ ⟨by rw [hI.1, List.range_succ, List.filter_append]; simp [hb, -List.getD_eq_getElem?_getD], by omega⟩
theorem always_eq {k : Nat} {s : SY} {p : List TM} {v : List Bool} (E : Env k s) (hp : KindIs p s.1.length 2) (hv : v.length = prodW s.1) (hk : 1048577 < k) :
    ∃ b, impl_always.f k s p v = some (b, ()) ∧ (b = true ↔ true = true ∧ ∀ n, n < prodW s.1 → (v.getD n false = true → (whereT s p).getD n false = true)) := by
  have hsz := E.S.sz
  rw [impl_always.s, where_eq E hp hk, Option.bind_some, whereT_length]
  have hw := whereT_length s p
  refine check_loop (k := k) (l := fun n j => impl_always.l2 k v n (whereT s p) ((prodW s.1 : Nat) : Int) j) (m := prodW s.1) (fun n => v.getD n false = true → (whereT s p).getD n false = true) (fun n j hj hI => ?_) (fun n hI => ?_) (by omega)
  · simp (disch := omega) only [impl_always.s2, gd_t, toNat_nat, w64_id]
    rw [if_pos (by simpa using hj)]
    cases h1 : v.getD j false with
    | false => exact .inl ⟨fun h => (by cases h), by simp⟩
    | true =>
      cases h2 : (whereT s p).getD j false with
      | false => exact .inr ⟨fun h => (by have := h rfl; cases this), by simp⟩
      | true => exact .inl ⟨fun _ => rfl, by simp⟩
  · simp [impl_always.s2]

/-! ### sets without others -/
theorem asc_SetAt {p : List Int} (ha : Asc p) (n : Int) (hb : ∀ x ∈ p, 0 ≤ x ∧ x < n) : ∀ i, i < p.length → SetAt p n i := by
  intro i hi
  have := hb _ (List.getElem_mem hi)
  exact ⟨hi, ⟨by omega, by omega⟩, fun h0 => List.pairwise_iff_getElem.1 ha (i - 1) i (by omega) hi (by omega)⟩
theorem l4Set_eq {k : Nat} {p : List Int} (ha : Asc p) (hb : ∀ x ∈ p, 0 ≤ x ∧ x < 400) (hp : p.length ≤ 1048576) (hk : 1048576 < k) : spec_l4Set.f k p = some (true, ()) := by
  rw [spec_l4Set.s]
  refine for_post (m := p.length) (l := fun n (_ : Unit) j => spec_l4Set.l2 k p n j) (fun _ _ => True) (fun x => x = some (true, ())) (fun n _ _ => ?_) (fun n j _ hj _ ih => ?_) (s := ()) (by omega) trivial
  · simp [spec_l4Set.s2]
  · obtain ⟨h1, h2, h3⟩ := asc_SetAt ha 400 hb j hj
    simp (disch := omega) only [spec_l4Set.s2, gd_t, toNat_nat, getD_get hj, spec_in_eq, Option.bind_some, w64_id]
    rw [if_pos (by simpa using hj), decide_eq_true (show 0 ≤ p[j] ∧ p[j] ≤ 399 by omega), if_neg (by simp)]
    by_cases h0 : 0 < j
    · have h4 := h3 h0
      have hc : ((j : Int) - 1) = ((j - 1 : Nat) : Int) := by omega
      rw [if_pos (by simpa using h0)]
      simp (disch := omega) only [hc, gd_t, toNat_nat, getD_get (show j - 1 < p.length by omega)]
      rw [if_neg (by simp; omega)]
      exact ih () trivial
    · rw [if_neg (by simpa using h0)]
      exact ih () trivial
theorem SetWithout_eq {k : Nat} {a b : List Int} (ha : Asc a) (hb : Asc b) (ha' : ∀ x ∈ a, 0 ≤ x ∧ x < 400) (hb' : ∀ x ∈ b, 0 ≤ x ∧ x < 400) (hal : a.length ≤ 1048576) (hbl : b.length ≤ 1048576) (hk : 1048577 < k) :
    ∃ r, spec_SetWithout.f k a b = some (r, ()) ∧ Asc r ∧ ∀ x, x ∈ r ↔ x ∈ a ∧ x ∉ b := by
  rw [spec_SetWithout.s, spec_l4Mix.s, l4Set_eq ha ha' hal (by omega), l4Set_eq hb hb' hbl (by omega)]
  simp only [Option.bind_some]
  rw [if_neg (by simp), if_neg (by simp)]
  have m1 := l4Marks_eq (k := k) (p := a) (n := 400) ha' (by omega) hal hk
  have m2 := l4Marks_eq (k := k) (p := b) (n := 400) hb' (by omega) hbl hk
  rw [show ((400 : Nat) : Int) = 400 from rfl] at m1 m2
  rw [m1, m2]
  simp only [Option.bind_some]
  have l1 := marksOf_length a 400
  have l2 := marksOf_length b 400
  have key : spec_l4Mix.l7 k 2 k [] (marksOf a 400) (marksOf b 400) 0 = some (((List.range 400).filter fun i => (marksOf a 400).getD i false && !(marksOf b 400).getD i false).map (fun (i : Nat) => (i : Int)), ()) := by
    refine for_post (m := 400) (l := fun n l j => spec_l4Mix.l7 k 2 n l (marksOf a 400) (marksOf b 400) j) (fun j l => l = ((List.range j).filter fun i => (marksOf a 400).getD i false && !(marksOf b 400).getD i false).map (fun (i : Nat) => (i : Int)) ∧ l.length ≤ j) (fun x => x = _) (fun n l hI => ?_) (fun n j l hj hI ih => ?_) (by omega) (by simp)
    · rw [spec_l4Mix.s7, if_neg (by simp), hI.1]
    · rw [spec_l4Mix.s7, if_pos (by simp; omega), if_neg (c := ((2 : Int) == 0) = true) (by simp), if_neg (c := ((2 : Int) == 1) = true) (by simp), if_pos (c := ((2 : Int) == 2) = true) (by simp)]
      simp (disch := omega) only [gd_t, toNat_nat, w64_id]
      cases h1 : (marksOf a 400).getD j false with
      | false =>
        simp only [Bool.false_eq_true, if_false]
        exact ih _ ⟨by rw [hI.1, List.range_succ, List.filter_append]; simp [h1, -List.getD_eq_getElem?_getD], by omega⟩
      | true =>
        cases h2 : (marksOf b 400).getD j false with
        | true =>
          simp only [Bool.not_true, Bool.false_eq_true, if_false, if_true]
          exact ih _ ⟨by rw [hI.1, List.range_succ, List.filter_append]; simp [h1, h2, -List.getD_eq_getElem?_getD], by omega⟩
        | false =>
          simp only [Bool.not_false, if_true]
          rw [gd_t (by have := hI.2; simp; omega)]
          exact ih _ ⟨by rw [hI.1, List.range_succ, List.filter_append]; simp [h1, h2, -List.getD_eq_getElem?_getD], by have := hI.2; simp; omega⟩
  rw [key]
  refine ⟨_, rfl, ?_, fun x => ?_⟩
  · unfold Asc
    rw [List.pairwise_map]
    exact (List.Pairwise.filter _ List.pairwise_lt_range).imp fun h => by omega
  · simp only [List.mem_map, List.mem_filter, List.mem_range, Bool.and_eq_true, Bool.not_eq_true']
    constructor
    · rintro ⟨i, ⟨hi, h1, h2⟩, rfl⟩
      refine ⟨(marksOf_getD hi).1 h1, fun h => ?_⟩
      rw [(marksOf_getD hi).2 h] at h2; cases h2
    · rintro ⟨h1, h2⟩
      have hx := ha' x h1
      have e : ((x.toNat : Nat) : Int) = x := by omega
      refine ⟨x.toNat, ⟨by omega, (marksOf_getD (by omega)).2 (by rw [e]; exact h1), ?_⟩, e⟩
      cases h : (marksOf b 400).getD x.toNat false with
      | false => rfl
      | true => rw [marksOf_getD (by omega), e] at h; exact absurd h h2
theorem listT_bd {v : List Bool} {n : Nat} (h : v.length ≤ n) : ∀ x ∈ listT v, 0 ≤ x ∧ x < (n : Int) := by
  intro x hx
  obtain ⟨i, hi, _, rfl⟩ := mem_listT.1 hx
  omega
theorem mem_listT' {v : List Bool} {n : Nat} (hn : n < v.length) : ((n : Int) ∈ listT v ↔ v.getD n false = true) := by
  rw [mem_listT]
  constructor
  · rintro ⟨i, _, h, e⟩
    have : i = n := by omega
    subst this; exact h
  · exact fun h => ⟨n, hn, h, rfl⟩

/-! ### AlwaysByBlocks -/
theorem AlwaysByBlocks_eq {k : Nat} (hk : 3000000 < k) (s : SY) (b : List Int) (p : List TM) (hb : BigS s) (hs : SmS s) (hbl : b.length ≤ 1048576) (hp : p.length ≤ 1048576) : ∃ r, spec_AlwaysByBlocks.f k s b p = some (r, ()) ∧ impl_AlwaysByBlocks.f k s b p = some (r, ()) := by
  rw [spec_AlwaysByBlocks.s, impl_AlwaysByBlocks.s, impl_truthOf.s]
  obtain ⟨g, g1, g2, g3⟩ := isKind_eq (k := k) (by omega) p (s.1.length : Int) 2 (by omega) (by omega)
  rcases blocks_cases0 (k := k) (by omega) s b hb hs hbl with ⟨e1, i2 | ⟨E, hr⟩⟩ | ⟨e1, hb2, E, hB⟩
  · exact ⟨false, by rw [e1]; rfl, by rw [i2]; rfl⟩
  · refine ⟨false, by rw [e1]; rfl, ?_⟩
    rw [E.iv]
    simp only [Option.bind_some, if_true, g1]
    cases g == 2 with
    | false => rfl
    | true =>
      simp only [if_true, hr, Option.bind_some]
      rfl
  · rw [e1, E.iv]
    simp only [Option.bind_some, if_true, g1, g2]
    by_cases hg : g = 2
    · have hK := g3 hg
      have hi : spec_l2Is.f k p (s.1.length : Int) 2 = some (true, ()) := by rw [g2, hg]; rfl
      have hsz := E.S.sz
      have hbrl := brT_length s b
      have hwl := whereT_length s p
      obtain ⟨a, a1, a2⟩ := always_eq (v := brT s b) E hK (brT_length s b) (by omega)
      obtain ⟨r, r1, r2, r3⟩ := SetWithout_eq (k := k) (listT_asc (brT s b)) (listT_asc (whereT s p)) (listT_bd (n := 400) (by omega)) (listT_bd (n := 400) (by omega))
        (by have := listT_length (brT s b); omega) (by have := listT_length (whereT s p); omega) (by omega)
      rw [show (g == 2) = true by simp [hg]]
      simp only [if_true, hb2, Option.bind_some]
      rw [specReach_eq E hB e1 (by omega)]
      simp only [Option.bind_some]
      rw [StatesWhere_eq E hK hi (by omega)]
      simp only [Option.bind_some, r1]
      rw [blockReach_eq E hB hk]
      simp only [Option.bind_some, a1]
      refine ⟨_, rfl, ?_⟩
      have : a = ((r.length : Int) == 0) := by
        rw [Bool.eq_iff_iff, a2]
        have hnil : ((r.length : Int) == 0) = true ↔ r = [] := by
          rw [beq_iff_eq]
          constructor
          · intro h; exact List.length_eq_zero_iff.1 (by omega)
          · intro h; rw [h]; rfl
        rw [hnil, List.eq_nil_iff_forall_not_mem]
        constructor
        · rintro ⟨_, h⟩ x hx
          obtain ⟨h1, h2⟩ := (r3 x).1 hx
          obtain ⟨i, hi, hb, rfl⟩ := mem_listT.1 h1
          exact h2 ((mem_listT' (by omega)).2 (h i (by omega) hb))
        · intro h
          refine ⟨rfl, fun n hn hb => Classical.byContradiction fun hw => h (n : Int) ((r3 _).2 ⟨(mem_listT' (by omega)).2 hb, fun h' => hw ((mem_listT' (by omega)).1 h')⟩)⟩
      rw [this]
    · rw [show (g == 2) = false by simp [hg]]
      exact ⟨false, rfl, rfl⟩
theorem FnExactAlwaysByBlocks_pure {k : Nat} (hk : 3000000 < k) (s : SY) (b : List Int) (p : List TM) (hb : BigS s) (hbl : b.length < 9223372036854775808) (hp : p.length < 9223372036854775808) : laws_FnExactAlwaysByBlocks.f k s b p = some (true, ()) := by
  rw [laws_FnExactAlwaysByBlocks.s]
  obtain ⟨r, e, hr⟩ := szSystem_ok (k := k) (by omega) hb 1048576 (by omega) (by omega)
  rw [e]; simp only [Option.bind_some]
  rcases hr with hr | ⟨h1, h2, hs⟩
  · rw [if_pos (by simpa using hr)]
  rw [if_neg (by simpa using h1)]
  obtain ⟨r2, e2, hr2⟩ := szBlocks_ok (k := k) hbl r h1 h2
  rw [e2]; simp only [Option.bind_some]
  rcases hr2 with hr | ⟨g1, g2, hpl⟩
  · rw [if_pos (by simpa using hr)]
  rw [if_neg (by simpa using g1)]
  obtain ⟨r3, e3, hr3⟩ := szTermS_ok (k := k) hp r2 g1 (by omega)
  rw [e3]; simp only [Option.bind_some]
  rcases hr3 with hr | ⟨q1, q2, hpp⟩
  · rw [if_pos (by simpa using hr)]
  rw [if_neg (by simpa using q1)]
  have hk' : 1048576 < k := by omega
  obtain ⟨x, s1, s2⟩ := AlwaysByBlocks_eq hk s b p hb hs hpl hpp
  simp only [toSystem_eq hk' hs, toBlocks_eq hk' hpl, toTermS_eq hk' hpp, Option.bind_some, s1, s2, eqSystem_eq hk' hs, eqBlocks_eq hk' hpl, eqTermS_eq hk' hpp]
  simp
theorem FnExactAlwaysByBlocks_true (s : SY) (b : List Int) (p : List TM) (w0 : Wf sSY s) (w1 : Wf (.agg (.slice false I)) b) (w2 : Wf sTMs p) : ∃ k, laws_FnExactAlwaysByBlocks.f k s b p = some (true, ()) := by
  have hm := maxLen_eq
  exact ⟨3000001, FnExactAlwaysByBlocks_pure (by omega) s b p (BigS_of w0) (by have := w1.1; omega) (by have := w2.1; omega)⟩
end Go.Ev
