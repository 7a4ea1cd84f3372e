/- Plain mathematics on what the functions compute. -/
import Derived.Test.YtekfgacofojofaaGreatP1
import Derived.Test.YtekfgacofojofaaGreatEv4
import Derived.IntWalk
set_option linter.unusedVariables false
set_option linter.unusedSimpArgs false
namespace Go.Ev

/-! ### orders -/
def SpecOV (p : List Int) (v : Int) : Prop := (0 ≤ v ∧ v ≤ 12) ∧ (p.length : Int) = v ∧ ∀ i : Nat, (i : Int) < v → (i : Int) ∈ p
def ImplOV (p : List Int) (v : Int) : Prop := (0 ≤ v ∧ v ≤ 12) ∧ (p.length : Int) = v ∧ ∀ i (h : i < p.length), (0 ≤ p[i] ∧ p[i] ≤ v - 1) ∧ p[i] ∉ p.take i
open Classical in
theorem spec_OV_l (k : Nat) (p : List Int) (v : Nat) (hp : p.length < k) (hp2 : p.length < 4611686018427387904) (hv : v < 13) : ∀ (d n j : Nat), j + d = v → d < n → spec_OrderValid.l4 k p v n (j : Int) = some (decide (∀ i : Nat, j ≤ i → i < v → (i : Int) ∈ p), ())
  | 0, n + 1, j, h, hn => by
    simp only [spec_OrderValid.s4]
    rw [if_neg (by simp; omega), decide_eq_true (fun i h1 h2 => by omega)]
  | d + 1, n + 1, j, h, hn => by
    simp only [spec_OrderValid.s4, w64_nat (j := j) (by omega)]
    rw [if_pos (by simp; omega), l2Has_eq hp2 hp]
    simp only [Option.bind_some]
    by_cases e : (j : Int) ∈ p
    · rw [if_neg (by simp [e]), spec_OV_l k p v hp hp2 hv d n (j + 1) (by omega) (by omega)]
      congr 2
      rw [decide_eq_decide]
      constructor
      · intro h i h1 h2
        rcases Nat.lt_or_ge j i with h3 | h3
        · exact h i h3 h2
        · have : i = j := by omega
          rw [this]; exact e
      · exact fun h i h1 h2 => h i (by omega) h2
    · rw [if_pos (by simp [e]), decide_eq_false (fun h => e (h j (Nat.le_refl _) (by omega)))]
open Classical in
theorem spec_OV_eq {k : Nat} {p : List Int} {v : Int} (hp : p.length < k) (hk : 13 < k) (hp2 : p.length < 4611686018427387904) : spec_OrderValid.f k p v = some (decide (SpecOV p v), ()) := by
  rw [spec_OrderValid.s]
  rw [spec_in_eq]
  simp only [Option.bind_some]
  by_cases h1 : 0 ≤ v ∧ v ≤ 12
  · rw [if_neg (by simp [h1])]
    by_cases h2 : (p.length : Int) = v
    · rw [if_neg (by simp [h2])]
      obtain ⟨n, rfl⟩ : ∃ n : Nat, v = n := ⟨p.length, h2.symm⟩
      have := spec_OV_l k p n hp hp2 (by omega) n k 0 (by omega) (by omega)
      have this : spec_OrderValid.l4 k p n k 0 = _ := this
      rw [this]
      congr 2
      rw [decide_eq_decide]
      constructor
      · intro h; exact ⟨h1, h2, fun i hi => h i (by omega) (by omega)⟩
      · rintro ⟨_, _, h⟩ i _ hi; exact h i (by omega)
    · rw [if_pos (by simp [h2]), decide_eq_false (fun h => h2 h.2.1)]
  · rw [if_pos (by simp; omega), decide_eq_false (fun h => h1 h.1)]
open Classical in
theorem impl_OV_l (k : Nat) (p : List Int) (v : Int) (hv0 : 0 ≤ v) (hv : v ≤ 12) (hlen : (p.length : Int) = v) (hk : 13 < k) : ∀ (d n j : Nat), j + d = p.length → d < n → impl_OrderValid.l4 k p v n (j : Int) = some (decide (∀ i (h : i < p.length), j ≤ i → (0 ≤ p[i] ∧ p[i] ≤ v - 1) ∧ p[i] ∉ p.take i), ())
  | 0, n + 1, j, h, hn => by
    simp only [impl_OrderValid.s4]
    rw [if_neg (by simp; omega), decide_eq_true (fun i h1 h2 => by omega)]
  | d + 1, n + 1, j, h, hn => by
    have hj : j < p.length := by omega
    simp only [impl_OrderValid.s4, toNat_nat, w64_nat (j := j) (by omega)]
    rw [if_pos (by simp; omega), gd_t (by omega), gd_t (by omega), impl_in_eq, getD_get hj, w64_id (x := v - 1) (by omega) (by omega)]
    simp only [Option.bind_some]
    by_cases e : 0 ≤ p[j] ∧ p[j] ≤ v - 1
    · rw [if_neg (by simp [e]), gd_t (by omega), gd_t (by omega), gd_t (by omega)]
      have hz : (Int.toNat 0) = 0 := rfl
      rw [hz, List.drop_zero, Contains_eq (by rw [List.length_take]; omega) (by rw [List.length_take]; omega)]
      simp only [Option.bind_some]
      by_cases e2 : p[j] ∈ p.take j
      · rw [if_pos (by simpa using e2), decide_eq_false (fun h => (h j hj (Nat.le_refl _)).2 e2)]
      · rw [if_neg (by simpa using e2), impl_OV_l k p v hv0 hv hlen hk d n (j + 1) (by omega) (by omega)]
        congr 2
        rw [decide_eq_decide]
        constructor
        · intro h i h1 h2
          rcases Nat.lt_or_ge j i with h3 | h3
          · exact h i h1 h3
          · have : i = j := by omega
            subst this; exact ⟨e, e2⟩
        · exact fun h i h1 h2 => h i h1 (by omega)
    · rw [if_pos (by simp; omega), decide_eq_false (fun h => e (h j hj (Nat.le_refl _)).1)]
open Classical in
theorem impl_OV_eq {k : Nat} {p : List Int} {v : Int} (hk : 13 < k) : impl_OrderValid.f k p v = some (decide (ImplOV p v), ()) := by
  rw [impl_OrderValid.s]
  rw [impl_in_eq]
  simp only [Option.bind_some]
  by_cases h1 : 0 ≤ v ∧ v ≤ 12
  · rw [if_neg (by simp [h1])]
    by_cases h2 : (p.length : Int) = v
    · rw [if_neg (by simp [h2])]
      have := impl_OV_l k p v h1.1 h1.2 h2 hk p.length k 0 (by omega) (by omega)
      have this : impl_OrderValid.l4 k p v k 0 = _ := this
      rw [this]
      congr 2
      rw [decide_eq_decide]
      constructor
      · intro h; exact ⟨h1, h2, fun i hi => h i hi (by omega)⟩
      · rintro ⟨_, _, h⟩ i hi _; exact h i hi
    · rw [if_pos (by simp [h2]), decide_eq_false (fun h => h2 h.2.1)]
  · rw [if_pos (by simp; omega), decide_eq_false (fun h => h1 h.1)]

/-! as many numbers as places -/
theorem filter_split (l : List Int) (x : Int) : (l.filter (· ≠ x)).length + (l.filter (· = x)).length = l.length := by
  induction l with
  | nil => rfl
  | cons a l ih =>
    by_cases h : a = x
    · simp [h]; simp at ih; omega
    · simp [h]; simp at ih; omega
/-- A row that holds n numbers is at least so long; if it is no longer, none stands twice and it holds no other. -/
theorem pigeon : ∀ (n : Nat) (l : List Int), (∀ i : Nat, i < n → (i : Int) ∈ l) → n ≤ l.length ∧ (l.length = n → ∀ x ∈ l, (0 ≤ x ∧ x < n) ∧ (l.filter (· = x)).length = 1)
  | 0, l, _ => ⟨Nat.zero_le _, fun h x hx => by rw [List.length_eq_zero_iff.1 h] at hx; simp at hx⟩
  | n + 1, l, h => by
    obtain ⟨h1, h2⟩ := pigeon n (l.filter (· ≠ (n : Int))) (fun i hi => by
      rw [List.mem_filter]
      exact ⟨h i (by omega), by simp; omega⟩)
    have hs := filter_split l n
    have hn : 0 < (l.filter (· = (n : Int))).length := List.length_pos_of_mem (List.mem_filter.2 ⟨h n (by omega), by simp⟩)
    refine ⟨by omega, fun hl x hx => ?_⟩
    by_cases hxn : x = n
    · subst hxn
      exact ⟨⟨by omega, by omega⟩, by omega⟩
    · obtain ⟨g1, g2⟩ := h2 (by omega) x (List.mem_filter.2 ⟨hx, by simp [hxn]⟩)
      refine ⟨⟨g1.1, by omega⟩, ?_⟩
      rw [← g2]
      rw [List.filter_filter]
      congr 1
      apply List.filter_congr
      intro y hy
      by_cases hyx : y = x
      · simp [hyx, hxn]
      · simp [hyx]
theorem once_iff (l : List Int) : (∀ i (h : i < l.length), l[i] ∉ l.take i) → ∀ x ∈ l, (l.filter (· = x)).length = 1 := by
  intro h
  have key : ∀ n, n ≤ l.length → ∀ x, ((l.take n).filter (· = x)).length ≤ 1 := by
    intro n
    induction n with
    | zero => intro _ x; simp
    | succ n ih =>
      intro hn x
      have hn' : n < l.length := by omega
      rw [List.take_succ_eq_append_getElem hn', List.filter_append, List.length_append]
      by_cases e : l[n] = x
      · have h0 : (l.take n).filter (· = x) = [] := by
          rw [List.filter_eq_nil_iff]
          intro y hy
          have := h n hn'
          rw [e] at this
          intro e2
          simp at e2
          subst e2
          exact this hy
        rw [h0]; simp [e]
      · have := ih (by omega) x
        simp [e]
        simpa using this
  intro x hx
  have h1 := key l.length (Nat.le_refl _) x
  rw [List.take_length] at h1
  have h2 : 0 < (l.filter (· = x)).length := List.length_pos_of_mem (List.mem_filter.2 ⟨hx, by simp⟩)
  omega
theorem covers : ∀ (n : Nat) (l : List Int), l.length = n → (∀ x ∈ l, 0 ≤ x ∧ x < n) → (∀ x ∈ l, (l.filter (· = x)).length = 1) → ∀ i : Nat, i < n → (i : Int) ∈ l := by
  intro n
  -- how many of the first m numbers stand in a row
  have count : ∀ (m : Nat) (l : List Int), (∀ x ∈ l, 0 ≤ x ∧ x < m) → (∀ x ∈ l, (l.filter (· = x)).length = 1) → l.length ≤ m ∧ (l.length = m → ∀ i : Nat, i < m → (i : Int) ∈ l) := by
    intro m
    induction m with
    | zero =>
      intro l h _
      cases l with
      | nil => exact ⟨Nat.le_refl _, fun _ i hi => by omega⟩
      | cons x l => have := h x (by simp); omega
    | succ m ih =>
      intro l h h1
      have hs := filter_split l m
      have hle : (l.filter (· = (m : Int))).length ≤ 1 := by
        by_cases hm : (m : Int) ∈ l
        · rw [h1 _ hm]; exact Nat.le_refl _
        · have : l.filter (· = (m : Int)) = [] := by
            rw [List.filter_eq_nil_iff]
            intro y hy e
            simp at e
            subst e
            exact hm hy
          rw [this]; simp
      obtain ⟨g1, g2⟩ := ih (l.filter (· ≠ (m : Int))) (fun x hx => by
        rw [List.mem_filter] at hx
        have := h x hx.1
        have hne : x ≠ m := by simpa using hx.2
        omega) (fun x hx => by
        have hx' := List.mem_filter.1 hx
        rw [← h1 x hx'.1, List.filter_filter]
        congr 1
        apply List.filter_congr
        intro y hy
        by_cases hyx : y = x
        · have hne : x ≠ m := by simpa using hx'.2
          simp [hyx, hne]
        · simp [hyx])
      refine ⟨by omega, fun hl i hi => ?_⟩
      by_cases him : i = m
      · subst him
        have : 0 < (l.filter (· = (i : Int))).length := by omega
        obtain ⟨y, hy⟩ := List.exists_mem_of_length_pos this
        rw [List.mem_filter] at hy
        have : y = i := by simpa using hy.2
        rw [← this]; exact hy.1
      · have := g2 (by omega) i (by omega)
        exact (List.mem_filter.1 this).1
  exact fun l hl h h1 i hi => (count n l h h1).2 hl i hi

theorem OV_iff (p : List Int) (v : Int) : SpecOV p v ↔ ImplOV p v := by
  constructor
  · rintro ⟨h1, h2, h3⟩
    refine ⟨h1, h2, fun i hi => ?_⟩
    have hp := (pigeon p.length p (fun j hj => h3 j (by omega))).2 rfl p[i] (List.getElem_mem hi)
    refine ⟨by omega, fun hm => ?_⟩
    -- it would stand twice
    have hsp : p = p.take i ++ p[i] :: p.drop (i + 1) := by
      rw [← drop_get hi, List.take_append_drop]
    have h4 := hp.2
    generalize hy : p[i] = y at h4 hm hsp
    have : 0 < ((p.take i).filter (· = y)).length := List.length_pos_of_mem (List.mem_filter.2 ⟨hm, by simp⟩)
    have h5 : (p.filter (· = y)).length = ((p.take i).filter (· = y)).length + 1 + ((p.drop (i + 1)).filter (· = y)).length := by
      have := congrArg (fun l : List Int => (l.filter (· = y)).length) hsp
      rw [this]
      simp
      omega
    omega
  · rintro ⟨h1, h2, h3⟩
    refine ⟨h1, h2, fun i hi => ?_⟩
    refine covers p.length p rfl (fun x hx => ?_) (once_iff p (fun i hi => (h3 i hi).2)) i (by omega)
    obtain ⟨j, hj, rfl⟩ := List.getElem_of_mem hx
    have := (h3 j hj).1
    omega

end Go.Ev

set_option linter.unusedVariables false
set_option linter.unusedSimpArgs false
namespace Go.Ev

/-! ### exchanges -/
def exch (a p : List Int) : List Int := p.map fun i => a.getD i.toNat 0
theorem impl_exchanged_l (k : Nat) (a p : List Int) (hl : p.length = a.length) (hb : ∀ x ∈ p, 0 ≤ x ∧ x < (a.length : Int)) (hp : p.length < 4611686018427387904) : ∀ (d n j : Nat) (v : List Int), j + d = p.length → d < n → v.length = a.length →
    impl_exchanged.l3 k a p n v (j : Int) = some (v.take j ++ exch a (p.drop j), ())
  | 0, n + 1, j, v, h, hn, hv => by
    simp only [impl_exchanged.s3]
    rw [if_neg (by simp; omega), List.take_of_length_le (by omega), List.drop_eq_nil_of_le (by omega)]
    simp [exch]
  | d + 1, n + 1, j, v, h, hn, hv => by
    have hj : j < p.length := by omega
    have hx := hb p[j] (List.getElem_mem hj)
    simp only [impl_exchanged.s3, toNat_nat, w64_nat (j := j) (by omega), getD_get hj]
    rw [if_pos (by simp; omega), gd_t (by omega), gd_t (by omega), gd_t (by omega), gd_t (by omega), gd_t (by omega), gd_t (by omega), impl_exchanged_l k a p hl hb hp d n (j + 1) _ (by omega) (by omega) (by simpa using hv), take_set (by omega), drop_get hj, List.append_assoc]
    rfl
theorem impl_exchanged_eq {k : Nat} {a p : List Int} (hl : p.length = a.length) (hb : ∀ x ∈ p, 0 ≤ x ∧ x < (a.length : Int)) (hp : p.length ≤ 1099511627776) (hk : p.length < k) : impl_exchanged.f k a p = some (exch a p, ()) := by
  rw [impl_exchanged.s]
  rw [gd_t (by omega), gd_t (by omega)]
  have := impl_exchanged_l k a p hl hb (by omega) p.length k 0 (List.replicate ((a.length : Int)).toNat 0) (by omega) hk (by simp)
  simpa using this
theorem ImplOV.bounds {a p : List Int} (h : ImplOV p (a.length : Int)) : p.length = a.length ∧ ∀ x ∈ p, 0 ≤ x ∧ x < (a.length : Int) := by
  obtain ⟨_, h2, h3⟩ := h
  refine ⟨by omega, fun x hx => ?_⟩
  obtain ⟨i, hi, rfl⟩ := List.getElem_of_mem hx
  have := (h3 i hi).1
  omega
theorem length_exch (a p : List Int) : (exch a p).length = p.length := by simp [exch]

open Classical in
theorem spec_Exchanged_l (k : Nat) (a p : List Int) (hk : 13 < k) (hpk : p.length < k) (h : SpecOV p (a.length : Int)) : ∀ (d n j : Nat) (v : List Int), j + d = p.length → d < n → v.length = j →
    spec_Exchanged.l3 k a p n v (j : Int) = some (v ++ exch a (p.drop j), ())
  | 0, n + 1, j, v, hd, hn, hv => by
    simp only [spec_Exchanged.s3]
    rw [if_neg (by simp; omega), List.drop_eq_nil_of_le (by omega)]
    simp [exch]
  | d + 1, n + 1, j, v, hd, hn, hv => by
    have hj : j < p.length := by omega
    have h1 := h.1
    have h2 := h.2.1
    obtain ⟨_, hb⟩ := ((OV_iff _ _).1 h).bounds
    have hx := hb p[j] (List.getElem_mem hj)
    simp only [spec_Exchanged.s3, toNat_nat, w64_nat (j := j) (by omega), getD_get hj]
    rw [if_pos (by simp; omega), spec_OV_eq hpk hk (by omega)]
    simp only [Option.bind_some]
    rw [if_pos (by simp [h]), gd_t (by omega), gd_t (by omega), gd_t (by omega), gd_t (by omega), gd_t (by simp; omega), spec_Exchanged_l k a p hk hpk h d n (j + 1) _ (by omega) (by omega) (by simp [hv]), drop_get hj, List.append_assoc]
    rfl
open Classical in
theorem spec_Exchanged_eq {k : Nat} {a p : List Int} (hk : 13 < k) (hpk : p.length < k) (hp : p.length < 4611686018427387904) : spec_Exchanged.f k a p = some (if ImplOV p (a.length : Int) then exch a p else [], ()) := by
  rw [spec_Exchanged.s]
  by_cases h : SpecOV p (a.length : Int)
  · rw [if_pos ((OV_iff _ _).1 h)]
    have := spec_Exchanged_l k a p hk hpk h p.length k 0 [] (by omega) hpk rfl
    simpa using this
  · rw [if_neg (fun h' => h ((OV_iff _ _).2 h'))]
    obtain ⟨n, rfl⟩ : ∃ n, k = n + 1 := ⟨k - 1, by omega⟩
    simp only [spec_Exchanged.s3]
    by_cases h0 : (0 : Int) < (p.length : Int)
    · rw [if_pos (by simpa using h0), spec_OV_eq hpk hk hp]
      simp only [Option.bind_some]
      rw [if_neg (by simp [h])]
    · rw [if_neg (by simpa using h0)]

end Go.Ev

set_option linter.unusedVariables false
set_option linter.unusedSimpArgs false
namespace Go.Ev

/-! ### ascending lists of numbers -/
def Asc (l : List Int) : Prop := l.Pairwise (· < ·)
theorem asc_ext : ∀ {a b : List Int}, Asc a → Asc b → (∀ x, x ∈ a ↔ x ∈ b) → a = b
  | [], [], _, _, _ => rfl
  | [], y :: b, _, _, h => by have := (h y).2 (by simp); simp at this
  | x :: a, [], _, _, h => by have := (h x).1 (by simp); simp at this
  | x :: a, y :: b, ha, hb, h => by
    obtain ⟨a1, a2⟩ := List.pairwise_cons.1 ha
    obtain ⟨b1, b2⟩ := List.pairwise_cons.1 hb
    have hxy : x = y := by
      have h1 := (h x).1 (by simp)
      have h2 := (h y).2 (by simp)
      rcases List.mem_cons.1 h1 with e | h1
      · exact e
      · rcases List.mem_cons.1 h2 with e | h2
        · exact e.symm
        · have := a1 y h2
          have := b1 x h1
          omega
    subst hxy
    rw [asc_ext a2 b2 fun z => ?_]
    constructor
    · intro hz
      rcases List.mem_cons.1 ((h z).1 (by simp [hz])) with e | hz'
      · have := a1 z hz; omega
      · exact hz'
    · intro hz
      rcases List.mem_cons.1 ((h z).2 (by simp [hz])) with e | hz'
      · have := b1 z hz; omega
      · exact hz'
/-- The numbers marked. -/
def listT (v : List Bool) : List Int := ((List.range v.length).filter fun i => v.getD i false).map fun (i : Nat) => (i : Int)
theorem listT_asc (v : List Bool) : Asc (listT v) := by
  unfold Asc listT
  rw [List.pairwise_map]
  exact (List.Pairwise.filter _ List.pairwise_lt_range).imp fun h => by omega
theorem mem_listT {v : List Bool} {x : Int} : x ∈ listT v ↔ ∃ i : Nat, i < v.length ∧ v.getD i false = true ∧ (i : Int) = x := by
  simp only [listT, List.mem_map, List.mem_filter, List.mem_range, and_assoc]
theorem l4List_eq {k : Nat} (v : List Bool) (hv : v.length ≤ 1048576) (hk : 1048576 < k) : spec_l4List.f k v = some (listT v, ()) := by
  rw [spec_l4List.s]
  refine for_post (m := v.length) (l := fun n l j => spec_l4List.l3 k v n l j) (fun j l => l = ((List.range j).filter fun i => v.getD i false).map (fun (i : Nat) => (i : Int)) ∧ l.length ≤ j) (fun x => x = some (listT v, ())) (fun n l hI => ?_) (fun n j l hj hI ih => ?_) (by omega) (by simp)
  · rw [hI.1]; simp [spec_l4List.s3, listT]
  · simp (disch := omega) only [spec_l4List.s3, gd_t, toNat_nat, w64_id]
    rw [if_pos (by simpa using hj)]
    by_cases hb : v.getD j false = true
    · rw [if_pos hb, gd_t (by have := hI.2; simp; omega)]
      exact ih _ ⟨by rw [hI.1, List.range_succ, List.filter_append]; simp [hb, -List.getD_eq_getElem?_getD], by have := hI.2; simp; omega⟩
    · rw [if_neg hb]
      exact ih _ ⟨by rw [hI.1, List.range_succ, List.filter_append]; simp [hb, -List.getD_eq_getElem?_getD], by omega⟩
/-- A list of numbers below 400, put in order without repeats. -/
theorem l17Ordered_eq {k : Nat} (p : List Int) (h : ∀ x ∈ p, 0 ≤ x ∧ x < 400) (hp : p.length ≤ 1048576) (hk : 1048576 < k) : ∃ q, spec_l17Ordered.f k p = some (q, ()) ∧ Asc q ∧ ∀ x, x ∈ q ↔ x ∈ p := by
  rw [spec_l17Ordered.s, gd_t (by omega), gd_t (by omega), gd_t (by omega)]
  obtain ⟨N, hN⟩ : ∃ N : Nat, N = Int.toNat 400 := ⟨_, rfl⟩
  have hN4 : N = 400 := hN
  rw [← hN]
  clear hN
  refine for_post (m := p.length) (l := fun n v j => spec_l17Ordered.l3 k p n v j) (fun j v => v.length = N ∧ ∀ i : Nat, i < N → (v.getD i false = true ↔ (i : Int) ∈ p.take j)) (fun x => ∃ q, x = some (q, ()) ∧ Asc q ∧ ∀ x, x ∈ q ↔ x ∈ p) (fun n v hI => ?_) (fun n j v hj hI ih => ?_) (by omega) (by
    refine ⟨by simp, fun i hi => ?_⟩
    simp [List.getD_eq_getElem?_getD, List.getElem?_replicate, hi])
  · obtain ⟨h1, h2⟩ := hI
    rw [List.take_of_length_le (by omega)] at h2
    simp only [spec_l17Ordered.s3, l4List_eq v (by omega) hk]
    rw [if_neg (by simp)]
    refine ⟨_, rfl, listT_asc v, fun x => ?_⟩
    rw [mem_listT]
    constructor
    · rintro ⟨i, hi, hb, rfl⟩
      exact (h2 i (by omega)).1 hb
    · intro hx
      have := h x hx
      refine ⟨x.toNat, by omega, (h2 x.toNat (by omega)).2 ?_, by omega⟩
      rw [show ((x.toNat : Nat) : Int) = x by omega]; exact hx
  · obtain ⟨h1, h2⟩ := hI
    have hx := h _ (List.getElem_mem hj)
    simp (disch := omega) only [spec_l17Ordered.s3, gd_t, toNat_nat, getD_get hj, w64_id]
    rw [if_pos (by simpa using hj)]
    refine ih _ ⟨by simp [h1], fun i hi => ?_⟩
    rw [mem_take1 hj]
    by_cases e : p[j].toNat = i
    · have : (i : Int) = p[j] := by omega
      rw [← e, getD_set_self (by omega)]
      simp [e, this]
    · have : (i : Int) ≠ p[j] := by omega
      rw [List.getD_eq_getElem?_getD, List.getElem?_set_ne e, ← List.getD_eq_getElem?_getD, h2 i hi]
      simp [this]
theorem sort_asc {p : List Int} (h : p.Nodup) : Asc (p.mergeSort fun x y => decide (x ≤ y)) := by
  have h1 := List.pairwise_mergeSort (le := fun x y : Int => decide (x ≤ y)) (fun a b c h1 h2 => by simp at *; omega) (fun a b => by simp; omega) p
  have h2 : (p.mergeSort fun x y => decide (x ≤ y)).Nodup := (List.mergeSort_perm p _).nodup_iff.2 h
  unfold Asc
  exact (h1.and h2).imp fun ⟨h1, h2⟩ => by
    have h1 := of_decide_eq_true h1
    have h2 := h2
    omega
end Go.Ev

set_option linter.unusedVariables false
set_option linter.unusedSimpArgs false
namespace Go.Ev

/-! ### a state with its variables exchanged -/
/-- The variables that are exchanged are alike. -/
def LikeAt (s : SY) (p : List Int) (j : Nat) : Prop := ∃ (h : j < p.length) (h1 : p[j].toNat < s.1.length) (h2 : j < s.1.length), s.1[p[j].toNat] = s.1[j]
theorem exch_get {a p : List Int} {j : Nat} (h : j < p.length) (hb : p[j].toNat < a.length) : (exch a p)[j]'(by rw [length_exch]; exact h) = a[p[j].toNat] := by
  simp [exch, hb]
theorem exch_StP {s : SY} {p st : List Int} (hO : ImplOV p (s.1.length : Int)) (hL : ∀ j, j < p.length → LikeAt s p j) (hst : StP s.1 st) : StP s.1 (exch st p) := by
  obtain ⟨_, hl, hp⟩ := hO
  have hsl := hst.length
  have hst := (StP_iff.1 hst).2
  refine StP_iff.2 ⟨by rw [length_exch]; omega, fun i h h' => ?_⟩
  have hi : i < p.length := by rw [length_exch] at h'; exact h'
  have hb := (hp i hi).1
  obtain ⟨_, h1, h2, e⟩ := hL i hi
  rw [exch_get hi (by omega), ← e]
  exact hst _ h1 (by omega)
theorem exch_inj {p a b : List Int} {n : Nat} (hO : SpecOV p (n : Int)) (ha : a.length = n) (hb : b.length = n) (h : exch a p = exch b p) : a = b := by
  apply List.ext_getElem (by omega)
  intro i h1 h2
  obtain ⟨_, hl, hc⟩ := hO
  obtain ⟨j, hj, e⟩ := List.mem_iff_getElem.1 (hc i (by omega))
  have ej : p[j].toNat = i := by omega
  have := List.getElem_of_eq h (i := j) (by rw [length_exch]; exact hj)
  rw [exch_get hj (by omega), exch_get hj (by omega)] at this
  simpa [ej] using this
noncomputable def imgT (s : SY) (p : List Int) (n : Nat) : Nat := noOf s.1 (exch (stOf s.1 n) p)
theorem stOf_inj {vs : List VA} (hv : ∀ v ∈ vs, VarP v) {n m : Nat} (hn : n < prodW vs) (hm : m < prodW vs) (h : stOf vs n = stOf vs m) : n = m := by
  have h1 := noOf_stOf n hv
  have h2 := noOf_stOf m hv
  rw [h] at h1
  rw [Nat.mod_eq_of_lt hn] at h1
  rw [Nat.mod_eq_of_lt hm] at h2
  omega
theorem noOf_inj {vs : List VA} (hv : ∀ v ∈ vs, VarP v) {a b : List Int} (ha : StP vs a) (hb : StP vs b) (h : noOf vs a = noOf vs b) : a = b := by
  rw [← stOf_noOf ha hv, ← stOf_noOf hb hv, h]
theorem imgT_lt {s : SY} {p : List Int} (hS : SysP s) (hO : ImplOV p (s.1.length : Int)) (hL : ∀ j, j < p.length → LikeAt s p j) (n : Nat) : imgT s p n < prodW s.1 := noOf_lt (exch_StP hO hL (stOf_StP n hS.vp)) hS.vp
theorem imgT_inj {s : SY} {p : List Int} (hS : SysP s) (hO : ImplOV p (s.1.length : Int)) (hL : ∀ j, j < p.length → LikeAt s p j) {n m : Nat} (hn : n < prodW s.1) (hm : m < prodW s.1) (h : imgT s p n = imgT s p m) : n = m := by
  have h1 := noOf_inj hS.vp (exch_StP hO hL (stOf_StP n hS.vp)) (exch_StP hO hL (stOf_StP m hS.vp)) h
  exact stOf_inj hS.vp hn hm (exch_inj ((OV_iff _ _).2 hO) (stOf_length _ _) (stOf_length _ _) h1)
theorem SortedL.nodup {l : List (List Int)} (h : SortedL l) : l.Nodup := h.imp fun {a b} h e => by
  subst e
  have : cmpL a a = 0 := cmpL_zero.2 rfl
  omega
theorem rowT_mem {s : SY} {n : Nat} {x : Int} (h : x ∈ rowT s n) (hS : SysP s) : 0 ≤ x ∧ x < (prodW s.1 : Int) := by
  simp only [rowT, List.mem_map] at h
  obtain ⟨y, hy, rfl⟩ := h
  have := noOf_lt ((nextT_facts s _).2.1 y hy) hS.vp
  omega
theorem rowT_nodup {s : SY} (hS : SysP s) (n : Nat) : (rowT s n).Nodup := by
  obtain ⟨h1, h2, _⟩ := nextT_facts s (stOf s.1 n)
  unfold rowT
  rw [List.Nodup, List.pairwise_map]
  exact List.Pairwise.imp_of_mem (fun {a b} ha hb hne e => hne (noOf_inj hS.vp (h2 a ha) (h2 b hb) (by omega))) h1.nodup
/-- The images of what comes next, in order. -/
noncomputable def imgsT (s : SY) (p : List Int) (n : Nat) : List Int := (rowT s n).map fun x => ((imgT s p x.toNat : Nat) : Int)
noncomputable def ordT (s : SY) (p : List Int) (n : Nat) : List Int := (imgsT s p n).mergeSort fun x y => decide (x ≤ y)
theorem imgsT_nodup {s : SY} {p : List Int} (hS : SysP s) (hO : ImplOV p (s.1.length : Int)) (hL : ∀ j, j < p.length → LikeAt s p j) (n : Nat) : (imgsT s p n).Nodup := by
  unfold imgsT
  rw [List.Nodup, List.pairwise_map]
  refine List.Pairwise.imp_of_mem (fun {a b} ha hb hne e => hne ?_) (rowT_nodup hS n)
  have h1 := rowT_mem ha hS
  have h2 := rowT_mem hb hS
  have := imgT_inj hS hO hL (n := a.toNat) (m := b.toNat) (by omega) (by omega) (by omega)
  omega
def SymAt (s : SY) (p : List Int) (n : Nat) : Prop := ordT s p n = rowT s (imgT s p n)
theorem steps_get {s : SY} {n : Nat} (h : n < (stepsT s).length) : (stepsT s)[n] = rowT s n := by simp [stepsT]
theorem Equal_eq {k : Nat} (a b : List Int) (ha : a.length ≤ 1048576) (hk : 1048576 < k) : slices_Equal_int_int.f k a b = some (decide (a = b), ()) := by
  rw [slices_Equal_int_int.s]
  by_cases hl : a.length = b.length
  · rw [if_neg (by simp [hl])]
    refine for_post (m := a.length) (l := fun n (_ : Unit) j => slices_Equal_int_int.l4 k a b n j) (I := fun j _ => a.take j = b.take j) (Q := fun r => r = some (decide (a = b), ())) (fun n s hI => ?_) (fun n j s hj hI ih => ?_) (s := ()) (by omega) (by simp)
    · rw [List.take_of_length_le (by omega), List.take_of_length_le (by omega)] at hI
      simp [slices_Equal_int_int.s4, hI]
    · simp (disch := omega) only [slices_Equal_int_int.s4, getD_get, w64_id, toNat_nat, gd_t]
      rw [if_pos (by simpa using hj)]
      by_cases he : a[j] = b[j]
      · rw [if_neg (by simpa using he)]
        exact ih () (by rw [List.take_succ_eq_append_getElem hj, List.take_succ_eq_append_getElem (by omega), hI, he])
      · rw [if_pos (by simpa using he)]
        have : a ≠ b := fun e => by subst e; exact he rfl
        simp [this]
  · rw [if_pos (by simp; omega)]
    have : a ≠ b := fun e => by subst e; exact hl rfl
    simp [this]
theorem image_eq {k : Nat} {s : SY} {p : List Int} (hS : SysP s) (hv : spec_SystemValid.f k s = some (true, ())) (hO : ImplOV p (s.1.length : Int)) (hL : ∀ j, j < p.length → LikeAt s p j) (n : Nat) (hn : n ≤ 1048576) (hk : 1048576 < k) :
    spec_l27Image.f k s n p = some (((imgT s p n : Nat) : Int), ()) := by
  have h5 := hS.v5
  have hpl := hO.2.1
  have hst := stOf_StP n hS.vp
  rw [spec_l27Image.s, l4State_eq hS hv n hn hk]
  simp only [Option.bind_some]
  rw [spec_Exchanged_eq (by omega) (by omega) (by omega), if_pos (by rw [stOf_length]; exact hO)]
  simp only [Option.bind_some]
  rw [l4Number_eq hS (exch_StP hO hL hst) (by omega)]
  rfl
theorem imgsT_get {s : SY} {p : List Int} {n i : Nat} (h : i < (rowT s n).length) : (imgsT s p n)[i]'(by simpa [imgsT] using h) = ((imgT s p (rowT s n)[i].toNat : Nat) : Int) := by simp [imgsT]
end Go.Ev

set_option linter.unusedVariables false
set_option linter.unusedSimpArgs false
namespace Go.Ev
theorem VA_ext {a b : VA} (h : (a.1 == b.1 && (a.2.1 == b.2.1 && a.2.2 == b.2.2)) = true) : a = b := by
  obtain ⟨x, y, z⟩ := a
  obtain ⟨x', y', z'⟩ := b
  simp at h
  simp [h]
theorem VA_ne {a b : VA} (h : a ≠ b) : (a.1 == b.1 && (a.2.1 == b.2.1 && a.2.2 == b.2.2)) = false := by
  cases e : (a.1 == b.1 && (a.2.1 == b.2.1 && a.2.2 == b.2.2))
  · rfl
  · exact absurd (VA_ext e) h
theorem VA_self (a : VA) : (a.1 == a.1 && (a.2.1 == a.2.1 && a.2.2 == a.2.2)) = true := by simp
theorem l27Vars_eq {k : Nat} {s : SY} {p : List Int} (hS : SysP s) (hO : ImplOV p (s.1.length : Int)) (hk : 1048576 < k) : ∃ b, spec_l27Vars.f k s p = some (b, ()) ∧ (b = true ↔ true = true ∧ ∀ j, j < p.length → LikeAt s p j) := by
  have h5 := hS.v5
  have hpl := hO.2.1
  rw [spec_l27Vars.s]
  refine check_loop (l := fun n j => spec_l27Vars.l2 k s p n j) (m := p.length) (LikeAt s p) (fun n j hj hI => ?_) (fun n hI => ?_) (by omega)
  · have hb := (hO.2.2 j hj).1
    have h1 : p[j].toNat < s.1.length := by omega
    have h2 : j < s.1.length := by omega
    simp (disch := omega) only [spec_l27Vars.s2, gd_t, toNat_nat, getD_get hj, getD_get h1, getD_get h2, w64_id]
    rw [if_pos (by simpa using hj)]
    by_cases e : s.1[p[j].toNat] = s.1[j]
    · refine .inl ⟨⟨hj, h1, h2, e⟩, ?_⟩
      rw [e, VA_self]; rfl
    · refine .inr ⟨fun ⟨_, _, _, h⟩ => e h, ?_⟩
      rw [VA_ne e]; rfl
  · simp [spec_l27Vars.s2]
theorem l27Is_eq {k : Nat} {s : SY} {p : List Int} (hS : SysP s) (hv : spec_SystemValid.f k s = some (true, ())) (hO : ImplOV p (s.1.length : Int)) (hL : ∀ j, j < p.length → LikeAt s p j) (hk : 1048577 < k) :
    ∃ b, spec_l27Is.l4 k s (stepsT s) p k 0 = some (b, ()) ∧ (b = true ↔ true = true ∧ ∀ n, n < prodW s.1 → SymAt s p n) := by
  have hsz := hS.sz
  have h8 := hS.r8
  refine check_loop (l := fun n j => spec_l27Is.l4 k s (stepsT s) p n j) (m := prodW s.1) (SymAt s p) (fun n j hj hI => ?_) (fun n hI => ?_) (by omega)
  · have hjl : j < (stepsT s).length := by rw [stepsT_length]; exact hj
    have hrow : (stepsT s).getD j [] = rowT s j := by rw [getD_get hjl, steps_get]
    have hrl : (rowT s j).length ≤ 8 := by have := (nextT_facts s (stOf s.1 j)).2.2; simp [rowT]; omega
    have himg := imgT_lt hS hO hL j
    have hil : imgT s p j < (stepsT s).length := by rw [stepsT_length]; exact himg
    simp only [spec_l27Is.s4]
    rw [if_pos (by simpa using hjl)]
    -- the images
    have key : spec_l27Is.l8 k n s (stepsT s) p (j : Int) k [] 0 = (if ordT s p j = rowT s (imgT s p j) then spec_l27Is.l4 k s (stepsT s) p n ((j : Int) + 1) else some (false, ())) := by
      refine push_loop (l := fun q v i => spec_l27Is.l8 k n s (stepsT s) p (j : Int) q v i) (ys := imgsT s p j) (m := (rowT s j).length) (by simp [imgsT]) (fun q i v hi hvl => ?_) (fun q => ?_) (by omega)
      · have hm := rowT_mem (List.getElem_mem hi) hS
        have e : (rowT s j)[i] = (((rowT s j)[i].toNat : Nat) : Int) := by omega
        simp (disch := omega) only [spec_l27Is.s8, gd_t, toNat_nat, hrow, getD_get hi, w64_id]
        rw [if_pos (by simpa using hi)]
        have hi2 := image_eq hS hv hO hL (rowT s j)[i].toNat (by omega) (show 1048576 < k by omega)
        rw [← e] at hi2
        rw [hi2]
        simp only [Option.bind_some]
        rw [gd_t (by simp; omega), imgsT_get hi]
      · obtain ⟨r, r1, r2, r3⟩ := l17Ordered_eq (k := k) (imgsT s p j) (fun x hx => by
          simp only [imgsT, List.mem_map] at hx
          obtain ⟨y, _, rfl⟩ := hx
          have := imgT_lt hS hO hL y.toNat
          omega) (by simp [imgsT]; omega) (by omega)
        have hr : r = ordT s p j := asc_ext r2 (sort_asc (imgsT_nodup hS hO hL j)) fun x => by
          rw [r3]
          exact ((List.mergeSort_perm (imgsT s p j) fun x y => decide (x ≤ y)).mem_iff).symm
        have hol : (ordT s p j).length ≤ 8 := by unfold ordT; rw [List.length_mergeSort]; simp [imgsT]; exact hrl
        simp (disch := omega) only [spec_l27Is.s8, gd_t, toNat_nat, hrow, w64_id]
        rw [if_neg (by simp), r1]
        simp only [Option.bind_some]
        rw [image_eq hS hv hO hL j (by omega) (by omega)]
        simp (disch := omega) only [Option.bind_some, gd_t, toNat_nat, getD_get hil, steps_get]
        rw [l2Same_eq r _ (by rw [hr]; omega) (by omega), hr]
        simp only [Option.bind_some]
        by_cases e : ordT s p j = rowT s (imgT s p j)
        · rw [if_pos e]; simp [e]
        · rw [if_neg e]; simp [e]
    rw [key]
    by_cases e : SymAt s p j
    · exact .inl ⟨e, if_pos e⟩
    · exact .inr ⟨e, if_neg e⟩
  · simp only [spec_l27Is.s4]
    rw [if_neg (by simp [stepsT_length])]
/-- The images of all states. -/
noncomputable def allImg (s : SY) (p : List Int) : List Int := (List.range (prodW s.1)).map fun n => ((imgT s p n : Nat) : Int)
theorem allImg_length (s : SY) (p : List Int) : (allImg s p).length = prodW s.1 := by simp [allImg]
theorem allImg_get {s : SY} {p : List Int} {n : Nat} (h : n < prodW s.1) : (allImg s p).getD n 0 = ((imgT s p n : Nat) : Int) := by
  rw [getD_get (by rw [allImg_length]; exact h)]; simp [allImg]
theorem isSym14 {k : Nat} {s : SY} {p : List Int} (hS : SysP s) (hO : ImplOV p (s.1.length : Int)) (hL : ∀ j, j < p.length → LikeAt s p j) (hk : 1048577 < k) :
    ∃ b, impl_isSymmetry.l14 k (stepsT s) (allImg s p) k 0 = some (b, ()) ∧ (b = true ↔ true = true ∧ ∀ n, n < prodW s.1 → SymAt s p n) := by
  have hsz := hS.sz
  have h8 := hS.r8
  have hal := allImg_length s p
  refine check_loop (l := fun n j => impl_isSymmetry.l14 k (stepsT s) (allImg s p) n j) (m := prodW s.1) (SymAt s p) (fun n j hj hI => ?_) (fun n hI => ?_) (by omega)
  · have hjl : j < (stepsT s).length := by rw [stepsT_length]; exact hj
    have hrow : (stepsT s).getD j [] = rowT s j := by rw [getD_get hjl, steps_get]
    have hrl : (rowT s j).length ≤ 8 := by have := (nextT_facts s (stOf s.1 j)).2.2; simp [rowT]; omega
    have himg := imgT_lt hS hO hL j
    have hil : imgT s p j < (stepsT s).length := by rw [stepsT_length]; exact himg
    simp (disch := omega) only [impl_isSymmetry.s14, gd_t]
    rw [if_pos (by simpa using hjl)]
    have key : impl_isSymmetry.l18 k n (stepsT s) (j : Int) (allImg s p) k [] 0 = (if ordT s p j = rowT s (imgT s p j) then impl_isSymmetry.l14 k (stepsT s) (allImg s p) n ((j : Int) + 1) else some (false, ())) := by
      refine push_loop (l := fun q v i => impl_isSymmetry.l18 k n (stepsT s) (j : Int) (allImg s p) q v i) (ys := imgsT s p j) (m := (rowT s j).length) (by simp [imgsT]) (fun q i v hi hvl => ?_) (fun q => ?_) (by omega)
      · have hm := rowT_mem (List.getElem_mem hi) hS
        simp (disch := omega) only [impl_isSymmetry.s18, gd_t, toNat_nat, hrow, getD_get hi, w64_id]
        rw [if_pos (by simpa using hi), gd_t (by simp; omega), imgsT_get hi, allImg_get (by omega)]
      · have hol : (ordT s p j).length ≤ 8 := by unfold ordT; rw [List.length_mergeSort]; simp [imgsT]; exact hrl
        simp (disch := omega) only [impl_isSymmetry.s18, gd_t, toNat_nat, hrow, w64_id, slices_Sort_int_int.s]
        rw [if_neg (by simp), gd_t (by unfold LIM; simp [imgsT]; omega)]
        simp only [Option.bind_some]
        rw [show ((imgsT s p j).mergeSort fun x y => decide (x ≤ y)) = ordT s p j from rfl]
        simp (disch := omega) only [allImg_get hj, gd_t, toNat_nat, getD_get hil, steps_get]
        rw [Equal_eq _ _ (by omega) (by omega)]
        simp only [Option.bind_some]
        by_cases e : ordT s p j = rowT s (imgT s p j)
        · rw [if_pos e]; simp [e]
        · rw [if_neg e]; simp [e]
    rw [key]
    by_cases e : SymAt s p j
    · exact .inl ⟨e, if_pos e⟩
    · exact .inr ⟨e, if_neg e⟩
  · simp only [impl_isSymmetry.s14]
    rw [if_neg (by simp [stepsT_length])]
theorem isSym9 {k : Nat} {s : SY} {p : List Int} (hS : SysP s) (hO : ImplOV p (s.1.length : Int)) (hL : ∀ j, j < p.length → LikeAt s p j) (hk : 1048577 < k) :
    impl_isSymmetry.l9 k s (stepsT s) p k (List.replicate (prodW s.1) 0) 0 = impl_isSymmetry.l14 k (stepsT s) (allImg s p) k 0 := by
  have hsz := hS.sz
  have h5 := hS.v5
  have hpl := hO.2.1
  refine for_post (m := prodW s.1) (l := fun n v j => impl_isSymmetry.l9 k s (stepsT s) p n v j) (fun j v => v.length = prodW s.1 ∧ v.take j = (allImg s p).take j) (fun x => x = _) (fun n v hI => ?_) (fun n j v hj hI ih => ?_) (by omega) (by simp)
  · have h2 := hI.2
    rw [List.take_of_length_le (by omega), List.take_of_length_le (by rw [allImg_length]; omega)] at h2
    rw [h2]
    simp only [impl_isSymmetry.s9]
    rw [if_neg (by simp [stepsT_length])]
  · have hst := stOf_StP j hS.vp
    simp (disch := omega) only [impl_isSymmetry.s9, stateAt_eq hS j (by omega) (show 1000 < k by omega), Option.bind_some]
    rw [if_pos (by simp [stepsT_length]; omega), impl_exchanged_eq (by rw [stOf_length]; omega) (fun x hx => by
      obtain ⟨i, hi, rfl⟩ := List.mem_iff_getElem.1 hx
      have := (hO.2.2 i hi).1
      rw [stOf_length]; omega) (by omega) (by omega)]
    simp only [Option.bind_some]
    rw [number_eq hS (exch_StP hO hL hst) (by omega)]
    simp (disch := omega) only [Option.bind_some, gd_t, toNat_nat, w64_id]
    exact ih _ ⟨by simp [hI.1], by rw [take_set (by omega), hI.2, List.take_succ_eq_append_getElem (by rw [allImg_length]; exact hj)]; simp [allImg, imgT]⟩
open Classical in
theorem isSymmetry_eq {k : Nat} {s : SY} {p : List Int} (hS : SysP s) (hO : ImplOV p (s.1.length : Int)) (hk : 1048577 < k) :
    ∃ b, impl_isSymmetry.f k s (stepsT s) p = some (b, ()) ∧ (b = true ↔ (∀ j, j < p.length → LikeAt s p j) ∧ ∀ n, n < prodW s.1 → SymAt s p n) := by
  have h5 := hS.v5
  have hsz := hS.sz
  have hpl := hO.2.1
  rw [impl_isSymmetry.s]
  have := check_loop (l := fun n j => impl_isSymmetry.l2 k s (stepsT s) p n j) (m := p.length) (b0 := decide (∀ n, n < prodW s.1 → SymAt s p n)) (r := ()) (LikeAt s p) (fun n j hj hI => ?_) (fun n hI => ?_) (k := k) (by omega)
  · obtain ⟨b, h1, h2⟩ := this
    exact ⟨b, h1, by rw [h2, decide_eq_true_iff]; exact And.comm⟩
  · have hb := (hO.2.2 j hj).1
    have h1 : p[j].toNat < s.1.length := by omega
    have h2 : j < s.1.length := by omega
    simp (disch := omega) only [impl_isSymmetry.s2, gd_t, toNat_nat, getD_get hj, getD_get h1, getD_get h2, w64_id]
    rw [if_pos (by simpa using hj)]
    by_cases e : s.1[p[j].toNat] = s.1[j]
    · refine .inl ⟨⟨hj, h1, h2, e⟩, ?_⟩
      rw [e, VA_self]; rfl
    · refine .inr ⟨fun ⟨_, _, _, h⟩ => e h, ?_⟩
      rw [VA_ne (fun h => e h.symm)]; rfl
  · simp only [impl_isSymmetry.s2, stepsT_length, toNat_nat]
    rw [if_neg (by simp), gd_t (by omega), gd_t (by omega), isSym9 hS hO hI hk]
    obtain ⟨b, h1, h2⟩ := isSym14 hS hO hI hk
    rw [h1]
    have : b = decide (∀ n, n < prodW s.1 → SymAt s p n) := by
      rw [Bool.eq_iff_iff, h2, decide_eq_true_iff]; simp
    rw [this]
theorem IsSymmetry_eq {k : Nat} (hk : 1048577 < k) (s : SY) (p : List Int) (hb : BigS s) (hs : SmS s) (hp : p.length ≤ 1048576) : ∃ b, spec_IsSymmetry.f k s p = some (b, ()) ∧ impl_IsSymmetry.f k s p = some (b, ()) := by
  classical
  obtain ⟨V, z, m1, m2, m3, m4, m5⟩ := sys_eq (k := k) (by omega) s hb hs
  rw [spec_IsSymmetry.s, impl_IsSymmetry.s, m1, m2]
  simp only [Option.bind_some]
  cases V with
  | false => exact ⟨false, rfl, rfl⟩
  | true =>
    obtain ⟨_, hz, hS⟩ := m4 rfl
    rw [if_pos rfl] at m5
    rw [hz] at m3 m5
    rw [spec_OV_eq (by omega) (by omega) (by omega), impl_OV_eq (by omega)]
    simp only [Option.bind_some, OV_iff]
    by_cases hO : ImplOV p (s.1.length : Int)
    · simp only [decide_eq_true hO, if_true]
      rw [l4Steps_eq hS m1 m5 (by omega), nexts_eq hS m3 (by omega)]
      simp only [Option.bind_some]
      obtain ⟨b, i1, i2⟩ := isSymmetry_eq (k := k) hS hO hk
      obtain ⟨c, c1, c2⟩ := l27Vars_eq (k := k) hS hO (by omega)
      rw [i1, spec_l27Is.s, c1]
      simp only [Option.bind_some]
      cases c with
      | false =>
        have : b = false := by
          cases b with
          | false => rfl
          | true => have := c2.2 ⟨rfl, (i2.1 rfl).1⟩; cases this
        subst this
        exact ⟨false, rfl, rfl⟩
      | true =>
        have hL := (c2.1 rfl).2
        obtain ⟨d, d1, d2⟩ := l27Is_eq hS m1 hO hL hk
        have : b = d := by
          rw [Bool.eq_iff_iff, i2, d2]
          simp [hL]
          intro _ j hj
          exact hL j hj
        subst this
        refine ⟨b, ?_, rfl⟩
        simp [d1]
    · simp only [decide_eq_false hO]
      exact ⟨false, rfl, rfl⟩
theorem FnExactIsSymmetry_pure {k : Nat} (hk : 1048577 < k) (s : SY) (p : List Int) (hb : BigS s) : laws_FnExactIsSymmetry.f k s p = some (true, ()) := by
  rw [laws_FnExactIsSymmetry.s]
  by_cases hp1 : p.length ≤ 1048576
  · rw [if_neg (by simp; omega)]
    obtain ⟨r, e, hr⟩ := szSystem_ok (k := k) (by omega) hb 1048576 (by omega) (by omega)
    rw [e]; simp only [Option.bind_some]
    rcases hr with hr | ⟨h1, h2, hs⟩
    · rw [if_pos (by simpa using hr)]
    rw [if_neg (by simpa using h1)]
    obtain ⟨b, b1, b2⟩ := IsSymmetry_eq hk s p hb hs hp1
    have ti : laws_toIntS.f k p = some (p, ()) := toIntS_eq (by omega) (by omega)
    have ei : laws_eqIntS.f k p p = some (true, ()) := by rw [eqIntS_eq (by omega) (by omega)]; simp
    simp only [toSystem_eq (show 1048576 < k by omega) hs, ti, ei, Option.bind_some, b1, b2, eqSystem_eq (show 1048576 < k by omega) hs]
    simp
  · rw [if_pos (by simp; omega)]
theorem FnExactIsSymmetry_true (s : SY) (p : List Int) (w0 : Wf sSY s) (w1 : Wf (.slice false I) p) : ∃ k, laws_FnExactIsSymmetry.f k s p = some (true, ()) :=
  ⟨1048578, FnExactIsSymmetry_pure (by omega) s p (BigS_of w0)⟩
end Go.Ev
