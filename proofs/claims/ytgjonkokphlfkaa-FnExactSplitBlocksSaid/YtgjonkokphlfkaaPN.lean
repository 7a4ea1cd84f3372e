/- Plain mathematics on what the functions compute. -/
import Derived.Test.YtgjonkokphlfkaaPL
import Derived.Test.YtgjonkokphlfkaaPM
set_option linter.unusedVariables false
set_option linter.unusedSimpArgs false
namespace Go.Ev

/-! ### maps -/
theorem eqEl_int (q : IntKind) (x y : El (.int q)) : eqEl (.int q) x y = true ↔ x = y := by
  have h : eqEl (.int q) x y = (@BEq.beq Int _ x y) := rfl
  rw [h]; exact beq_iff_eq
theorem eqEl_arr2 (q : IntKind) (x y : El (.agg (.pair .unit (.pair (.int q) (.int q))))) : eqEl (.agg (.pair .unit (.pair (.int q) (.int q)))) x y = true ↔ x = y := by
  obtain ⟨⟨⟩, a, b⟩ := x
  obtain ⟨⟨⟩, c, d⟩ := y
  show (true && ((a : Int) == (c : Int) && (b : Int) == (d : Int))) = true ↔ _
  simp [Prod.ext_iff]
theorem mget_mput {k v : S} (hk : ∀ x y : El k, eqEl k x y = true ↔ x = y) (m : List (El k × El v)) (x y : El k) (z : El v) : mget k v (mput k v m x z) y = if eqEl k y x = true then some z else mget k v m y := by
  induction m with
  | nil => simp [mput, mget]
  | cons a m ih =>
    simp only [mput]
    by_cases h1 : eqEl k x a.1 = true
    · have h2 := (hk _ _).1 h1
      subst h2
      simp [h1, mget]
      split <;> rfl
    · rw [if_neg h1]
      simp only [mget, ih]
      by_cases h2 : eqEl k y a.1 = true
      · have h2' := (hk _ _).1 h2
        rw [if_pos h2]
        by_cases h3 : eqEl k y x = true
        · have h3' := (hk _ _).1 h3
          exact absurd ((hk x a.1).2 (by rw [← h3', h2'])) h1
        · rw [if_neg h3]; simp [h2]
      · rw [if_neg h2, if_neg h2]

/-! ### the first that is alike -/
section
variable {α : Type} [DecidableEq α]
/-- The place of the first that is like x. -/
def ixOf (ks : List α) (x : α) : Nat := ks.idxOf x
/-- For each of a list the place of the first that is like it. -/
def firsts (ks : List α) : List Int := ks.map fun x => ((ixOf ks x : Nat) : Int)
theorem firsts_length (ks : List α) : (firsts ks).length = ks.length := by simp [firsts]
theorem firsts_get (ks : List α) {j : Nat} (h : j < (firsts ks).length) : (firsts ks)[j] = ((ixOf ks (ks[j]'(by rw [firsts_length] at h; exact h)) : Nat) : Int) := by simp [firsts]
theorem idxOf_first {ks : List α} {i : Nat} (hi : i < ks.length) (hm : ∀ i' (h : i' < i), ks[i'] ≠ ks[i]) : ixOf ks ks[i] = i := by
  unfold ixOf
  induction ks generalizing i with
  | nil => simp at hi
  | cons a ks ih =>
    cases i with
    | zero => simp
    | succ i =>
      have h0 := hm 0 (by omega)
      simp only [List.getElem_cons_zero, List.getElem_cons_succ] at h0 ⊢
      have := ih (by simpa using hi) fun i' h => by
        have := hm (i' + 1) (by omega)
        simpa using this
      unfold ixOf at this
      rw [List.idxOf_cons, beq_false_of_ne h0, cond_false, this]
theorem ixOf_map {β : Type} [DecidableEq β] (g : α → β) : ∀ (ks : List α), (∀ x ∈ ks, ∀ y ∈ ks, g x = g y → x = y) → ∀ x ∈ ks, ixOf (ks.map g) (g x) = ixOf ks x
  | [], _, x, hx => by cases hx
  | a :: ks, hg, x, hx => by
    unfold ixOf
    by_cases h : a = x
    · subst h; simp
    · have hne : g a ≠ g x := fun e => h (hg _ (by simp) _ hx e)
      have ih := ixOf_map g ks (fun x hx y hy => hg x (by simp [hx]) y (by simp [hy])) x (by
        rcases List.mem_cons.1 hx with e | e
        · exact absurd e.symm h
        · exact e)
      unfold ixOf at ih
      rw [List.map_cons, List.idxOf_cons, List.idxOf_cons, beq_false_of_ne hne, beq_false_of_ne h, cond_false, cond_false, ih]
theorem firsts_inj {β : Type} [DecidableEq β] (g : α → β) (ks : List α) (hg : ∀ x ∈ ks, ∀ y ∈ ks, g x = g y → x = y) : firsts (ks.map g) = firsts ks := by
  unfold firsts
  rw [List.map_map]
  apply List.map_congr_left
  intro x hx
  simp only [Function.comp]
  rw [ixOf_map g ks hg x hx]
theorem blocksOf_loop {M : Type} (ks : List α) (get : M → α → Option Int) (put : M → α → Int → M) (l : Nat → M → List Int → Int → Option (List Int × Unit))
    (hput : ∀ m x z y, get (put m x z) y = if y = x then some z else get m y)
    (h1 : ∀ n m v j (hj : j < ks.length), v.length = ks.length → get m ks[j] = none → l (n + 1) m v (j : Int) = l n (put m ks[j] (j : Int)) (v.set j (j : Int)) ((j + 1 : Nat) : Int))
    (h2 : ∀ n m v j (hj : j < ks.length) z, v.length = ks.length → get m ks[j] = some z → l (n + 1) m v (j : Int) = l n m (v.set j z) ((j + 1 : Nat) : Int))
    (h0 : ∀ n m v, v.length = ks.length → l (n + 1) m v (ks.length : Int) = some (v, ())) {m : M} {v : List Int} {k : Nat} (hm : ∀ x, get m x = none) (hv : v.length = ks.length) (hk : ks.length < k) :
    l k m v 0 = some (firsts ks, ()) := by
  have key : ∀ (d n j : Nat) (m : M) (v : List Int), j + d = ks.length → d < n → v.length = ks.length → v.take j = (firsts ks).take j → (∀ x, get m x = if x ∈ ks.take j then some ((ixOf ks x : Nat) : Int) else none) → l n m v (j : Int) = some (firsts ks, ()) := by
    intro d
    induction d with
    | zero =>
      intro n j m v hd hn hv ht hg
      obtain ⟨n, rfl⟩ : ∃ i, n = i + 1 := ⟨n - 1, by omega⟩
      have : j = ks.length := by omega
      subst this
      rw [h0 n m v hv]
      rw [List.take_of_length_le (by omega), List.take_of_length_le (by rw [firsts_length]; omega)] at ht
      rw [ht]
    | succ d ih =>
      intro n j m v hd hn hv ht hg
      obtain ⟨n, rfl⟩ : ∃ i, n = i + 1 := ⟨n - 1, by omega⟩
      have hj : j < ks.length := by omega
      have hset : ∀ z : Int, z = ((ixOf ks ks[j] : Nat) : Int) → (v.set j z).take (j + 1) = (firsts ks).take (j + 1) := fun z hz => by
        rw [take_set (by omega), ht, List.take_succ_eq_append_getElem (by rw [firsts_length]; exact hj), firsts_get, hz]
      by_cases hin : ks[j] ∈ ks.take j
      · have hgz := hg ks[j]
        rw [if_pos hin] at hgz
        rw [h2 n m v j hj _ hv hgz]
        refine ih n (j + 1) m _ (by omega) (by omega) (by simpa using hv) (hset _ rfl) fun x => ?_
        rw [hg x]
        by_cases hx : x ∈ ks.take j
        · rw [if_pos hx, if_pos ((mem_take1 hj x).2 (.inl hx))]
        · rw [if_neg hx, if_neg fun h => by
            rcases (mem_take1 hj x).1 h with h | h
            · exact hx h
            · rw [h] at hx; exact hx hin]
      · have hgz := hg ks[j]
        rw [if_neg hin] at hgz
        have hidx : ixOf ks ks[j] = j := idxOf_first hj fun i' h e => hin (by
          rw [← e]
          exact List.mem_take_iff_getElem.2 ⟨i', by omega, rfl⟩)
        rw [h1 n m v j hj hv hgz]
        refine ih n (j + 1) _ _ (by omega) (by omega) (by simpa using hv) (hset _ (by rw [hidx])) fun x => ?_
        rw [hput, hg x]
        by_cases he : x = ks[j]
        · subst he
          rw [if_pos rfl, if_pos ((mem_take1 hj _).2 (.inr rfl)), hidx]
        · rw [if_neg he]
          by_cases hx : x ∈ ks.take j
          · rw [if_pos hx, if_pos ((mem_take1 hj x).2 (.inl hx))]
          · rw [if_neg hx, if_neg fun h => by
              rcases (mem_take1 hj x).1 h with h | h
              · exact hx h
              · exact he h]
  exact key ks.length k 0 m v (by omega) hk hv (by simp) (fun x => by simp [hm])
end

/-! ### rows that are alike -/
theorem l2Same_eq {k : Nat} (a b : List Int) (ha : a.length ≤ 1048576) (hk : 1048576 < k) : spec_l2Same.f k a b = some (decide (a = b), ()) := by
  rw [spec_l2Same.s]
  by_cases hl : a.length = b.length
  · rw [if_neg (by simp [hl])]
    refine for_post (m := a.length) (l := fun n (_ : Unit) j => spec_l2Same.l4 k a b n j) (I := fun j _ => a.take j = b.take j) (Q := fun r => r = some (decide (a = b), ())) (fun n s hI => ?_) (fun n j s hj hI ih => ?_) (s := ()) (by omega) (by simp)
    · rw [List.take_of_length_le (by omega), List.take_of_length_le (by omega)] at hI
      simp [spec_l2Same.s4, hI]
    · simp (disch := omega) only [spec_l2Same.s4, getD_get, w64_id, toNat_nat, gd_t]
      rw [if_pos (by simpa using hj)]
      by_cases he : a[j] = b[j]
      · rw [if_neg (by simpa using he)]
        exact ih () (by rw [List.take_succ_eq_append_getElem hj, List.take_succ_eq_append_getElem (by omega), hI, he])
      · rw [if_pos (by simpa using he)]
        have : a ≠ b := fun e => by subst e; exact he rfl
        simp [this]
  · rw [if_pos (by simp; omega)]
    have : a ≠ b := fun e => by subst e; exact hl rfl
    simp [this]
theorem l28Rows_in (k n3 : Nat) (rows : List (List Int)) (hr : ∀ r ∈ rows, r.length ≤ 1048576) (hk : 1048576 < k) (hl : rows.length ≤ 1048576) (v : List Int) (hv : v.length ≤ rows.length) (j : Nat) (hj : j < rows.length) :
    ∀ (d n i : Nat), d ≤ j → d < n → i ≤ j → d ≤ i → (hi : i < rows.length) → rows[i] = rows[j] → (∀ i' (h : i' < i), d ≤ i' → rows[i'] ≠ rows[j]) →
    spec_l28Rows.l7 k n3 rows v (j : Int) n (i : Int) ((d : Int) - 1) = spec_l28Rows.l3 k rows n3 (v ++ [((ixOf rows rows[j] : Nat) : Int)]) ((j + 1 : Nat) : Int)
  | 0, n + 1, i, hd, hn, hij, hdi, hi, he, hm => by
    have : ixOf rows rows[j] = i := by rw [← he]; exact idxOf_first hi fun i' h => by rw [he]; exact hm i' h (Nat.zero_le _)
    rw [this]
    simp (disch := omega) [spec_l28Rows.s7, w64_id]
    exact gd_t (by omega) _
  | d + 1, n + 1, i, hd, hn, hij, hdi, hi, he, hm => by
    have e1 : ((d + 1 : Nat) : Int) - 1 = (d : Int) := by omega
    have hd' : d < rows.length := by omega
    rw [e1]
    simp (disch := omega) only [spec_l28Rows.s7, getD_get, w64_id, toNat_nat, gd_t, l2Same_eq _ _ (hr _ (List.getElem_mem hd')) hk, Option.bind_some, getD_get hd']
    rw [if_pos (by simp)]
    by_cases h : rows[d] = rows[j]
    · rw [if_pos (by simpa using h)]
      exact l28Rows_in k n3 rows hr hk hl v hv j hj d n d (by omega) (by omega) (by omega) (by omega) hd' h fun i' h1 h2 => by omega
    · rw [if_neg (by simpa using h)]
      exact l28Rows_in k n3 rows hr hk hl v hv j hj d n i (by omega) (by omega) (by omega) (by omega) hi he fun i' h1 h2 => by
        by_cases h3 : i' = d
        · subst h3; exact h
        · exact hm i' h1 (by omega)
theorem l28Rows_eq {k : Nat} (rows : List (List Int)) (hr : ∀ r ∈ rows, r.length ≤ 1048576) (hk : 1048576 < k) (hl : rows.length ≤ 1048576) : spec_l28Rows.f k rows = some (firsts rows, ()) := by
  rw [spec_l28Rows.s]
  refine for_post (m := rows.length) (l := fun n s j => spec_l28Rows.l3 k rows n s j) (I := fun j s => j ≤ rows.length ∧ s = (firsts rows).take j) (Q := fun r => r = some (firsts rows, ())) (fun n s hI => ?_) (fun n j s hj hI ih => ?_) (by omega) ⟨by omega, by simp⟩
  · rw [hI.2, List.take_of_length_le (by rw [firsts_length]; omega)]
    simp [spec_l28Rows.s3]
  · have hlen : s.length = j := by rw [hI.2, List.length_take, firsts_length]; omega
    have := l28Rows_in k n rows hr hk hl s (by omega) j hj j k j (by omega) (by omega) (by omega) (by omega) hj rfl (fun i' h1 h2 => by omega)
    simp (disch := omega) only [spec_l28Rows.s3, w64_id]
    rw [if_pos (by simpa using hj), this]
    exact ih _ ⟨by omega, by rw [hI.2, List.take_succ_eq_append_getElem (by rw [firsts_length]; exact hj), firsts_get]⟩
end Go.Ev
