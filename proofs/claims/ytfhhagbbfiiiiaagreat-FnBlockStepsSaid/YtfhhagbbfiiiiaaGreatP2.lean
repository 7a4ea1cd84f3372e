/- Plain mathematics on what the functions compute. -/
import Derived.Test.YtfhhagbbfiiiiaaGreatP1
import Derived.Test.YtfhhagbbfiiiiaaGreatEv4
import Derived.IntWalk
import Derived.Lib.SlicesCompact
set_option linter.unusedVariables false
set_option linter.unusedSimpArgs false
namespace Go.Ev
/-- A loop over the numbers from a on, below m. -/
theorem for_from {σ R : Type} {l : Nat → σ → Int → R} {a m : Nat} (ha : a ≤ m) (I : Nat → σ → Prop) (Q : R → Prop)
    (stop : ∀ n s, I m s → Q (l (n + 1) s (m : Int)))
    (step : ∀ n j s, a ≤ j → j < m → I j s → (∀ s', I (j + 1) s' → Q (l n s' ((j : Int) + 1))) → Q (l (n + 1) s (j : Int))) :
    ∀ {k s}, m < k → I a s → Q (l k s (a : Int)) := by
  have key : ∀ d n j s, a ≤ j → j + d = m → d < n → I j s → Q (l n s (j : Int)) := by
    intro d
    induction d with
    | zero =>
      intro n j s haj h hn hI
      obtain ⟨n, rfl⟩ : ∃ q, n = q + 1 := ⟨n - 1, by omega⟩
      have : j = m := by omega
      subst this
      exact stop n s hI
    | succ d ih =>
      intro n j s haj h hn hI
      obtain ⟨n, rfl⟩ : ∃ q, n = q + 1 := ⟨n - 1, by omega⟩
      refine step n j s haj (by omega) hI fun s' h' => ?_
      have := ih n (j + 1) s' (by omega) (by omega) (by omega) h'
      simpa using this
  intro k s hk hI
  exact key (m - a) k a s (Nat.le_refl _) (by omega) (by omega) hI
theorem filter_lt {α : Type} {p q : α → Bool} (h : ∀ x, p x = true → q x = true) : ∀ {l : List α}, (l.filter p).length ≤ (l.filter q).length ∧ ((∃ x ∈ l, q x = true ∧ p x = false) → (l.filter p).length < (l.filter q).length)
  | [] => ⟨Nat.le_refl _, fun ⟨x, hx, _⟩ => by simp at hx⟩
  | y :: l => by
    obtain ⟨h1, h2⟩ := filter_lt h (l := l)
    cases hp : p y with
    | true =>
      have hq := h y hp
      simp only [List.filter_cons, hp, hq, if_true, List.length_cons]
      refine ⟨by omega, fun ⟨x, hx, e1, e2⟩ => ?_⟩
      rcases List.mem_cons.1 hx with e | hx
      · rw [e, hp] at e2; cases e2
      · have := h2 ⟨x, hx, e1, e2⟩; omega
    | false =>
      cases hq : q y with
      | true =>
        simp only [List.filter_cons, hp, hq, if_true, List.length_cons]
        refine ⟨by simp; omega, fun _ => by simp; omega⟩
      | false =>
        simp only [List.filter_cons, hp, hq]
        refine ⟨by simpa using h1, fun ⟨x, hx, e1, e2⟩ => ?_⟩
        rcases List.mem_cons.1 hx with e | hx
        · rw [e, hq] at e1; cases e1
        · simpa using h2 ⟨x, hx, e1, e2⟩

/-! ### how far it is over a table -/
/-- A table whose numbers are below its length. -/
def TabP (T : List (List Int)) : Prop := ∀ r ∈ T, ∀ x ∈ r, 0 ≤ x ∧ x < (T.length : Int)
/-- How far it is to each number, as far as that is at most d. -/
noncomputable def lv (T : List (List Int)) (v : List Bool) : Nat → List Int
  | 0 => (List.range T.length).map fun x => if v.getD x false = true then 0 else -1
  | d + 1 => by
    classical
    exact (List.range T.length).map fun x => if 0 ≤ (lv T v d).getD x 0 then (lv T v d).getD x 0 else if ∃ m, m < T.length ∧ (lv T v d).getD m 0 = (d : Int) ∧ (x : Int) ∈ T.getD m [] then ((d + 1 : Nat) : Int) else -1
variable {T : List (List Int)} {v : List Bool}
theorem lv_length : ∀ d, (lv T v d).length = T.length
  | 0 => by simp [lv]
  | d + 1 => by simp [lv]
theorem lv_zero {x : Nat} (h : x < T.length) : (lv T v 0).getD x 0 = if v.getD x false = true then 0 else -1 := by
  rw [List.getD_eq_getElem?_getD]; simp [lv, h]
theorem lv_succ {d x : Nat} (h : x < T.length) : (0 ≤ (lv T v d).getD x 0 → (lv T v (d + 1)).getD x 0 = (lv T v d).getD x 0) ∧
    (¬ 0 ≤ (lv T v d).getD x 0 → (∃ m, m < T.length ∧ (lv T v d).getD m 0 = (d : Int) ∧ (x : Int) ∈ T.getD m []) → (lv T v (d + 1)).getD x 0 = ((d + 1 : Nat) : Int)) ∧
    (¬ 0 ≤ (lv T v d).getD x 0 → ¬ (∃ m, m < T.length ∧ (lv T v d).getD m 0 = (d : Int) ∧ (x : Int) ∈ T.getD m []) → (lv T v (d + 1)).getD x 0 = -1) := by
  have e : (lv T v (d + 1)).getD x 0 = @ite _ (0 ≤ (lv T v d).getD x 0) (Classical.propDecidable _) ((lv T v d).getD x 0) (@ite _ (∃ m, m < T.length ∧ (lv T v d).getD m 0 = (d : Int) ∧ (x : Int) ∈ T.getD m []) (Classical.propDecidable _) ((d + 1 : Nat) : Int) (-1)) := by
    rw [List.getD_eq_getElem?_getD]; simp [lv, h]
  refine ⟨fun h1 => ?_, fun h1 h2 => ?_, fun h1 h2 => ?_⟩
  · rw [e, if_pos h1]
  · rw [e, if_neg h1, if_pos h2]
  · rw [e, if_neg h1, if_neg h2]
theorem lv_range {x : Nat} (h : x < T.length) : ∀ d, (lv T v d).getD x 0 = -1 ∨ 0 ≤ (lv T v d).getD x 0 ∧ (lv T v d).getD x 0 ≤ (d : Int)
  | 0 => by rw [lv_zero h]; split <;> simp
  | d + 1 => by
    obtain ⟨h1, h2, h3⟩ := lv_succ (v := v) (d := d) h
    rcases lv_range h d with e | ⟨e1, e2⟩
    · by_cases hx : ∃ m, m < T.length ∧ (lv T v d).getD m 0 = (d : Int) ∧ (x : Int) ∈ T.getD m []
      · rw [h2 (by omega) hx]; right; omega
      · rw [h3 (by omega) hx]; left; rfl
    · rw [h1 e1]; right; omega
theorem lv_ext {a b : List Int} (ha : a.length = T.length) (hb : b.length = T.length) (h : ∀ x, x < T.length → a.getD x 0 = b.getD x 0) : a = b := by
  apply List.ext_getElem (by omega)
  intro i h1 h2
  have := h i (by omega)
  rwa [getD_get h1, getD_get h2] at this
theorem lv_mono {x d : Nat} (h : x < T.length) (h0 : 0 ≤ (lv T v d).getD x 0) : ∀ e, (lv T v (d + e)).getD x 0 = (lv T v d).getD x 0
  | 0 => rfl
  | e + 1 => by
    have ih := lv_mono h h0 e
    rw [← Nat.add_assoc, (lv_succ (v := v) (d := d + e) h).1 (by omega), ih]
theorem lv_same {d : Nat} (h : lv T v (d + 1) = lv T v d) : ∀ e, lv T v (d + e) = lv T v d
  | 0 => rfl
  | e + 1 => by
    have ih := lv_same h e
    rw [← Nat.add_assoc]
    rw [← ih]
    refine lv_ext (T := T) (lv_length _) (lv_length _) fun x hx => ?_
    obtain ⟨h1, h2, h3⟩ := lv_succ (v := v) (d := d + e) hx
    by_cases h0 : 0 ≤ (lv T v (d + e)).getD x 0
    · exact h1 h0
    · have hm : (lv T v (d + e)).getD x 0 = -1 := by
        rcases lv_range (v := v) hx (d + e) with q | q
        · exact q
        · omega
      rw [hm]
      by_cases hx2 : ∃ m, m < T.length ∧ (lv T v (d + e)).getD m 0 = ((d + e : Nat) : Int) ∧ (x : Int) ∈ T.getD m []
      · exfalso
        rcases Nat.eq_zero_or_pos e with he | he
        · subst he
          have q1 := (lv_succ (v := v) (d := d) hx).2.1 (by simpa using h0) hx2
          have q2 : (lv T v (d + 1)).getD x 0 = (lv T v d).getD x 0 := by rw [h]
          have : ¬ 0 ≤ (lv T v d).getD x 0 := h0
          omega
        · obtain ⟨m, hm1, hm2, _⟩ := hx2
          rw [ih] at hm2
          rcases lv_range (v := v) hm1 d with q | q <;> omega
      · exact h3 h0 hx2
/-- How many are told. -/
noncomputable def cnt (l : List Int) (n : Nat) : Nat := ((List.range n).filter fun x => decide (0 ≤ l.getD x 0)).length
theorem cnt_le (l : List Int) (n : Nat) : cnt l n ≤ n := by
  have := List.length_filter_le (fun x => decide (0 ≤ l.getD x 0)) (List.range n)
  simpa [cnt] using this
theorem cnt_lt {d : Nat} (h : lv T v (d + 1) ≠ lv T v d) : cnt (lv T v d) T.length < cnt (lv T v (d + 1)) T.length := by
  have hx : ∃ x, x < T.length ∧ (lv T v (d + 1)).getD x 0 ≠ (lv T v d).getD x 0 := by
    apply Classical.byContradiction
    intro hn
    exact h (lv_ext (T := T) (lv_length _) (lv_length _) fun x hx => Classical.byContradiction fun hne => hn ⟨x, hx, hne⟩)
  obtain ⟨x, hx, hne⟩ := hx
  have mono : ∀ y, y < T.length → 0 ≤ (lv T v d).getD y 0 → 0 ≤ (lv T v (d + 1)).getD y 0 := fun y hy h0 => by
    rw [(lv_succ (v := v) (d := d) hy).1 h0]; exact h0
  have e : ∀ l : List Int, cnt l T.length = ((List.range T.length).filter fun x => decide (x < T.length ∧ 0 ≤ l.getD x 0)).length := fun l => by
    unfold cnt
    congr 1
    apply List.filter_congr
    intro y hy
    have := List.mem_range.1 hy
    simp [this]
  rw [e, e]
  refine (filter_lt (fun y hy => ?_)).2 ⟨x, List.mem_range.2 hx, ?_, ?_⟩
  · simp only [decide_eq_true_eq] at hy ⊢
    exact ⟨hy.1, mono y hy.1 hy.2⟩
  · simp only [decide_eq_true_eq]
    refine ⟨hx, ?_⟩
    obtain ⟨h1, h2, h3⟩ := lv_succ (v := v) (d := d) hx
    by_cases h0 : 0 ≤ (lv T v d).getD x 0
    · exact absurd (h1 h0) hne
    · by_cases hx2 : ∃ m, m < T.length ∧ (lv T v d).getD m 0 = (d : Int) ∧ (x : Int) ∈ T.getD m []
      · rw [h2 h0 hx2]; omega
      · rcases lv_range (v := v) hx d with q | q
        · exact absurd ((h3 h0 hx2).trans q.symm) hne
        · omega
  · simp only [decide_eq_false_iff_not]
    rintro ⟨_, h0⟩
    exact hne ((lv_succ (v := v) (d := d) hx).1 h0)
theorem lv_stop : ∀ d, (∃ e, e < d ∧ lv T v (e + 1) = lv T v e) ∨ d ≤ cnt (lv T v d) T.length
  | 0 => .inr (Nat.zero_le _)
  | d + 1 => by
    rcases lv_stop d with ⟨e, h1, h2⟩ | h
    · exact .inl ⟨e, by omega, h2⟩
    · by_cases hs : lv T v (d + 1) = lv T v d
      · exact .inl ⟨d, by omega, hs⟩
      · have := cnt_lt hs
        exact .inr (by omega)
/-- How far it is to each number; -1 where one never comes. -/
noncomputable def farT (T : List (List Int)) (v : List Bool) : List Int := lv T v T.length
theorem farT_length : (farT T v).length = T.length := lv_length _
theorem lv_end : ∀ e, lv T v (T.length + e) = farT T v := by
  rcases lv_stop (T := T) (v := v) (T.length + 1) with ⟨d, h1, h2⟩ | h
  · intro e
    have q1 := lv_same h2 (T.length + e - d)
    have q2 := lv_same h2 (T.length - d)
    rw [show d + (T.length + e - d) = T.length + e by omega] at q1
    rw [show d + (T.length - d) = T.length by omega] at q2
    unfold farT
    rw [q1, q2]
  · have := cnt_le (lv T v (T.length + 1)) T.length
    omega
/-- One comes there. -/
def RchT (T : List (List Int)) (v : List Bool) (x : Nat) : Prop := 0 ≤ (farT T v).getD x 0
theorem RchT.start {x : Nat} (hx : x < T.length) (h : v.getD x false = true) : RchT T v x := by
  have h0 : (lv T v 0).getD x 0 = 0 := by rw [lv_zero hx, if_pos h]
  have := lv_mono hx (v := v) (d := 0) (by omega) T.length
  unfold RchT farT
  rw [Nat.zero_add] at this
  rw [this, h0]; omega
theorem lv_first {x : Nat} (hx : x < T.length) : ∀ d e : Nat, (lv T v d).getD x 0 = (e : Int) → (lv T v e).getD x 0 = (e : Int)
  | 0, e, h => by
    rcases lv_range (v := v) hx 0 with q | q
    · omega
    · have : e = 0 := by omega
      subst this; exact h
  | d + 1, e, h => by
    by_cases h0 : 0 ≤ (lv T v d).getD x 0
    · rw [(lv_succ (v := v) (d := d) hx).1 h0] at h
      exact lv_first hx d e h
    · by_cases hx2 : ∃ m, m < T.length ∧ (lv T v d).getD m 0 = (d : Int) ∧ (x : Int) ∈ T.getD m []
      · have := (lv_succ (v := v) (d := d) hx).2.1 h0 hx2
        have : e = d + 1 := by omega
        subst this; exact h
      · have := (lv_succ (v := v) (d := d) hx).2.2 h0 hx2
        omega
theorem RchT.step {m x : Nat} (hm : m < T.length) (hx : x < T.length) (h : RchT T v m) (hmem : (x : Int) ∈ T.getD m []) : RchT T v x := by
  obtain ⟨e, he⟩ : ∃ e : Nat, (farT T v).getD m 0 = (e : Int) := ⟨((farT T v).getD m 0).toNat, by unfold RchT at h; omega⟩
  have h1 := lv_first (v := v) hm T.length e he
  have h2 : 0 ≤ (lv T v (e + 1)).getD x 0 := by
    obtain ⟨g1, g2, g3⟩ := lv_succ (v := v) (d := e) hx
    by_cases h0 : 0 ≤ (lv T v e).getD x 0
    · rw [g1 h0]; exact h0
    · rw [g2 h0 ⟨m, hm, h1, hmem⟩]; omega
  have h3 := lv_mono hx (v := v) h2 T.length
  unfold RchT
  rw [← lv_end (T := T) (v := v) (e + 1), Nat.add_comm, h3]
  exact h2
theorem RchT.least {C : Nat → Prop} (h0 : ∀ x, x < T.length → v.getD x false = true → C x) (h1 : ∀ m x, m < T.length → x < T.length → C m → (x : Int) ∈ T.getD m [] → C x) : ∀ x, x < T.length → RchT T v x → C x := by
  have key : ∀ d x, x < T.length → 0 ≤ (lv T v d).getD x 0 → C x := by
    intro d
    induction d with
    | zero =>
      intro x hx h
      rw [lv_zero hx] at h
      by_cases hv : v.getD x false = true
      · exact h0 x hx hv
      · rw [if_neg hv] at h; omega
    | succ d ih =>
      intro x hx h
      by_cases h2 : 0 ≤ (lv T v d).getD x 0
      · exact ih x hx h2
      · by_cases hx2 : ∃ m, m < T.length ∧ (lv T v d).getD m 0 = (d : Int) ∧ (x : Int) ∈ T.getD m []
        · obtain ⟨m, hm, e, hmem⟩ := hx2
          exact h1 m x hm hx (ih m hm (by omega)) hmem
        · have := (lv_succ (v := v) (d := d) hx).2.2 h2 hx2
          omega
  exact fun x hx h => key T.length x hx h
end Go.Ev

set_option linter.unusedVariables false
set_option linter.unusedSimpArgs false
namespace Go.Ev

/-! ### what a valid system gives, and valid blocks -/
structure Env (k : Nat) (s : SY) : Prop where
  S : SysP s
  hv : spec_SystemValid.f k s = some (true, ())
  iv : impl_SystemValid.f k s = some (true, ())
  hz : spec_SizeOf.f k s = some (((prodW s.1 : Nat) : Int), ())
  iz : impl_size.f k s.1 = some (((prodW s.1 : Nat) : Int), ())
theorem sys_env {k : Nat} (hk : 1048576 < k) (s : SY) (hb : BigS s) (hs : SmS s) : Env k s ∨ (spec_SystemValid.f k s = some (false, ()) ∧ impl_SystemValid.f k s = some (false, ()) ∧ spec_SizeOf.f k s = some (0, ())) := by
  obtain ⟨V, z, m1, m2, m3, m4, m5⟩ := sys_eq (k := k) (by omega) s hb hs
  cases V with
  | false => exact .inr ⟨m1, m2, by rw [m5]; rfl⟩
  | true =>
    obtain ⟨_, hz, hS⟩ := m4 rfl
    rw [if_pos rfl] at m5
    rw [hz] at m3 m5
    exact .inl ⟨hS, m1, m2, m5, m3⟩
structure BlkP (n : Nat) (b : List Int) : Prop where
  len : b.length = n
  low : ∀ j (h : j < b.length), 0 ≤ b[j] ∧ b[j] ≤ (j : Int)
  fix : ∀ j (h : j < b.length), b.getD b[j].toNat 0 = b[j]
theorem blocks_v (k : Nat) (p : List Int) (hp : p.length < 4611686018427387904) : ∀ (d n j : Nat), j + d = p.length → d < n → impl_blocksOk.l4 k p n (j : Int) = some (true, ()) →
    ∀ i (h : i < p.length), j ≤ i → 0 ≤ p[i] ∧ p[i] ≤ (i : Int) ∧ p.getD p[i].toNat 0 = p[i]
  | 0, n + 1, j, hd, hn, h, i, hi, hji => by omega
  | d + 1, n + 1, j, hd, hn, h, i, hi, hji => by
    have hj : j < p.length := by omega
    simp (disch := omega) only [impl_blocksOk.s4, gd_t, toNat_nat, getD_get hj, impl_in_eq, Option.bind_some, w64_id] at h
    rw [if_pos (by simpa using hj)] at h
    by_cases hin : 0 ≤ p[j] ∧ p[j] ≤ (j : Int)
    · simp (disch := omega) only [decide_eq_true hin, gd_t] at h
      by_cases he : p.getD p[j].toNat 0 = p[j]
      · rw [if_neg (by simp), if_neg (by simp [he, -List.getD_eq_getElem?_getD])] at h
        rcases Nat.lt_or_ge j i with hlt | hge
        · exact blocks_v k p hp d n (j + 1) (by omega) (by omega) (by simpa using h) i hi (by omega)
        · have : i = j := by omega
          subst this
          exact ⟨hin.1, hin.2, he⟩
      · rw [if_neg (by simp), if_pos (by simpa [-List.getD_eq_getElem?_getD] using he)] at h
        cases h
    · simp only [decide_eq_false hin] at h
      cases h
theorem blocks_ok {k : Nat} (hk : 1048576 < k) {s : SY} (E : Env k s) (p : List Int) (hp : p.length ≤ 1048576) : ∃ c, spec_BlocksValid.f k s p = some (c, ()) ∧ impl_blocksOk.f k s p = some (c, ()) ∧ (c = true → BlkP (prodW s.1) p) := by
  have hpos := prodW_pos E.S.vp
  rw [spec_BlocksValid.s, impl_blocksOk.s, E.hz, E.iz]
  simp only [Option.bind_some]
  obtain ⟨b, h1, h2⟩ := blocks_l k p (by omega) p.length k k 0 (by omega) (by omega) (by omega)
  have h1 : spec_BlocksValid.l4 k p k 0 = some (b, ()) := h1
  have h2 : impl_blocksOk.l4 k p k 0 = some (b, ()) := h2
  rw [h1, h2]
  by_cases hl : p.length = prodW s.1
  · rw [if_neg (c := ((p.length : Int) != ((prodW s.1 : Nat) : Int)) = true) (by simp [hl]), if_neg (c := ((p.length : Int) == 0) = true) (by simp only [beq_iff_eq]; omega), if_neg (c := ((p.length : Int) != ((prodW s.1 : Nat) : Int)) = true) (by simp [hl])]
    refine ⟨b, rfl, rfl, fun hb => ?_⟩
    subst hb
    have := blocks_v k p (by omega) p.length k 0 (by omega) (by omega) h2
    exact ⟨hl, fun j hj => ⟨(this j hj (by omega)).1, (this j hj (by omega)).2.1⟩, fun j hj => (this j hj (by omega)).2.2⟩
  · rw [if_pos (c := ((p.length : Int) != ((prodW s.1 : Nat) : Int)) = true) (by simp; omega), if_pos (c := ((p.length : Int) != ((prodW s.1 : Nat) : Int)) = true) (by simp; omega)]
    exact ⟨false, rfl, rfl, fun h => by cases h⟩
theorem blocks_no {k : Nat} {s : SY} (h : spec_SizeOf.f k s = some (0, ())) (p : List Int) : spec_BlocksValid.f k s p = some (false, ()) := by
  rw [spec_BlocksValid.s, h]
  simp only [Option.bind_some]
  by_cases h0 : p.length = 0
  · simp [h0]
  · rw [if_pos (by simp only [bne_iff_ne, ne_eq]; omega)]
theorem blocks_cases0 {k : Nat} (hk : 1048576 < k) (s : SY) (p : List Int) (hb : BigS s) (hs : SmS s) (hp : p.length ≤ 1048576) :
    (spec_BlocksValid.f k s p = some (false, ()) ∧ (impl_SystemValid.f k s = some (false, ()) ∨ (Env k s ∧ impl_blocksOk.f k s p = some (false, ())))) ∨ (spec_BlocksValid.f k s p = some (true, ()) ∧ impl_blocksOk.f k s p = some (true, ()) ∧ Env k s ∧ BlkP (prodW s.1) p) := by
  rcases sys_env hk s hb hs with E | ⟨e1, e2, e3⟩
  · obtain ⟨c, c1, c2, c3⟩ := blocks_ok hk E p hp
    cases c with
    | false => exact .inl ⟨c1, .inr ⟨E, c2⟩⟩
    | true => exact .inr ⟨c1, c2, E, c3 rfl⟩
  · exact .inl ⟨blocks_no e3 p, .inl e2⟩
theorem blocks_cases {k : Nat} (hk : 1048576 < k) (s : SY) (p : List Int) (hb : BigS s) (hs : SmS s) (hp : p.length ≤ 1048576) :
    (spec_BlocksValid.f k s p = some (false, ()) ∧ impl_BlocksValid.f k s p = some (false, ())) ∨ (spec_BlocksValid.f k s p = some (true, ()) ∧ impl_BlocksValid.f k s p = some (true, ()) ∧ Env k s ∧ BlkP (prodW s.1) p) := by
  rcases blocks_cases0 hk s p hb hs hp with ⟨h1, h2 | ⟨E, h2⟩⟩ | ⟨h1, h2, E, hB⟩
  · exact .inl ⟨h1, by rw [impl_BlocksValid.s, h2]; rfl⟩
  · exact .inl ⟨h1, by rw [impl_BlocksValid.s, E.iv, Option.bind_some, if_pos rfl, h2]; rfl⟩
  · exact .inr ⟨h1, by rw [impl_BlocksValid.s, E.iv, Option.bind_some, if_pos rfl, h2]; rfl, E, hB⟩

/-! ### steps between blocks -/
theorem steps_getD {s : SY} {j : Nat} (h : j < prodW s.1) : (stepsT s).getD j [] = rowT s j := by rw [getD_get (by rw [stepsT_length]; exact h), steps_get]
theorem rowT_len (s : SY) (n : Nat) : (rowT s n).length ≤ s.2.length := by
  have := (nextT_facts s (stOf s.1 n)).2.2
  simpa [rowT] using this
theorem rowT_get {s : SY} (hS : SysP s) {n i : Nat} (h : i < (rowT s n).length) : 0 ≤ (rowT s n)[i] ∧ (rowT s n)[i] < (prodW s.1 : Int) := rowT_mem (List.getElem_mem h) hS
/-- The blocks behind the numbers below n that are of block x. -/
noncomputable def accB (s : SY) (b : List Int) (x : Int) (n : Nat) : List Int := (List.range n).flatMap fun m => if b.getD m 0 = x then (rowT s m).map fun y => b.getD y.toNat 0 else []
theorem accB_succ (s : SY) (b : List Int) (x : Int) (n : Nat) : accB s b x (n + 1) = accB s b x n ++ (if b.getD n 0 = x then (rowT s n).map fun y => b.getD y.toNat 0 else []) := by
  simp [accB, List.range_succ, List.flatMap_append]
theorem accB_len {s : SY} (hS : SysP s) (b : List Int) (x : Int) : ∀ n, (accB s b x n).length ≤ n * 8
  | 0 => by simp [accB]
  | n + 1 => by
    have ih := accB_len hS b x n
    have h8 := hS.r8
    have hl := rowT_len s n
    rw [accB_succ, List.length_append]
    split
    · rw [List.length_map]; omega
    · simp; omega
theorem accB_mem {s : SY} (hS : SysP s) {b : List Int} {N : Nat} (hb : BlkP N b) (hN : N = prodW s.1) {x y : Int} {n : Nat} (h : y ∈ accB s b x n) : 0 ≤ y ∧ y < (N : Int) := by
  simp only [accB, List.mem_flatMap, List.mem_range] at h
  obtain ⟨m, hm, h⟩ := h
  split at h
  · obtain ⟨z, hz, rfl⟩ := List.mem_map.1 h
    have hz := rowT_mem hz hS
    have hzl : z.toNat < b.length := by rw [hb.len]; omega
    rw [getD_get hzl]
    have := hb.low _ hzl
    have := hb.len
    omega
  · simp at h
noncomputable def blkRow (s : SY) (b : List Int) (x : Nat) : List Int := Lib.compact ((accB s b (x : Int) (prodW s.1)).mergeSort fun x y => decide (x ≤ y))
noncomputable def blkT (s : SY) (b : List Int) : List (List Int) := (List.range (prodW s.1)).map (blkRow s b)
theorem blkT_length (s : SY) (b : List Int) : (blkT s b).length = prodW s.1 := by simp [blkT]
theorem blkRow_asc (s : SY) (b : List Int) (x : Nat) : Asc (blkRow s b x) := compact_lt (sort_le _)
theorem mem_blkRow {s : SY} {b : List Int} {x : Nat} {y : Int} : y ∈ blkRow s b x ↔ y ∈ accB s b (x : Int) (prodW s.1) := by
  unfold blkRow
  rw [mem_compact, mem_sort]
theorem blkRow_len {s : SY} (hS : SysP s) (b : List Int) (x : Nat) : (blkRow s b x).length ≤ 3200 := by
  have h1 := compact_len ((accB s b (x : Int) (prodW s.1)).mergeSort fun x y => decide (x ≤ y))
  have h2 := accB_len hS b (x : Int) (prodW s.1)
  have h3 := hS.sz
  rw [List.length_mergeSort] at h1
  unfold blkRow
  omega
theorem blkT_rows {s : SY} (hS : SysP s) {b : List Int} : ∀ r ∈ blkT s b, r.length ≤ 3200 := by
  intro r hr
  obtain ⟨n, _, rfl⟩ := List.mem_map.1 hr
  exact blkRow_len hS b n
theorem blkT_getD {s : SY} {b : List Int} {x : Nat} (h : x < prodW s.1) : (blkT s b).getD x [] = blkRow s b x := by rw [getD_get (by rw [blkT_length]; exact h)]; simp [blkT]
theorem getD_set' {α : Type} (v : List α) (y x : Nat) (a e : α) (hy : y < v.length) : (v.set y a).getD x e = if x = y then a else v.getD x e := by
  rw [List.getD_eq_getElem?_getD, List.getD_eq_getElem?_getD, List.getElem?_set]
  by_cases h : y = x
  · subst h; simp [hy]
  · rw [if_neg h, if_neg (fun h' => h h'.symm)]
theorem list_ext_getD {α : Type} {a b : List α} {n : Nat} {d : α} (ha : a.length = n) (hb : b.length = n) (h : ∀ x, x < n → a.getD x d = b.getD x d) : a = b := by
  apply List.ext_getElem (by omega)
  intro i h1 h2
  have := h i (by omega)
  rwa [getD_get h1, getD_get h2] at this
theorem blockSteps_eq {k : Nat} {s : SY} {b : List Int} (E : Env k s) (hb : BlkP (prodW s.1) b) (hk : 1048577 < k) : impl_blockSteps.f k s b = some (blkT s b, ()) := by
  have hS := E.S
  have hsz := hS.sz
  have h8 := hS.r8
  have hbl := hb.len
  obtain ⟨N, hN⟩ : ∃ N, N = prodW s.1 := ⟨_, rfl⟩
  rw [← hN] at hbl hsz
  rw [impl_blockSteps.s, gd_t (by omega), gd_t (by omega), nexts_eq hS E.iz hk]
  simp only [Option.bind_some, toNat_nat, stepsT_length, ← hN, hbl]
  refine for_post (m := N) (l := fun n u j => impl_blockSteps.l3 k b n u (stepsT s) (N : Int) j) (fun j u => u.length = N ∧ ∀ x, x < N → u.getD x [] = accB s b (x : Int) j) (fun x => x = some (blkT s b, ())) (fun n u hI => ?_) (fun n j u hj hI ih => ?_) (by omega) ⟨by simp, fun x hx => by simp [accB, List.getD_eq_getElem?_getD, List.getElem?_replicate, hx]⟩
  · -- each row in order
    simp only [impl_blockSteps.s3]
    rw [if_neg (by simp)]
    obtain ⟨hul, hu⟩ := hI
    refine for_post (m := N) (l := fun n w j => impl_blockSteps.l12 k u n w j) (fun j w => w.length = N ∧ ∀ x, x < N → w.getD x [] = if x < j then blkRow s b x else accB s b (x : Int) N) (fun x => x = some (blkT s b, ())) (fun n w hW => ?_) (fun n j w hj hW ih => ?_) (by omega) ⟨hul, fun x hx => by rw [if_neg (by omega)]; exact hu x hx⟩
    · simp only [impl_blockSteps.s12]
      rw [if_neg (by simp [hul])]
      have : w = blkT s b := list_ext_getD (d := []) hW.1 (by rw [blkT_length, hN]) fun x hx => by rw [hW.2 x hx, if_pos hx, blkT_getD (by omega)]
      rw [this]
    · obtain ⟨hwl, hw⟩ := hW
      have hwj := hw j hj
      rw [if_neg (by omega)] at hwj
      have hal := accB_len hS b (j : Int) N
      have hcl := blkRow_len hS b j
      simp (disch := omega) only [impl_blockSteps.s12, gd_t, toNat_nat, w64_id, List.length_set, hwj, slices_Sort_int_int.s, slices_Compact_int_int.s, Option.bind_some]
      rw [if_pos (by rw [hul]; simpa using hj), gd_t (by unfold LIM; omega)]
      simp (disch := omega) only [Option.bind_some, gd_t, List.length_set, getD_set', if_true]
      rw [gd_t (by rw [List.length_mergeSort]; unfold LIM; omega)]
      simp only [Option.bind_some]
      have e : Lib.compact ((accB s b (j : Int) N).mergeSort fun x y => decide (x ≤ y)) = blkRow s b j := by unfold blkRow; rw [hN]
      rw [e, clone_int_eq (k := k) (p := blkRow s b j) (by omega)]
      simp only [Option.bind_some, List.set_set, gd_true]
      refine ih _ (And.intro ?_ ?_)
      · rw [List.length_set]; exact hwl
      intro x hx
      rw [getD_set' w j x _ [] (by omega)]
      by_cases hxj : x = j
      · rw [if_pos hxj, if_pos (by omega), hxj]
      · rw [if_neg hxj, hw x hx]
        by_cases h : x < j
        · rw [if_pos h, if_pos (by omega)]
        · rw [if_neg h, if_neg (by omega)]
  · obtain ⟨hul, hu⟩ := hI
    have hjb : j < b.length := by omega
    have hbj := hb.low j hjb
    have hrj := steps_getD (s := s) (j := j) (by omega)
    have hrl := rowT_len s j
    simp (disch := omega) only [impl_blockSteps.s3, gd_t, stepsT_length]
    rw [if_pos (by simpa using hj)]
    refine for_post (m := (rowT s j).length) (l := fun q w i => impl_blockSteps.l6 k n b (stepsT s) (N : Int) (j : Int) q w i) (fun i w => w.length = N ∧ ∀ x, x < N → w.getD x [] = accB s b (x : Int) j ++ (if b.getD j 0 = (x : Int) then ((rowT s j).take i).map (fun y => b.getD y.toNat 0) else [])) (fun x => x = some (blkT s b, ())) (fun q w hW => ?_) (fun q i w hi hW ih2 => ?_) (by omega) ⟨hul, fun x hx => by rw [hu x hx]; simp⟩
    · simp (disch := omega) only [impl_blockSteps.s6, toNat_nat, hrj, w64_id]
      rw [if_neg (by simp)]
      refine ih _ ⟨hW.1, fun x hx => ?_⟩
      rw [hW.2 x hx, accB_succ, List.take_length]
    · obtain ⟨hwl, hw⟩ := hW
      have hri := rowT_get hS hi
      have hbr : (rowT s j)[i].toNat < b.length := by omega
      have hwb := hw b[j].toNat (by omega)
      have hal := accB_len hS b (b[j] : Int) j
      have hzb : ((b[j].toNat : Nat) : Int) = b[j] := by omega
      simp (disch := omega) only [impl_blockSteps.s6, gd_t, toNat_nat, hrj, getD_get hi, getD_get hjb, w64_id]
      rw [if_pos (by simpa using hi), hwb, hzb, getD_get hjb, if_pos rfl, gd_t (by simp; omega)]
      simp only [gd_true]
      refine ih2 _ (And.intro ?_ ?_)
      · rw [List.length_set]; exact hwl
      intro x hx
      rw [getD_set' w b[j].toNat x _ [] (by omega)]
      by_cases hxb : x = b[j].toNat
      · rw [if_pos hxb, hxb, hzb, getD_get hjb, if_pos rfl, List.take_succ_eq_append_getElem hi, List.map_append, List.append_assoc]
        rfl
      · rw [if_neg hxb, hw x hx, getD_get hjb, if_neg (by omega), if_neg (by omega)]
theorem l28Steps_eq {k : Nat} {s : SY} {b : List Int} (E : Env k s) (hb : BlkP (prodW s.1) b) (hk : 1048577 < k) : spec_l28Steps.f k s b = some (blkT s b, ()) := by
  have hS := E.S
  have hsz := hS.sz
  have h8 := hS.r8
  have hbl := hb.len
  rw [spec_l28Steps.s, l4Steps_eq hS E.hv E.hz hk]
  simp only [Option.bind_some]
  refine push_loop (l := fun n u j => spec_l28Steps.l4 k b n (stepsT s) u j) (ys := blkT s b) (m := prodW s.1) (blkT_length s b) (fun n j u hj hu => ?_) (fun n => ?_) (by omega)
  · simp only [spec_l28Steps.s4]
    rw [if_pos (by rw [stepsT_length]; simpa using hj)]
    refine for_from (a := j) (m := prodW s.1) (by omega) (l := fun q w i => spec_l28Steps.l8 k n b (stepsT s) u (j : Int) q w i) (fun i w => w = accB s b (j : Int) i) (fun x => x = spec_l28Steps.l4 k b n (stepsT s) (u ++ [(blkT s b)[j]'(by rw [blkT_length]; exact hj)]) ((j : Int) + 1)) (fun q w hW => ?_) (fun q i w hji hi hW ih => ?_) (by omega) ?_
    · subst hW
      simp (disch := omega) only [spec_l28Steps.s8, w64_id]
      rw [if_neg (by rw [stepsT_length]; simp)]
      have hal := accB_len hS b (j : Int) (prodW s.1)
      obtain ⟨q', h1, h2, h3⟩ := l17Ordered_eq (k := k) (accB s b (j : Int) (prodW s.1)) (fun x hx => by have := accB_mem hS hb rfl hx; omega) (by omega) (by omega)
      rw [h1]
      simp only [Option.bind_some]
      rw [gd_t (by simp; omega)]
      have : q' = blkRow s b j := asc_ext h2 (blkRow_asc s b j) fun x => by rw [h3, mem_blkRow]
      rw [this]
      simp [blkT]
    · have hri := steps_getD (s := s) (j := i) hi
      have hib : i < b.length := by omega
      have hrl := rowT_len s i
      have hal := accB_len hS b (j : Int) i
      have hsl := stepsT_length s
      simp only [spec_l28Steps.s8]
      rw [if_pos (by rw [stepsT_length]; simpa using hi)]
      by_cases hbj : b[i] = (j : Int)
      · refine for_post (m := (rowT s i).length) (l := fun q' w' e => spec_l28Steps.l11 k n q b (stepsT s) u (j : Int) (i : Int) q' w' e) (fun e w' => w' = w ++ ((rowT s i).take e).map fun y => b.getD y.toNat 0) (fun x => x = spec_l28Steps.l4 k b n (stepsT s) (u ++ [(blkT s b)[j]'(by rw [blkT_length]; exact hj)]) ((j : Int) + 1)) (fun q' w' hw' => ?_) (fun q' e w' he hw' ih2 => ?_) (by omega) (by simp)
        · simp (disch := omega) only [spec_l28Steps.s11, gd_t, toNat_nat, hri, w64_id]
          rw [if_neg (by simp)]
          refine ih _ ?_
          rw [hw', hW, accB_succ, getD_get hib, if_pos hbj, List.take_length]
        · have hre := rowT_get hS he
          have hwl : w'.length ≤ i * 8 + e := by rw [hw', hW]; simp; omega
          simp (disch := omega) only [spec_l28Steps.s11, gd_t, toNat_nat, hri, getD_get he, getD_get hib, w64_id]
          rw [if_pos (by simpa using he), if_pos (by simpa using hbj), gd_t (by simp; omega)]
          refine ih2 _ ?_
          rw [hw', List.take_succ_eq_append_getElem he, List.map_append, List.append_assoc]
          rfl
      · obtain ⟨k', rfl⟩ : ∃ q, k = q + 1 := ⟨k - 1, by omega⟩
        have hnext : w = accB s b (j : Int) (i + 1) := by rw [hW, accB_succ, getD_get hib, if_neg hbj, List.append_nil]
        simp (disch := omega) only [spec_l28Steps.s11, gd_t, toNat_nat, hri, getD_get hib, w64_id]
        by_cases hz : (rowT s i).length = 0
        · rw [if_neg (by simp [hz])]; exact ih _ hnext
        · rw [if_pos (by simp; omega), if_neg (by simpa using hbj)]; exact ih _ hnext
    · -- none below j is of block j
      have : ∀ i, i ≤ j → accB s b (j : Int) i = [] := by
        intro i
        induction i with
        | zero => intro _; simp [accB]
        | succ i ih =>
          intro hi
          have hib : i < b.length := by omega
          have := hb.low i hib
          rw [accB_succ, ih (by omega), getD_get hib, if_neg (by omega)]; rfl
      exact (this j (Nat.le_refl _)).symm
  · simp only [spec_l28Steps.s4]
    rw [if_neg (by rw [stepsT_length]; simp)]
end Go.Ev

set_option linter.unusedVariables false
set_option linter.unusedSimpArgs false
namespace Go.Ev

/-! ### rows of rows of numbers, as the laws look at them -/
/-! ### BlockSteps -/
theorem clone_mv_eq {k : Nat} (p : List (List Int)) (hp : p.length ≤ 1048576) : impl_clone_Lint_mv.f k p = some (p, ()) := by
  rw [impl_clone_Lint_mv.s]
  by_cases h : p.length = 0
  · rw [if_pos (by simp [h]), List.length_eq_zero_iff.1 h]
  · rw [if_neg (by simpa using h), gd_t (by omega), gd_t (by omega), gd_t (by simp)]
end Go.Ev

set_option linter.unusedVariables false
set_option linter.unusedSimpArgs false
namespace Go.Ev

/-! ### one level of the search -/
structure Up (N : Nat) (old : List Int) (d : Nat) (R : Nat → Prop) (u : List Int) (sm : Bool) : Prop where
  len : u.length = N
  keep : ∀ x, x < N → 0 ≤ old.getD x 0 → u.getD x 0 = old.getD x 0
  new : ∀ x, x < N → ¬ 0 ≤ old.getD x 0 → R x → u.getD x 0 = ((d + 1 : Nat) : Int)
  non : ∀ x, x < N → ¬ 0 ≤ old.getD x 0 → ¬ R x → u.getD x 0 = -1
  some : sm = true ↔ ∃ x, x < N ∧ ¬ 0 ≤ old.getD x 0 ∧ R x
theorem Up.imp {N : Nat} {old u : List Int} {d : Nat} {R R' : Nat → Prop} {sm : Bool} (U : Up N old d R u sm) (h : ∀ x, x < N → (R x ↔ R' x)) : Up N old d R' u sm :=
  ⟨U.len, U.keep, fun x hx h0 hr => U.new x hx h0 ((h x hx).2 hr), fun x hx h0 hr => U.non x hx h0 fun hr' => hr ((h x hx).1 hr'),
    U.some.trans ⟨fun ⟨x, hx, h0, hr⟩ => ⟨x, hx, h0, (h x hx).1 hr⟩, fun ⟨x, hx, h0, hr⟩ => ⟨x, hx, h0, (h x hx).2 hr⟩⟩⟩
theorem getD_set {α : Type} (v : List α) (y x : Nat) (a e : α) : (v.set y a).getD x e = if x = y ∧ y < v.length then a else v.getD x e := by
  rw [List.getD_eq_getElem?_getD, List.getD_eq_getElem?_getD, List.getElem?_set]
  by_cases h : y = x
  · subst h
    by_cases h2 : y < v.length
    · simp [h2]
    · simp [h2]
  · rw [if_neg h, if_neg (fun h' => h h'.1.symm)]
theorem Up.set {N : Nat} {old u : List Int} {d : Nat} {R : Nat → Prop} {sm : Bool} (U : Up N old d R u sm) {y : Nat} (hy : y < N) (h0 : u.getD y 0 < 0) : Up N old d (fun x => R x ∨ x = y) (u.set y ((d + 1 : Nat) : Int)) true := by
  have ho : ¬ 0 ≤ old.getD y 0 := fun h => by rw [U.keep y hy h] at h0; omega
  refine ⟨by rw [List.length_set]; exact U.len, fun x hx h => ?_, fun x hx h hr => ?_, fun x hx h hr => ?_, ⟨fun _ => ⟨y, hy, ho, .inr rfl⟩, fun _ => rfl⟩⟩
  · rw [getD_set, if_neg (fun e => ho (by rw [← e.1]; exact h))]; exact U.keep x hx h
  · rw [getD_set]
    by_cases e : x = y
    · rw [if_pos ⟨e, by rw [U.len]; exact hy⟩]
    · rw [if_neg (fun h' => e h'.1)]
      exact U.new x hx h (hr.resolve_right e)
  · rw [getD_set, if_neg (fun h' => hr (.inr h'.1))]
    exact U.non x hx h fun h' => hr (.inl h')
variable {T : List (List Int)} {v : List Bool}
theorem TabP.row (hT : TabP T) {j : Nat} (hj : j < T.length) {i : Nat} (hi : i < T[j].length) : 0 ≤ T[j][i] ∧ T[j][i] < (T.length : Int) := hT _ (List.getElem_mem hj) _ (List.getElem_mem hi)
end Go.Ev

set_option linter.unusedVariables false
set_option linter.unusedSimpArgs false
namespace Go.Ev

/-! ### where one comes, with a row of those still to be looked at -/
noncomputable def rchT (T : List (List Int)) (v : List Bool) : List Bool := (farT T v).map fun x => decide (0 ≤ x)
theorem rchT_length (T : List (List Int)) (v : List Bool) : (rchT T v).length = T.length := by simp [rchT, farT_length]
theorem rchT_get {T : List (List Int)} {v : List Bool} {x : Nat} (h : x < T.length) : ((rchT T v).getD x false = true ↔ RchT T v x) := by
  rw [getD_get (by rw [rchT_length]; exact h)]
  simp only [rchT, List.getElem_map, decide_eq_true_eq]
  unfold RchT
  rw [getD_get (by rw [farT_length]; exact h)]
structure BfsI (T : List (List Int)) (v : List Bool) (is : List Bool) (row : List Int) (D : Nat → Nat → Prop) : Prop where
  len : is.length = T.length
  rows : ∀ y ∈ row, 0 ≤ y ∧ y < (T.length : Int) ∧ is.getD y.toNat false = true
  snd : ∀ x, x < T.length → is.getD x false = true → RchT T v x
  start : ∀ x, x < T.length → v.getD x false = true → is.getD x false = true
  cls : ∀ m x, m < T.length → x < T.length → is.getD m false = true → (x : Int) ∈ T.getD m [] → D m x → is.getD x false = true ∨ (m : Int) ∈ row
variable {T : List (List Int)} {v : List Bool}
theorem BfsI.done {is : List Bool} (I : BfsI T v is [] fun _ _ => True) : is = rchT T v := by
  refine list_ext_getD (d := false) I.len (rchT_length T v) fun x hx => ?_
  rw [Bool.eq_iff_iff, rchT_get hx]
  refine ⟨I.snd x hx, RchT.least (C := fun x => is.getD x false = true) I.start (fun m x hm hx h1 h2 => ?_) x hx⟩
  rcases I.cls m x hm hx h1 h2 trivial with h | h
  · exact h
  · simp at h
theorem marksOf_getD {p : List Int} {n x : Nat} (h : x < n) : ((marksOf p n).getD x false = true ↔ (x : Int) ∈ p) := by
  rw [getD_get (by rw [marksOf_length]; exact h), marksOf_get _ _ h, decide_eq_true_iff]
end Go.Ev

set_option linter.unusedVariables false
set_option linter.unusedSimpArgs false
namespace Go.Ev

/-! ### BlockReach -/
theorem mem_one {x y : Int} : x ∈ [y] ↔ x = y := by simp
theorem listOf_eq {k : Nat} (v : List Bool) (hv : v.length ≤ 1048576) (hk : 1048576 < k) : impl_listOf.f k v = some (listT v, ()) := by
  rw [impl_listOf.s]
  refine for_post (m := v.length) (l := fun n l j => impl_listOf.l3 k v n l j) (fun j l => l = ((List.range j).filter fun i => v.getD i false).map (fun (i : Nat) => (i : Int)) ∧ l.length ≤ j) (fun x => x = some (listT v, ())) (fun n l hI => ?_) (fun n j l hj hI ih => ?_) (by omega) (by simp)
  · have hl := hI.2
    rw [impl_listOf.s3, if_neg (by simp), clone_int_eq (by omega), hI.1]
    simp [listT]
  · simp (disch := omega) only [impl_listOf.s3, gd_t, toNat_nat, w64_id]
    rw [if_pos (by simpa using hj)]
    by_cases hb : v.getD j false = true
    · rw [if_pos hb, gd_t (by have := hI.2; simp; omega)]
      exact ih _ ⟨by rw [hI.1, List.range_succ, List.filter_append]; simp [hb, -List.getD_eq_getElem?_getD], by have := hI.2; simp; omega⟩
    · rw [if_neg hb]
      exact ih _ ⟨by rw [hI.1, List.range_succ, List.filter_append]; simp [hb, -List.getD_eq_getElem?_getD], by omega⟩
theorem listT_length (v : List Bool) : (listT v).length ≤ v.length := by
  have := List.length_filter_le (fun i => v.getD i false) (List.range v.length)
  simpa [listT] using this
end Go.Ev

set_option linter.unusedVariables false
set_option linter.unusedSimpArgs false
namespace Go.Ev

/-! ### where an expression is true -/
/-! ### sets without others -/
theorem asc_SetAt {p : List Int} (ha : Asc p) (n : Int) (hb : ∀ x ∈ p, 0 ≤ x ∧ x < n) : ∀ i, i < p.length → SetAt p n i := by
  intro i hi
  have := hb _ (List.getElem_mem hi)
  exact ⟨hi, ⟨by omega, by omega⟩, fun h0 => List.pairwise_iff_getElem.1 ha (i - 1) i (by omega) hi (by omega)⟩
theorem listT_bd {v : List Bool} {n : Nat} (h : v.length ≤ n) : ∀ x ∈ listT v, 0 ≤ x ∧ x < (n : Int) := by
  intro x hx
  obtain ⟨i, hi, _, rfl⟩ := mem_listT.1 hx
  omega
/-! ### AlwaysByBlocks -/
end Go.Ev

set_option linter.unusedVariables false
set_option linter.unusedSimpArgs false
namespace Go.Ev

/-! ### functions of the library that take a test -/
/-! ### what is behind a set -/
noncomputable def behT (T : List (List Int)) (v : List Bool) : List Bool := by
  classical
  exact (List.range T.length).map fun (x : Nat) => decide (∃ m, m < T.length ∧ v.getD m false = true ∧ (x : Int) ∈ T.getD m [])
theorem behT_length (T : List (List Int)) (v : List Bool) : (behT T v).length = T.length := by simp [behT]
theorem behT_getD {T : List (List Int)} {v : List Bool} {x : Nat} (h : x < T.length) : ((behT T v).getD x false = true ↔ ∃ m, m < T.length ∧ v.getD m false = true ∧ (x : Int) ∈ T.getD m []) := by
  rw [getD_get (by rw [behT_length]; exact h)]
  simp only [behT, List.getElem_map, List.getElem_range, decide_eq_true_iff]
/-- A row of marks, by what is marked. -/
structure MarkI (N : Nat) (R : Nat → Prop) (u : List Bool) : Prop where
  len : u.length = N
  iff : ∀ x, x < N → (u.getD x false = true ↔ R x)
theorem MarkI.imp {N : Nat} {R R' : Nat → Prop} {u : List Bool} (M : MarkI N R u) (h : ∀ x, x < N → (R x ↔ R' x)) : MarkI N R' u := ⟨M.len, fun x hx => (M.iff x hx).trans (h x hx)⟩
theorem MarkI.set {N : Nat} {R : Nat → Prop} {u : List Bool} (M : MarkI N R u) {y : Nat} (hy : y < N) : MarkI N (fun x => R x ∨ x = y) (u.set y true) := by
  refine ⟨by rw [List.length_set]; exact M.len, fun x hx => ?_⟩
  rw [getD_set' u y x _ _ (by rw [M.len]; exact hy)]
  by_cases e : x = y
  · simp [e]
  · simp [e, M.iff x hx, -List.getD_eq_getElem?_getD]
theorem MarkI.nil (N : Nat) {R : Nat → Prop} (h : ∀ x, x < N → ¬ R x) : MarkI N R (List.replicate N false) := ⟨by simp, fun x hx => by
  rw [getD_get (by simpa using hx)]; simp [h x hx]⟩
theorem MarkI.uniq {N : Nat} {R : Nat → Prop} {u v : List Bool} (M : MarkI N R u) (M' : MarkI N R v) : u = v := list_ext_getD (d := false) M.len M'.len fun x hx => by
  rw [Bool.eq_iff_iff, M.iff x hx, M'.iff x hx]
theorem behT_mark (T : List (List Int)) (v : List Bool) : MarkI T.length (fun x => ∃ m, m < T.length ∧ v.getD m false = true ∧ (x : Int) ∈ T.getD m []) (behT T v) := ⟨behT_length T v, fun x hx => behT_getD hx⟩
theorem over_eq {k : Nat} {T : List (List Int)} {p : List Int} (hT : TabP T) (hN : T.length ≤ 1048576) (hr : ∀ r ∈ T, r.length ≤ 1048576) (hp : ∀ x ∈ p, 0 ≤ x ∧ x < (T.length : Int)) (hpl : p.length ≤ 1048576) (hk : 1048577 < k) : impl_over.f k T p = some (listT (behT T (marksOf p T.length)), ()) := by
  rw [impl_over.s, gd_t (by omega), gd_t (by omega)]
  simp only [toNat_nat]
  refine for_post (m := p.length) (l := fun n u j => impl_over.l3 k T p n u j) (fun j u => MarkI T.length (fun x => ∃ n ∈ p.take j, (x : Int) ∈ T.getD n.toNat []) u) (fun x => x = some (listT (behT T (marksOf p T.length)), ())) (fun n u hI => ?_) (fun n j u hj hI ih => ?_) (by omega) (MarkI.nil _ fun x hx ⟨n, hn, _⟩ => by simp at hn)
  · rw [List.take_length] at hI
    have hu : u = behT T (marksOf p T.length) := MarkI.uniq hI ((behT_mark T _).imp fun x hx => by
      constructor
      · rintro ⟨m, hm, h1, h2⟩
        exact ⟨(m : Int), (marksOf_getD hm).1 h1, by rw [toNat_nat]; exact h2⟩
      · rintro ⟨n, hn, h2⟩
        have := hp n hn
        refine ⟨n.toNat, by omega, (marksOf_getD (by omega)).2 ?_, h2⟩
        rw [show ((n.toNat : Nat) : Int) = n by omega]; exact hn)
    rw [impl_over.s3, if_neg (by simp), hu, listOf_eq _ (by rw [behT_length]; exact hN) (by omega)]
    rfl
  · obtain ⟨h0, h1⟩ := hp _ (List.getElem_mem hj)
    have hjT : p[j].toNat < T.length := by omega
    have hrow : T.getD p[j].toNat [] = T[p[j].toNat] := getD_get hjT
    have hrl := hr _ (List.getElem_mem hjT)
    simp (disch := omega) only [impl_over.s3, gd_t, toNat_nat, getD_get hj]
    rw [if_pos (by simpa using hj)]
    refine for_post (m := T[p[j].toNat].length) (l := fun q w i => impl_over.l6 k n T p (j : Int) q w i) (fun i w => MarkI T.length (fun x => (∃ n ∈ p.take j, (x : Int) ∈ T.getD n.toNat []) ∨ (x : Int) ∈ T[p[j].toNat].take i) w) (fun x => x = some (listT (behT T (marksOf p T.length)), ())) (fun q w hW => ?_) (fun q i w hi hW ih2 => ?_) (by omega) (hI.imp fun x hx => by simp)
    · simp (disch := omega) only [impl_over.s6, toNat_nat, getD_get hj, hrow, w64_id]
      rw [if_neg (by simp)]
      refine ih _ (hW.imp fun x hx => ?_)
      rw [List.take_length]
      constructor
      · rintro (⟨m, hm, h⟩ | h)
        · exact ⟨m, (mem_take1 hj m).2 (.inl hm), h⟩
        · exact ⟨p[j], (mem_take1 hj _).2 (.inr rfl), by rw [hrow]; exact h⟩
      · rintro ⟨m, hm, h⟩
        rcases (mem_take1 hj m).1 hm with hm | hm
        · exact .inl ⟨m, hm, h⟩
        · right; rw [hm, hrow] at h; exact h
    · have hx := hT.row hjT hi
      have hwl := hW.len
      simp (disch := omega) only [impl_over.s6, gd_t, toNat_nat, getD_get hj, hrow, getD_get hi, w64_id]
      rw [if_pos (by simpa using hi)]
      refine ih2 _ ((hW.set (y := T[p[j].toNat][i].toNat) (by omega)).imp fun x hx' => ?_)
      rw [mem_take1 hi, or_assoc, show x = T[p[j].toNat][i].toNat ↔ (x : Int) = T[p[j].toNat][i] by omega]
end Go.Ev

set_option linter.unusedVariables false
set_option linter.unusedSimpArgs false
namespace Go.Ev

/-! ### both sets -/
/-! ### states of a block -/
/-- A set of numbers below n. -/
structure SetN (n : Nat) (p : List Int) : Prop where
  asc : Asc p
  bd : ∀ x ∈ p, 0 ≤ x ∧ x < (n : Int)
theorem asc_len : ∀ {p : List Int} {a n : Nat}, Asc p → (∀ x ∈ p, (a : Int) ≤ x ∧ x < (n : Int)) → p.length ≤ n - a
  | [], a, n, _, _ => by simp
  | x :: l, a, n, h, hb => by
    obtain ⟨h1, h2⟩ := List.pairwise_cons.1 h
    have hx := hb x (by simp)
    have := asc_len (p := l) (a := x.toNat + 1) (n := n) h2 fun y hy => by
      have := h1 y hy
      have := hb y (by simp [hy])
      omega
    simp only [List.length_cons]; omega
theorem SetN.len {n : Nat} {p : List Int} (h : SetN n p) : p.length ≤ n := by
  have := asc_len (a := 0) (n := n) h.asc fun x hx => by have := h.bd x hx; omega
  omega
end Go.Ev

set_option linter.unusedVariables false
set_option linter.unusedSimpArgs false
namespace Go.Ev

/-! ### the drawn numbers -/
/-- A reader whose bytes are bytes, and that has been asked at most c times. -/
def RdOk (s : List Int × Int) (c : Nat) : Prop := (∀ x ∈ s.1, 0 ≤ x ∧ x ≤ 255) ∧ s.1.length ≤ 2000 ∧ 0 ≤ s.2 ∧ s.2 ≤ (c : Int)
theorem RdOk.next {s : List Int × Int} {c : Nat} (h : RdOk s c) : RdOk (s.1, s.2 + 1) (c + 1) := by
  obtain ⟨h1, h2, h3, h4⟩ := h
  refine ⟨h1, h2, ?_, ?_⟩
  · show 0 ≤ s.2 + 1
    omega
  · show s.2 + 1 ≤ ((c + 1 : Nat) : Int)
    omega
theorem RdOk.weak {s : List Int × Int} {c c' : Nat} (h : RdOk s c) (hc : c ≤ c') : RdOk s c' := by
  obtain ⟨h1, h2, h3, h4⟩ := h
  exact ⟨h1, h2, h3, by omega⟩

theorem xor_ok {x y : Int} (hx : 0 ≤ x) (hx' : x < 4611686018427387904) (hy : 0 ≤ y) (hy' : y < 4611686018427387904) :
    0 ≤ w64 ((BitVec.ofInt IntKind.i64.bits x ^^^ BitVec.ofInt IntKind.i64.bits y).toNat : Int) := by
  obtain ⟨x, rfl⟩ := Int.eq_ofNat_of_zero_le hx
  obtain ⟨y, rfl⟩ := Int.eq_ofNat_of_zero_le hy
  have e : ∀ z : Nat, z < 4611686018427387904 → (BitVec.ofInt IntKind.i64.bits (z : Int)).toNat = z := by
    intro z hz
    show (BitVec.ofInt 64 (z : Int)).toNat = z
    rw [BitVec.ofInt_natCast, BitVec.toNat_ofNat]
    exact Nat.mod_eq_of_lt (by omega)
  have hlt : (x ^^^ y) < 2 ^ 62 := Nat.xor_lt_two_pow (by omega) (by omega)
  rw [BitVec.toNat_xor, e x (by omega), e y (by omega), w64_id (by omega) (by omega)]
  omega

theorem getD_byte {b : List Int} (h : ∀ x ∈ b, 0 ≤ x ∧ x ≤ 255) (i : Nat) : 0 ≤ b.getD i 0 ∧ b.getD i 0 ≤ 255 := by
  by_cases hi : i < b.length
  · rw [getD_get hi]; exact h _ (List.getElem_mem hi)
  · rw [List.getD_eq_getElem?_getD, List.getElem?_eq_none (by omega)]
    simp

theorem pick_ok {k : Nat} {s : List Int × Int} {c : Nat} (h : RdOk s c) (hc : c < 1000000000) (n : Int) :
    ∃ v, spec_l40Rd_pick.f k s n = some (v, (s.1, s.2 + 1)) ∧ 0 ≤ v ∧ (1 ≤ n → v < n) ∧ (n < 1 → v = 0) := by
  obtain ⟨b, p⟩ := s
  obtain ⟨hb, hl, hp, hpc⟩ := h
  dsimp only at hb hl hp hpc ⊢
  obtain ⟨p, rfl⟩ := Int.eq_ofNat_of_zero_le hp
  have e1 : w64 ((p : Int) + 1) = (p : Int) + 1 := w64_id (by omega) (by omega)
  have e2 : w64 ((p : Int) + 1 - 1) = (p : Int) := by rw [w64_id (by omega) (by omega)]; omega
  have e3 : w64 ((p : Int) * 7) = (p : Int) * 7 := w64_id (by omega) (by omega)
  have e4 : w64 ((p : Int) * 7 + 3) = (p : Int) * 7 + 3 := w64_id (by omega) (by omega)
  have e5 : w64 ((p : Int) * 29) = (p : Int) * 29 := w64_id (by omega) (by omega)
  rw [spec_l40Rd_pick.s]
  simp only [e1, e2, e3, e4, e5]
  by_cases h1 : n < 1
  · rw [if_pos (by simpa using h1)]
    exact ⟨0, rfl, Int.le_refl _, fun h => by omega, fun _ => rfl⟩
  rw [if_neg (by simpa using h1)]
  have fin : ∀ x : Int, 0 ≤ x → 0 ≤ x.tmod n ∧ (1 ≤ n → x.tmod n < n) ∧ (n < 1 → x.tmod n = 0) := by
    intro x hx
    exact ⟨Int.tmod_nonneg _ hx, fun h => Int.tmod_lt_of_pos _ (by omega), fun h => by omega⟩
  by_cases h2 : b.length = 0
  · rw [if_pos (by simp [h2])]
    exact ⟨0, rfl, Int.le_refl _, fun h => by omega, fun _ => rfl⟩
  rw [if_neg (by simp; intro h; exact h2 (by rw [h]; rfl))]
  by_cases h3 : (p : Int) < (b.length : Int)
  · rw [if_pos (by simpa using h3), gd_t (by omega), gd_t h3, gd_t (by omega)]
    have hx := getD_byte hb ((p : Int)).toNat
    rw [w64_id (by omega) (by omega)]
    exact ⟨_, rfl, fin _ hx.1⟩
  · rw [if_neg (by simpa using h3)]
    have hl0 : (0 : Int) < (b.length : Int) := by omega
    have t1 : 0 ≤ (p : Int).tmod (b.length : Int) := Int.tmod_nonneg _ (by omega)
    have t2 : (p : Int).tmod (b.length : Int) < (b.length : Int) := Int.tmod_lt_of_pos _ hl0
    have t3 : 0 ≤ ((p : Int) * 7 + 3).tmod (b.length : Int) := Int.tmod_nonneg _ (by omega)
    have t4 : ((p : Int) * 7 + 3).tmod (b.length : Int) < (b.length : Int) := Int.tmod_lt_of_pos _ hl0
    rw [gd_t (by omega), gd_t t1, gd_t t2, gd_t (by omega), gd_t t3, gd_t t4, gd_t (by omega), gd_t (by omega), gd_t (by omega)]
    have hx := getD_byte hb ((p : Int).tmod (b.length : Int)).toNat
    have hy := getD_byte hb (((p : Int) * 7 + 3).tmod (b.length : Int)).toNat
    generalize b.getD ((p : Int).tmod (b.length : Int)).toNat 0 = x at hx ⊢
    generalize b.getD (((p : Int) * 7 + 3).tmod (b.length : Int)).toNat 0 = y at hy ⊢
    have hq : 0 ≤ (p : Int).tdiv (b.length : Int) ∧ (p : Int).tdiv (b.length : Int) ≤ (p : Int) :=
      ⟨Int.tdiv_nonneg (by omega) (by omega), Int.tdiv_le_self _ (by omega)⟩
    generalize (p : Int).tdiv (b.length : Int) = q at hq ⊢
    have a1 : w64 x = x := w64_id (by omega) (by omega)
    have a2 : w64 (x * 131) = x * 131 := w64_id (by omega) (by omega)
    have a3 : w64 y = y := w64_id (by omega) (by omega)
    have a4 : w64 (y * 1117) = y * 1117 := w64_id (by omega) (by omega)
    have a5 : w64 (x * 131 + y * 1117) = x * 131 + y * 1117 := w64_id (by omega) (by omega)
    have a6 : w64 (x * 131 + y * 1117 + (p : Int) * 29) = x * 131 + y * 1117 + (p : Int) * 29 := w64_id (by omega) (by omega)
    have a7 : w64 q = q := w64_id (by omega) (by omega)
    have a8 : w64 (q * 53) = q * 53 := w64_id (by omega) (by omega)
    have a9 : w64 (x * 131 + y * 1117 + (p : Int) * 29 + q * 53) = x * 131 + y * 1117 + (p : Int) * 29 + q * 53 := w64_id (by omega) (by omega)
    simp only [a1, a2, a3, a4, a5, a6, a7, a8, a9]
    have hS : 0 ≤ x * 131 + y * 1117 + (p : Int) * 29 + q * 53 ∧ x * 131 + y * 1117 + (p : Int) * 29 + q * 53 < 4611686018427387904 := by omega
    generalize x * 131 + y * 1117 + (p : Int) * 29 + q * 53 = S at hS ⊢
    have hT : 0 ≤ S.tdiv 64 ∧ S.tdiv 64 ≤ S := ⟨Int.tdiv_nonneg (by omega) (by omega), Int.tdiv_le_self _ (by omega)⟩
    have a10 : w64 (S.tdiv 64) = S.tdiv 64 := w64_id (by omega) (by omega)
    simp only [a10]
    exact ⟨_, rfl, fin _ (xor_ok (by omega) (by omega) (by omega) (by omega))⟩

theorem num_ok {k : Nat} {s : List Int × Int} {c : Nat} (h : RdOk s c) (hc : c < 1000000000) {l : List Int} (hl : l ≠ []) :
    ∃ v, spec_l40Rd_num.f k s l = some (v, (s.1, s.2 + 1)) ∧ v ∈ l := by
  obtain ⟨v, e, h0, h1, _⟩ := pick_ok (k := k) h hc (l.length : Int)
  have hpos : 0 < l.length := List.length_pos_iff.2 hl
  have hv := h1 (by omega)
  rw [spec_l40Rd_num.s]
  rw [e]
  simp only [Option.bind_some]
  rw [gd_t h0, gd_t hv]
  have hn : v.toNat < l.length := by omega
  rw [getD_get hn]
  exact ⟨_, rfl, List.getElem_mem hn⟩

theorem l40Open_ok {k : Nat} {b : List Int} (hb : ∀ x ∈ b, 0 ≤ x ∧ x ≤ 255) : ∃ s, spec_l40Open.f k b = some (s, ()) ∧ RdOk s 0 := by
  rw [spec_l40Open.s]
  by_cases h : (b.length : Int) > 2000
  · rw [if_pos (by simpa using h), gd_t (by omega), gd_t (by omega), gd_t (by omega)]
    refine ⟨_, rfl, fun x hx => hb x (List.mem_of_mem_take (List.mem_of_mem_drop hx)), ?_, Int.le_refl _, Int.le_refl _⟩
    show (List.drop _ (List.take _ b)).length ≤ 2000
    simp
    omega
  · rw [if_neg (by simpa using h)]
    exact ⟨_, rfl, hb, by show b.length ≤ 2000; omega, Int.le_refl _, Int.le_refl _⟩

/-! ### numbers -/
theorem l1Number_ok {k : Nat} {s : List Int × Int} {c : Nat} (h : RdOk s c) (hc : c < 1000000) : ∃ v s', spec_l1Number.f k s = some (v, s') ∧ RdOk s' (c + 6) := by
  rw [spec_l1Number.s]
  obtain ⟨v1, e1, _⟩ := pick_ok (k := k) h (by omega) 4
  rw [e1]; simp only [Option.bind_some]
  have h := h.next
  obtain ⟨v2, e2, _⟩ := pick_ok (k := k) h (by omega) 4
  rw [e2]; simp only [Option.bind_some]
  have h := h.next
  obtain ⟨v3, e3, _⟩ := pick_ok (k := k) h (by omega) 7
  rw [e3]; simp only [Option.bind_some]
  have h := h.next
  obtain ⟨v4, e4, _⟩ := pick_ok (k := k) h (by omega) 200
  rw [e4]; simp only [Option.bind_some]
  have h := h.next
  obtain ⟨v5, e5, g0, g1, _⟩ := pick_ok (k := k) h (by omega) 4
  rw [e5]; simp only [Option.bind_some]
  have h := h.next
  rw [gd_t g0, gd_t (by simp; have := g1 (by omega); omega)]
  obtain ⟨v6, e6, _⟩ := num_ok (k := k) h (by omega) (l := [v1, v2, w64 (v3 - 3), 1, 0, w64 (v4 - 100), [9999, -9999, 5000, 100].getD v5.toNat 0]) (by simp)
  rw [e6]; simp only [Option.bind_some]
  exact ⟨_, _, rfl, h.next⟩

/-! ### orders -/
end Go.Ev

set_option linter.unusedVariables false
set_option linter.unusedSimpArgs false
namespace Go.Ev
/-! ### drawn systems -/
theorem l2Cond_ok {k : Nat} {s : List Int × Int} {c : Nat} (h : RdOk s c) (hc : c < 1000000) (va : VA) (i : Int) : ∃ t s', spec_l2Cond.f k s va i = some (t, s') ∧ RdOk s' (c + 3) ∧ t.length ≤ 4 := by
  rw [spec_l2Cond.s]
  obtain ⟨v1, e1, _⟩ := pick_ok (k := k) h (by omega) (w64 ((w64 (va.2.1 - va.1)) + 1))
  rw [e1]; simp only [Option.bind_some]
  have h := h.next
  obtain ⟨v2, e2, _⟩ := num_ok (k := k) h (by omega) (l := [6, 5, 5, 6]) (by simp)
  rw [e2]; simp only [Option.bind_some]
  have h := h.next
  rw [spec_l2VarOf.s, spec_l2Const.s]
  simp only [Option.bind_some]
  obtain ⟨v3, e3, _⟩ := pick_ok (k := k) h (by omega) 3
  rw [e3]; simp only [Option.bind_some]
  have h := h.next
  by_cases h0 : v3 = 0
  · rw [if_pos (by simp [h0]), gd_t (by simp)]
    exact ⟨_, _, rfl, h, by simp⟩
  · rw [if_neg (by simp [h0])]
    exact ⟨_, _, rfl, h, by simp⟩
theorem Joined_l9 {k : Nat} (hk : 1000 < k) {o : Int} {p q : List TM} {vars : Int} (hp : p.length ≤ 20) (hq : q.length ≤ 20) {a : List TM} (ha : a.length = p.length) : ∃ t, spec_Joined.l9 k o p q vars k a 0 = some (t, ()) ∧ t.length ≤ 41 := by
  obtain ⟨k', rfl⟩ : ∃ m, k = m + 1 := ⟨k - 1, by omega⟩
  have fin : ∀ a : List TM, a.length ≤ 40 → ∃ t, spec_Joined.lj12 (k' + 1) o p vars a (k' + 1) = some (t, ()) ∧ t.length ≤ 41 := by
    intro a ha
    rw [spec_Joined.sj12, gd_t (by simp; omega)]
    by_cases ho : o < 2
    · rw [if_pos (by simpa using ho)]; exact ⟨_, rfl, by simp⟩
    · rw [if_neg (by simpa using ho), spec_TermsValid.s]
      obtain ⟨r, e1, e2, hr, hR⟩ := kinds_eq (k := k' + 1) hk (a ++ [(o, (0, (w64 (((p.length : Int)) - 1), w64 (((a.length : Int)) - 1))))]) vars (by simp; omega)
      rw [e1]; simp only [Option.bind_some]
      split
      · exact ⟨_, rfl, by simp⟩
      · exact ⟨_, rfl, by simp; omega⟩
  refine for_post (m := q.length) (l := fun n a j => spec_Joined.l9 (k' + 1) o p q vars n a j) (fun j a => a.length ≤ p.length + j) (fun x => ∃ t, x = some (t, ()) ∧ t.length ≤ 41) (fun n a hI => ?_) (fun n j a hj hI ih => ?_) (by omega) (by omega)
  · rw [spec_Joined.s9, if_neg (by simp)]
    exact fin a (by omega)
  · have hw : w64 ((j : Int) + 1) = (j : Int) + 1 := w64_id (by omega) (by omega)
    rw [spec_Joined.s9, if_pos (by simpa using hj), spec_l1One.s]
    simp only [Option.bind_some]
    split
    · rw [gd_t (by omega), gd_t (by omega), spec_l1Moved.s]
      split
      all_goals
        simp only [Option.bind_some]
        rw [gd_t (by simp; omega), hw]
        exact ih _ (by simp; omega)
    · exact fin a (by omega)
theorem Joined_ok {k : Nat} (hk : 1000 < k) {o : Int} {p q : List TM} {vars : Int} (hp : p.length ≤ 20) (hq : q.length ≤ 20) : ∃ t, spec_Joined.f k o p q vars = some (t, ()) ∧ t.length ≤ 41 := by
  rw [spec_Joined.s, spec_TermsValid.s, spec_TermsValid.s]
  obtain ⟨r, e1, _, _, _⟩ := kinds_eq hk p vars (by omega)
  obtain ⟨r', e1', _, _, _⟩ := kinds_eq hk q vars (by omega)
  rw [e1, e1']; simp only [Option.bind_some]
  split
  · exact ⟨_, rfl, by simp⟩
  split
  · exact ⟨_, rfl, by simp⟩
  refine for_post (m := p.length) (l := fun n a j => spec_Joined.l5 k o p q vars n a j) (fun j a => a.length = j) (fun x => ∃ t, x = some (t, ()) ∧ t.length ≤ 41) (fun n a hI => ?_) (fun n j a hj hI ih => ?_) (by omega) rfl
  · rw [spec_Joined.s5, if_neg (by simp)]
    exact Joined_l9 hk hp hq hI
  · rw [spec_Joined.s5, if_pos (by simpa using hj), gd_t (by omega), gd_t (by omega), gd_t (by simp; omega), w64_id (by omega) (by omega)]
    exact ih _ (by simp; omega)
theorem l2When_ok {k : Nat} (hk : 1000 < k) {s : List Int × Int} {c : Nat} (h : RdOk s c) (hc : c < 900000) {vs : List VA} (hv : vs.length ≠ 0) : ∃ t s', spec_l2When_w1.f k s vs = some (t, (s', vs)) ∧ RdOk s' (c + 10) ∧ t.length ≤ 41 := by
  rw [spec_l2When_w1.s]
  obtain ⟨v1, e1, g0, g1, _⟩ := pick_ok (k := k) h (by omega) (vs.length : Int)
  rw [e1]; simp only [Option.bind_some]
  have h := h.next
  rw [gd_t g0, gd_t (g1 (by omega))]
  obtain ⟨t, s1, e2, h, ht⟩ := l2Cond_ok (k := k) h (by omega) (vs.getD v1.toNat (0, (0, 0))) v1
  rw [e2]; simp only [Option.bind_some]
  obtain ⟨v3, e3, _⟩ := pick_ok (k := k) h (by omega) 2
  rw [e3]; simp only [Option.bind_some]
  have h := h.next
  by_cases h0 : v3 = 0
  · rw [if_pos (by simp [h0])]
    obtain ⟨v4, e4, g0, g1, _⟩ := pick_ok (k := k) h (by omega) (vs.length : Int)
    rw [e4]; simp only [Option.bind_some]
    have h := h.next
    rw [gd_t g0, gd_t (g1 (by omega))]
    obtain ⟨v5, e5, _⟩ := num_ok (k := k) h (by omega) (l := [8, 9, 8]) (by simp)
    rw [e5]; simp only [Option.bind_some]
    have h := h.next
    obtain ⟨t2, s2, e6, h, ht2⟩ := l2Cond_ok (k := k) h (by omega) (vs.getD v4.toNat (0, (0, 0))) v4
    rw [e6]; simp only [Option.bind_some]
    obtain ⟨t3, e7, ht3⟩ := Joined_ok (k := k) hk (o := v5) (p := t) (q := t2) (vars := (vs.length : Int)) (by omega) (by omega)
    rw [e7]; simp only [Option.bind_some]
    exact ⟨_, _, rfl, h.weak (by omega), ht3⟩
  · rw [if_neg (by simp [h0])]
    exact ⟨_, _, rfl, h.weak (by omega), by omega⟩
theorem l1Pick_ok {k : Nat} {s : List Int × Int} {c : Nat} (h : RdOk s c) (hc : c < 1000000) {p : List Int} (hp : p.length ≤ 100) (hk : 1000 < k) (q : Int) : ∃ v s', spec_l1Pick.f k s p q = some (v, s') ∧ RdOk s' (c + 1) := by
  rw [spec_l1Pick.s]
  obtain ⟨v1, e1, g0, g1, g2⟩ := pick_ok (k := k) h (by omega) (p.length : Int)
  rw [e1]; simp only [Option.bind_some]
  have h := h.next
  refine for_post (m := p.length) (l := fun n (_ : Unit) j => spec_l1Pick.l3 k p q n _ v1 j) (fun j _ => True) (fun x => ∃ v s', x = some (v, s') ∧ RdOk s' (c + 1)) (fun n a hI => ?_) (fun n j a hj hI ih => ?_) (s := ()) (by omega) trivial
  · rw [spec_l1Pick.s3, if_neg (by simp)]
    exact ⟨_, _, rfl, h⟩
  · have hv := g1 (by omega)
    have w1 : w64 (v1 + (j : Int)) = v1 + j := w64_id (by omega) (by omega)
    have t1 : 0 ≤ (v1 + (j : Int)).tmod (p.length : Int) := Int.tmod_nonneg _ (by omega)
    have t2 : (v1 + (j : Int)).tmod (p.length : Int) < (p.length : Int) := Int.tmod_lt_of_pos _ (by omega)
    rw [spec_l1Pick.s3, if_pos (by simpa using hj), w1, gd_t (by omega), gd_t t1, gd_t t2, w64_id (by omega) (by omega)]
    split
    · exact ⟨_, _, rfl, h⟩
    · exact ih () trivial
theorem l1Pickw_ok {k : Nat} {s : List Int × Int} {c : Nat} (h : RdOk s c) (hc : c < 1000000) {p : List Int} (hp : p.length ≤ 100) (hk : 1000 < k) (q : Int) : ∃ v s', spec_l1Pick_w1.f k s p q = some (v, (s', p)) ∧ RdOk s' (c + 1) := by
  rw [spec_l1Pick_w1.s]
  obtain ⟨v1, e1, g0, g1, g2⟩ := pick_ok (k := k) h (by omega) (p.length : Int)
  rw [e1]; simp only [Option.bind_some]
  have h := h.next
  refine for_post (m := p.length) (l := fun n (_ : Unit) j => spec_l1Pick_w1.l3 k p q n _ v1 j) (fun j _ => True) (fun x => ∃ v s', x = some (v, (s', p)) ∧ RdOk s' (c + 1)) (fun n a hI => ?_) (fun n j a hj hI ih => ?_) (s := ()) (by omega) trivial
  · rw [spec_l1Pick_w1.s3, if_neg (by simp)]
    exact ⟨_, _, rfl, h⟩
  · have hv := g1 (by omega)
    have w1 : w64 (v1 + (j : Int)) = v1 + j := w64_id (by omega) (by omega)
    have t1 : 0 ≤ (v1 + (j : Int)).tmod (p.length : Int) := Int.tmod_nonneg _ (by omega)
    have t2 : (v1 + (j : Int)).tmod (p.length : Int) < (p.length : Int) := Int.tmod_lt_of_pos _ (by omega)
    rw [spec_l1Pick_w1.s3, if_pos (by simpa using hj), w1, gd_t (by omega), gd_t t1, gd_t t2, w64_id (by omega) (by omega)]
    split
    · exact ⟨_, _, rfl, h⟩
    · exact ih () trivial

theorem l1Terms_ok {k : Nat} (hk : 100000 < k) {s : List Int × Int} {c : Nat} (h : RdOk s c) (hc : c < 900000) {vars : Int} (hv0 : 0 ≤ vars) (hv1 : vars ≤ 1000) : ∃ t s', spec_l1Terms.f k s vars 1 5 = some (t, s') ∧ RdOk s' (c + 100) ∧ t.length ≤ 10 := by
  obtain ⟨k', rfl⟩ : ∃ m, k = m + 1 := ⟨k - 1, by omega⟩
  rw [spec_l1Terms.s]
  obtain ⟨v1, e1, g0, g1, _⟩ := pick_ok (k := k' + 1) h (by omega) 5
  rw [e1]; simp only [Option.bind_some]
  have h := h.next
  have hv := g1 (by omega)
  obtain ⟨m, rfl⟩ := Int.eq_ofNat_of_zero_le g0
  rw [show w64 (2 + (m : Int)) = ((m + 2 : Nat) : Int) by rw [w64_id (by omega) (by omega)]; omega]
  -- the end
  have fin : ∀ (s : List Int × Int) (t : List TM) (ks : List Int) (c' : Nat), RdOk s c' → c' ≤ c + 80 → t.length ≤ 8 → ks.length = t.length → t.length ≠ 0 → ∃ t' s', spec_l1Terms.lj26 (k' + 1) 1 s (k' + 1) t ks = some (t', s') ∧ RdOk s' (c + 100) ∧ t'.length ≤ 10 := by
    intro s t ks c' h hc' ht hks ht0
    rw [spec_l1Terms.sj26, if_neg (by simp), spec_l1Terms.sj28, if_neg (by simp), if_pos (by simp), w64_id (by omega) (by omega), gd_t (by omega), gd_t (by omega)]
    split
    · obtain ⟨v2, s2, e2, h⟩ := l1Pick_ok (k := k' + 1) h (by omega) (p := ks) (by omega) (by omega) 1
      rw [e2]; simp only [Option.bind_some]
      obtain ⟨v3, e3, _⟩ := num_ok (k := k' + 1) h (by omega) (l := [2, 3]) (by simp)
      rw [e3]; simp only [Option.bind_some]
      have h := h.next
      obtain ⟨v4, s4, e4, h⟩ := l1Pick_ok (k := k' + 1) h (by omega) (p := ks) (by omega) (by omega) 1
      rw [e4]; simp only [Option.bind_some]
      rw [gd_t (by simp; omega)]
      exact ⟨_, _, rfl, h.weak (by omega), by simp; omega⟩
    · exact ⟨_, _, rfl, h.weak (by omega), by omega⟩
  have main : ∀ (d n : Nat) (s : List Int × Int) (t : List TM) (ks : List Int) (c' : Nat), d < n → RdOk s c' → c' + 10 * d ≤ c + 70 → t.length + d ≤ 6 → ks.length = t.length → ∃ t' s', spec_l1Terms.l4 (k' + 1) vars 1 n s t ks (d : Int) = some (t', s') ∧ RdOk s' (c + 100) ∧ t'.length ≤ 10 := by
    intro d
    induction d with
    | zero =>
      intro n s t ks c' hn h hc' ht hks
      obtain ⟨n, rfl⟩ : ∃ m, n = m + 1 := ⟨n - 1, by omega⟩
      rw [spec_l1Terms.s4, if_neg (by simp)]
      by_cases h0 : t.length = 0
      · rw [if_pos (by simp [h0]), gd_t (by simp; omega), gd_t (by simp; omega)]
        exact fin _ _ _ c' h (by omega) (by simp; omega) (by simp; omega) (by simp)
      · rw [if_neg (by simp; intro e; exact h0 (by rw [e]; rfl))]
        exact fin _ _ _ c' h (by omega) (by omega) hks h0
    | succ d ih =>
      intro n s t ks c' hn h hc' ht hks
      obtain ⟨n, rfl⟩ : ∃ m, n = m + 1 := ⟨n - 1, by omega⟩
      have hw : w64 (((d + 1 : Nat) : Int) - 1) = (d : Int) := by rw [w64_id (by omega) (by omega)]; omega
      have j19 : ∀ (s : List Int × Int) (c2 : Nat) (x : TM), RdOk s c2 → c2 + 10 * d ≤ c + 70 → ∃ t' s', spec_l1Terms.lj19 (k' + 1) n vars 1 ((d + 1 : Nat) : Int) t (k' + 1) s ks x = some (t', s') ∧ RdOk s' (c + 100) ∧ t'.length ≤ 10 := by
        intro s c2 x h hc2
        rw [spec_l1Terms.sj19, l1Kind_eq (by omega) x ks vars (by omega) ⟨hv0, hv1⟩, hw]
        simp only [Option.bind_some]
        split
        · rw [gd_t (by simp; omega), gd_t (by simp; omega)]
          exact ih n s _ _ c2 (by omega) h hc2 (by simp; omega) (by simp; omega)
        · exact ih n s _ _ c2 (by omega) h hc2 (by omega) hks
      have j15 : ∀ (s : List Int × Int) (c2 : Nat) (o q : Int) (x : TM), RdOk s c2 → c2 + 2 + 10 * d ≤ c + 70 → ∃ t' s', spec_l1Terms.lj15 (k' + 1) n vars 1 s ks ((d + 1 : Nat) : Int) o x t (k' + 1) q = some (t', s') ∧ RdOk s' (c + 100) ∧ t'.length ≤ 10 := by
        intro s c2 o q x h hc2
        rw [spec_l1Terms.sj15]
        obtain ⟨v2, s2, e2, h⟩ := l1Pickw_ok (k := k' + 1) h (by omega) (p := ks) (by omega) (by omega) q
        rw [e2]; simp only [Option.bind_some]
        obtain ⟨v3, s3, e3, h⟩ := l1Pickw_ok (k := k' + 1) h (by omega) (p := ks) (by omega) (by omega) q
        rw [e3]; simp only [Option.bind_some]
        rw [spec_l1One.s]
        simp only [Option.bind_some]
        split
        · exact j19 _ _ _ h (by omega)
        · exact j19 _ _ _ h (by omega)
      have j9 : ∀ (s : List Int × Int) (c2 : Nat) (o : Int) (x : TM) (b : Bool), RdOk s c2 → c2 + 8 + 10 * d ≤ c + 70 → ∃ t' s', spec_l1Terms.lj9 (k' + 1) n vars 1 ks ((d + 1 : Nat) : Int) t (k' + 1) s o x b = some (t', s') ∧ RdOk s' (c + 100) ∧ t'.length ≤ 10 := by
        intro s c2 o x b h hc2
        rw [spec_l1Terms.sj9]
        split
        · obtain ⟨v2, s2, e2, h⟩ := l1Number_ok (k := k' + 1) h (by omega)
          rw [e2]; simp only [Option.bind_some]
          split
          · split
            · obtain ⟨v3, e3, _⟩ := pick_ok (k := k' + 1) h (by omega) vars
              rw [e3]; simp only [Option.bind_some]
              exact j19 _ _ _ h.next (by omega)
            · exact j19 _ _ _ h (by omega)
          · exact j19 _ _ _ h (by omega)
        · split
          · exact j15 _ _ _ _ _ h (by omega)
          · exact j15 _ _ _ _ _ h (by omega)
      rw [spec_l1Terms.s4, if_pos (by simp)]
      obtain ⟨v2, e2, _⟩ := num_ok (k := k' + 1) h (by omega) (l := [0, 1, 1, 2, 3, 4, 5, 6, 5, 6, 7, 8, 9]) (by simp)
      rw [e2]; simp only [Option.bind_some]
      have h := h.next
      split
      · exact j9 _ _ _ _ _ h (by omega)
      · exact j9 _ _ _ _ _ h (by omega)
  exact main (m + 2) (k' + 1) _ [] [] _ (by omega) h (by omega) (by simp; omega) rfl
theorem l2Value_ok {k : Nat} (hk : 100000 < k) {s : List Int × Int} {c : Nat} (h : RdOk s c) (hc : c < 800000) {vs : List VA} (hv : vs.length ≤ 1000) {i : Nat} (hi : i < vs.length) : ∃ t s', spec_l2Value_w1.f k s vs (i : Int) = some (t, (s', vs)) ∧ RdOk s' (c + 110) ∧ t.length ≤ 10 := by
  rw [spec_l2Value_w1.s]
  obtain ⟨v1, e1, _⟩ := pick_ok (k := k) h (by omega) 6
  rw [e1]; simp only [Option.bind_some]
  have h := h.next
  rw [spec_l2VarOf.s, spec_l2Const.s]
  simp only [Option.bind_some]
  split
  · obtain ⟨v2, e2, _⟩ := num_ok (k := k) h (by omega) (l := [2, 3]) (by simp)
    rw [e2]; simp only [Option.bind_some]
    exact ⟨_, _, rfl, h.next.weak (by omega), by simp⟩
  split
  · simp (disch := omega) only [gd_t]
    obtain ⟨v2, e2, _⟩ := pick_ok (k := k) h (by omega) (w64 ((w64 ((vs.getD ((i : Int).toNat) (0, (0, 0))).2.1 - (vs.getD ((i : Int).toNat) (0, (0, 0))).1)) + 1))
    rw [e2]; simp only [Option.bind_some]
    rw [spec_l2Const.s]
    exact ⟨_, _, rfl, h.next.weak (by omega), by simp⟩
  split
  · obtain ⟨v2, e2, _⟩ := pick_ok (k := k) h (by omega) (vs.length : Int)
    rw [e2]; simp only [Option.bind_some]
    rw [spec_l2VarOf.s]
    exact ⟨_, _, rfl, h.next.weak (by omega), by simp⟩
  · obtain ⟨t, s2, e2, h, ht⟩ := l1Terms_ok hk h (by omega) (vars := (vs.length : Int)) (by omega) (by omega)
    rw [e2]; simp only [Option.bind_some]
    exact ⟨_, _, rfl, h.weak (by omega), ht⟩
end Go.Ev

set_option linter.unusedVariables false
set_option linter.unusedSimpArgs false
namespace Go.Ev

/-! ### drawn rules and systems -/
def RuB (n : Nat) (r : RU) : Prop := r.1.length ≤ 41 ∧ r.2.1.length ≤ n ∧ r.2.2.length ≤ n ∧ ∀ x ∈ r.2.2, x.length ≤ 10
theorem RuB.weak {n m : Nat} {r : RU} (h : RuB n r) (hn : n ≤ m) : RuB m r := ⟨h.1, Nat.le_trans h.2.1 hn, Nat.le_trans h.2.2.1 hn, h.2.2.2⟩
theorem l2Rules_ok {k : Nat} (hk : 100000 < k) {s : List Int × Int} {c : Nat} (h : RdOk s c) (hc : c < 500000) {vs : List VA} (hv : vs.length ≤ 4) (hv0 : vs.length ≠ 0) {m : Nat} (hm : m ≤ 4) :
    ∃ rs s', spec_l2Rules_w1.f k s vs (m : Int) = some (rs, (s', vs)) ∧ RdOk s' (c + 4000) ∧ rs.length ≤ 4 ∧ ∀ r ∈ rs, RuB 4 r := by
  obtain ⟨k', rfl⟩ : ∃ m, k = m + 1 := ⟨k - 1, by omega⟩
  rw [spec_l2Rules_w1.s]
  refine for_post (m := m) (l := fun n (q : (List Int × Int) × List RU) j => spec_l2Rules_w1.l3 (k' + 1) (m : Int) n q.1 vs q.2 j) (fun j q => (∃ c', RdOk q.1 c' ∧ c' ≤ c + 900 * j) ∧ q.2.length = j ∧ ∀ r ∈ q.2, RuB 4 r) (fun x => ∃ rs s', x = some (rs, (s', vs)) ∧ RdOk s' (c + 4000) ∧ rs.length ≤ 4 ∧ ∀ r ∈ rs, RuB 4 r)
    (fun n q hI => ?_) (fun n j q hj hI ih => ?_) (s := (s, [])) (by omega) ⟨⟨c, h, by omega⟩, rfl, fun r hr => by simp at hr⟩
  · obtain ⟨⟨c', h, hc'⟩, hl, hr⟩ := hI
    rw [spec_l2Rules_w1.s3, if_neg (by simp)]
    exact ⟨_, _, rfl, h.weak (by omega), by omega, hr⟩
  · obtain ⟨s, rs⟩ := q
    obtain ⟨⟨c', h, hc'⟩, hl, hr⟩ := hI
    simp only at h hl hr ih ⊢
    rw [spec_l2Rules_w1.s3, if_pos (by simp; omega)]
    obtain ⟨t, s1, e1, h, ht⟩ := l2When_ok (k := k' + 1) (by omega) h (by omega) hv0
    rw [e1]; simp only [Option.bind_some]
    refine for_post (m := vs.length) (l := fun q (u : (List Int × Int) × RU) i => spec_l2Rules_w1.l7 (k' + 1) n (m : Int) rs (j : Int) q u.1 vs u.2 i) (fun i u => (∃ c2, RdOk u.1 c2 ∧ c2 ≤ c' + 10 + 200 * i) ∧ u.2.1.length ≤ 41 ∧ u.2.2.1.length ≤ i ∧ u.2.2.2.length ≤ i ∧ ∀ x ∈ u.2.2.2, x.length ≤ 10) (fun x => ∃ rs s', x = some (rs, (s', vs)) ∧ RdOk s' (c + 4000) ∧ rs.length ≤ 4 ∧ ∀ r ∈ rs, RuB 4 r)
      (fun q u hU => ?_) (fun q i u hi hU ih2 => ?_) (s := (s1, (t, ([], [])))) (by omega) ⟨⟨_, h, by omega⟩, ht, by simp, by simp, fun x hx => by simp at hx⟩
    · obtain ⟨⟨c2, h, hc2⟩, u1, u2, u3, u4⟩ := hU
      simp (disch := omega) only [spec_l2Rules_w1.s7, gd_true, gd_t, List.length_singleton, w64_id]
      rw [if_neg (by simp)]
      refine ih (u.1, rs ++ [u.2]) ⟨⟨c2, h, by omega⟩, by simp; omega, fun r hr' => ?_⟩
      rcases List.mem_append.1 hr' with hr' | hr'
      · exact hr r hr'
      · rw [List.mem_singleton.1 hr']
        exact ⟨u1, by omega, by omega, u4⟩
    · obtain ⟨s, r⟩ := u
      obtain ⟨⟨c2, h, hc2⟩, u1, u2, u3, u4⟩ := hU
      simp only at h u1 u2 u3 u4 ih2 ⊢
      have j10 : ∀ (s : List Int × Int) (c3 : Nat) (b : Bool), RdOk s c3 → c3 ≤ c2 + 2 → ∃ rs' s', spec_l2Rules_w1.lj10 (k' + 1) n q (m : Int) (i : Int) vs rs (j : Int) r (k' + 1) s b = some (rs', (s', vs)) ∧ RdOk s' (c + 4000) ∧ rs'.length ≤ 4 ∧ ∀ r ∈ rs', RuB 4 r := by
        intro s c3 b h hc3
        rw [spec_l2Rules_w1.sj10]
        split
        · obtain ⟨t2, s2, e2, h, ht2⟩ := l2Value_ok (k := k' + 1) hk h (by omega) (by omega) hi
          rw [e2]
          simp (disch := omega) only [gd_true, gd_t, List.length_singleton, w64_id, Option.bind_some]
          refine ih2 (s2, (r.1, (r.2.1 ++ [(i : Int)], r.2.2 ++ [t2]))) ⟨⟨_, h, by omega⟩, u1, by simp; omega, by simp; omega, fun x hx => ?_⟩
          rcases List.mem_append.1 hx with hx | hx
          · exact u4 x hx
          · rw [List.mem_singleton.1 hx]; exact ht2
        · rw [w64_id (by omega) (by omega)]
          exact ih2 (s, r) ⟨⟨_, h, by omega⟩, u1, by simp only; omega, by simp only; omega, u4⟩
      rw [spec_l2Rules_w1.s7, if_pos (by simpa using hi)]
      obtain ⟨v1, e1, _⟩ := pick_ok (k := k' + 1) h (by omega) (w64 ((vs.length : Int) + 1))
      rw [e1]; simp only [Option.bind_some]
      have h := h.next
      split
      · exact j10 _ _ _ h (by omega)
      split
      · split
        · obtain ⟨v2, e2, _⟩ := pick_ok (k := k' + 1) h (by omega) 9
          rw [e2]; simp only [Option.bind_some]
          exact j10 _ _ _ h.next (by omega)
        · exact j10 _ _ _ h (by omega)
      · exact j10 _ _ _ h (by omega)
theorem l2System_ok {k : Nat} (hk : 100000 < k) {s : List Int × Int} {c : Nat} (h : RdOk s c) (hc : c < 100000) (p1 : Int) : ∃ y s', spec_l2System.f k s p1 = some (y, s') ∧ RdOk s' (c + 5000) ∧ y.1.length ≤ 4 ∧ y.1.length ≠ 0 ∧ y.2.length ≤ 4 ∧ ∀ r ∈ y.2, RuB 4 r := by
  rw [spec_l2System.s]
  obtain ⟨v1, e1, g0, g1, _⟩ := pick_ok (k := k) h (by omega) 3
  rw [e1]; simp only [Option.bind_some]
  have h := h.next
  have hv := g1 (by omega)
  obtain ⟨m, rfl⟩ := Int.eq_ofNat_of_zero_le g0
  rw [show w64 (1 + (m : Int)) = ((m + 1 : Nat) : Int) by rw [w64_id (by omega) (by omega)]; omega]
  have main : ∀ (d n : Nat) (s : List Int × Int) (vs : List VA) (z : Int) (c' : Nat), d < n → RdOk s c' → c' + 3 * d ≤ c + 100 → vs.length + d ≤ 3 → ∃ y s', spec_l2System.l4 k p1 n s (vs, []) z (d : Int) = some (y, s') ∧ RdOk s' (c + 5000) ∧ y.1.length ≤ 4 ∧ y.1.length ≠ 0 ∧ y.2.length ≤ 4 ∧ ∀ r ∈ y.2, RuB 4 r := by
    intro d
    induction d with
    | zero =>
      intro n s vs z c' hn h hc' hvs
      obtain ⟨n, rfl⟩ : ∃ m, n = m + 1 := ⟨n - 1, by omega⟩
      rw [spec_l2System.s4, if_neg (by simp)]
      have fin : ∀ vs' : List VA, vs'.length ≤ 4 → vs'.length ≠ 0 → ∃ y s', ((spec_l40Rd_num.f k s [1, 2, 3, 4, 2, 3, 0]).bind fun r5 => (spec_l2Rules_w1.f k r5.2 vs' r5.1).bind fun r6 => some ((r6.2.2, r6.1), r6.2.1)) = some (y, s') ∧ RdOk s' (c + 5000) ∧ y.1.length ≤ 4 ∧ y.1.length ≠ 0 ∧ y.2.length ≤ 4 ∧ ∀ r ∈ y.2, RuB 4 r := by
        intro vs' h4 h0
        obtain ⟨v2, e2, hv2⟩ := num_ok (k := k) h (by omega) (l := [1, 2, 3, 4, 2, 3, 0]) (by simp)
        rw [e2]; simp only [Option.bind_some]
        have h := h.next
        have hb : 0 ≤ v2 ∧ v2 ≤ 4 := by simp at hv2; omega
        obtain ⟨m2, rfl⟩ := Int.eq_ofNat_of_zero_le hb.1
        obtain ⟨rs, s3, e3, h, h5, h6⟩ := l2Rules_ok hk h (by omega) h4 h0 (m := m2) (by omega)
        rw [e3]
        exact ⟨_, _, rfl, h.weak (by omega), h4, h0, h5, h6⟩
      split
      · simp (disch := omega) only [gd_true, gd_t, List.length_singleton]
        exact fin (vs ++ [(0, (1, 0))]) (by simp; omega) (by simp)
      · rename_i h0
        exact fin vs (by omega) (fun e => h0 (by simp [e]))
    | succ d ih =>
      intro n s vs z c' hn h hc' hvs
      obtain ⟨n, rfl⟩ : ∃ m, n = m + 1 := ⟨n - 1, by omega⟩
      have hw : w64 (((d + 1 : Nat) : Int) - 1) = (d : Int) := by rw [w64_id (by omega) (by omega)]; omega
      rw [spec_l2System.s4, if_pos (by simp)]
      obtain ⟨v2, e2, _⟩ := num_ok (k := k) h (by omega) (l := [2, 3, 2, 4, 5]) (by simp)
      rw [e2]; simp only [Option.bind_some]
      have h := h.next
      rw [hw]
      split
      · obtain ⟨v3, e3, _⟩ := num_ok (k := k) h (by omega) (l := [0, 0, 0, -1, 2]) (by simp)
        rw [e3]; simp only [Option.bind_some]
        have h := h.next
        obtain ⟨v4, e4, _⟩ := pick_ok (k := k) h (by omega) v2
        rw [e4]; simp only [Option.bind_some]
        have h := h.next
        simp (disch := omega) only [gd_true, gd_t, List.length_singleton]
        exact ih n _ _ _ _ (by omega) h (by omega) (by simp; omega)
      · exact ih n _ _ _ _ (by omega) h (by omega) (by omega)
  exact main (m + 1) k _ [] 1 _ (by omega) h (by omega) (by simp; omega)
structure DrS (s : SY) : Prop where
  vars : s.1.length ≤ 4
  rules : s.2.length ≤ 4
  rule : ∀ r ∈ s.2, RuB 5 r
theorem DrS.sm {s : SY} (h : DrS s) : SmS s := ⟨by have := h.vars; omega, by have := h.rules; omega, fun r hr => by
  obtain ⟨h1, h2, h3, h4⟩ := h.rule r hr
  exact ⟨by omega, by omega, by omega, fun x hx => by have := h4 x hx; omega⟩⟩
theorem DrS.big {s : SY} (h : DrS s) : BigS s := ⟨by have := h.vars; omega, by have := h.rules; omega, fun r hr => by
  obtain ⟨h1, h2, h3, h4⟩ := h.rule r hr
  exact ⟨by omega, by omega, by omega, fun x hx => by have := h4 x hx; omega⟩⟩
theorem mem_set_or {α : Type} {l : List α} {i : Nat} {a x : α} (h : x ∈ l.set i a) : x ∈ l ∨ x = a := List.mem_or_eq_of_mem_set h
theorem getD_mem0 {l : List RU} (h : 0 < l.length) : l.getD (Int.toNat 0) ([], ([], [])) ∈ l := by
  show l.getD 0 _ ∈ l
  rw [getD_get h]; exact List.getElem_mem h
theorem l2Any_ok {k : Nat} (hk : 100000 < k) {s : List Int × Int} {c : Nat} (h : RdOk s c) (hc : c < 100000) (p1 : Int) : ∃ y s', spec_l2Any.f k s p1 = some (y, s') ∧ RdOk s' (c + 6000) ∧ DrS y := by
  obtain ⟨k', rfl⟩ : ∃ m, k = m + 1 := ⟨k - 1, by omega⟩
  rw [spec_l2Any.s]
  obtain ⟨y, s1, e1, h, y1, y2, y3, y4⟩ := l2System_ok hk h hc p1
  rw [e1]; simp only [Option.bind_some]
  obtain ⟨v2, e2, _⟩ := pick_ok (k := k' + 1) h (by omega) 14
  rw [e2]; simp only [Option.bind_some]
  have h := h.next
  have hy : DrS y := ⟨y1, y3, fun r hr => (y4 r hr).weak (by omega)⟩
  have j11 : ∀ (s : List Int × Int) (z : Int) (b : Bool) (c' : Nat), RdOk s c' → c' ≤ c + 5900 → (b = true → 0 < y.2.length) → ∃ y' s', spec_l2Any.lj11 (k' + 1) (k' + 1) s y z b = some (y', s') ∧ RdOk s' (c + 6000) ∧ DrS y' := by
    intro s z b c' h hc' hb
    rw [spec_l2Any.sj11]
    split
    · rename_i hbt
      have h0 := hb hbt
      have hm := y4 _ (getD_mem0 h0)
      have hm1 := hm.2.1
      simp (disch := omega) only [gd_true, gd_t, List.length_singleton]
      refine ⟨_, _, rfl, h.weak (by omega), ⟨y1, by simp only [List.length_set]; exact y3, fun r hr => ?_⟩⟩
      rcases mem_set_or hr with hr | rfl
      · exact hy.rule r hr
      · exact ⟨hm.1, by simp only [List.length_append, List.length_singleton]; omega, by have := hm.2.2.1; simp only; omega, hm.2.2.2⟩
    split
    · exact ⟨_, _, rfl, h.weak (by omega), ⟨by simp, y3, hy.rule⟩⟩
    split
    · rename_i h0
      have h0 : 0 < y.2.length := by simpa using h0
      have hm := y4 _ (getD_mem0 h0)
      have hm1 := hm.2.2.1
      rw [spec_l2Const.s]
      simp (disch := omega) only [gd_true, gd_t, List.length_singleton, Option.bind_some]
      refine ⟨_, _, rfl, h.weak (by omega), ⟨y1, by simp only [List.length_set]; exact y3, fun r hr => ?_⟩⟩
      rcases mem_set_or hr with hr | rfl
      · exact hy.rule r hr
      · refine ⟨hm.1, by have := hm.2.1; simp only; omega, by simp only [List.length_append, List.length_singleton]; omega, fun x hx => ?_⟩
        rcases List.mem_append.1 hx with hx | hx
        · exact hm.2.2.2 x hx
        · rw [List.mem_singleton.1 hx]; simp
    · exact ⟨_, _, rfl, h.weak (by omega), hy⟩
  split
  · obtain ⟨v3, e3, _⟩ := pick_ok (k := k' + 1) h (by omega) 6
    rw [e3]; simp only [Option.bind_some]
    have h := h.next
    split
    · simp (disch := omega) only [gd_true, gd_t]
      exact ⟨_, _, rfl, h.weak (by omega), ⟨by simp only [List.length_set]; exact y1, y3, hy.rule⟩⟩
    split
    · obtain ⟨v4, e4, _⟩ := num_ok (k := k' + 1) h (by omega) (l := [-1, 20, 19]) (by simp)
      simp (disch := omega) only [gd_true, gd_t]
      rw [e4]
      simp (disch := omega) only [gd_true, gd_t, Option.bind_some]
      exact ⟨_, _, rfl, h.next.weak (by omega), ⟨by simp only [List.length_set]; exact y1, y3, hy.rule⟩⟩
    split
    · split
      · rename_i h0
        have h0 : 0 < y.2.length := by simpa using h0
        have hm := y4 _ (getD_mem0 h0)
        rw [spec_l2Const.s]
        simp (disch := omega) only [gd_true, gd_t, Option.bind_some]
        refine ⟨_, _, rfl, h.weak (by omega), ⟨y1, by simp only [List.length_set]; exact y3, fun r hr => ?_⟩⟩
        rcases mem_set_or hr with hr | rfl
        · exact hy.rule r hr
        · exact ⟨by simp, by have := hm.2.1; simp only; omega, by have := hm.2.2.1; simp only; omega, hm.2.2.2⟩
      · split
        · exact j11 _ _ _ _ h (by omega) (fun e => by simpa using e)
        · exact j11 _ _ _ _ h (by omega) (fun e => by cases e)
    · split
      · exact j11 _ _ _ _ h (by omega) (fun e => by simpa using e)
      · exact j11 _ _ _ _ h (by omega) (fun e => by cases e)
  · exact ⟨_, _, rfl, h.weak (by omega), hy⟩
end Go.Ev

set_option linter.unusedVariables false
set_option linter.unusedSimpArgs false
namespace Go.Ev

/-! ### drawn blocks and sets -/
theorem size_ex {k : Nat} (hk : 1048576 < k) {s : SY} (h : DrS s) : ∃ z : Nat, z ≤ 400 ∧ spec_SizeOf.f k s = some ((z : Int), ()) := by
  rcases sys_env hk s h.big h.sm with E | ⟨_, _, e⟩
  · exact ⟨_, E.S.sz, E.hz⟩
  · exact ⟨0, by omega, e⟩
theorem l28Draw_ok {k : Nat} (hk : 1048577 < k) {b : List Int} (hb : ∀ x ∈ b, 0 ≤ x ∧ x ≤ 255) : ∃ r s x, spec_l28Draw.f k b = some ((r, (s, x)), ()) ∧ RdOk r 20000 ∧ DrS s ∧ x.length ≤ 400 := by
  rw [spec_l28Draw.s]
  obtain ⟨r, e1, h⟩ := l40Open_ok (k := k) hb
  rw [e1]; simp only [Option.bind_some]
  obtain ⟨s, r2, e2, h, hs⟩ := l2Any_ok (k := k) (by omega) h (by omega) 24
  rw [e2]; simp only [Option.bind_some]
  obtain ⟨v3, e3, _⟩ := num_ok (k := k) h (by omega) (l := [2, 3, 5, 1]) (by simp)
  rw [e3]; simp only [Option.bind_some]
  have h := h.next
  obtain ⟨z, hz, ez⟩ := size_ex (k := k) (by omega) hs
  refine for_post (m := z) (l := fun n (q : (List Int × Int) × List (List Int)) j => spec_l28Draw.l6 k n q.1 s q.2 v3 j) (fun j q => (∃ c, RdOk q.1 c ∧ c ≤ 7000 + j) ∧ q.2.length = j ∧ ∀ y ∈ q.2, y.length ≤ 1) (fun x => ∃ r s x', x = some ((r, (s, x')), ()) ∧ RdOk r 20000 ∧ DrS s ∧ x'.length ≤ 400) (fun n q hI => ?_) (fun n j q hj hI ih => ?_) (s := (_, [])) (by omega) ⟨⟨_, h, by omega⟩, rfl, fun y hy => by simp at hy⟩
  · obtain ⟨⟨c, h, hc⟩, hl, hr⟩ := hI
    rw [spec_l28Draw.s6, ez]
    simp only [Option.bind_some]
    rw [if_neg (by simp), l28Rows_eq q.2 (fun y hy => by have := hr y hy; omega) (by omega) (by omega)]
    simp only [Option.bind_some]
    have hfl := firsts_length q.2
    split
    · rename_i h0
      have h0 : 0 < (firsts q.2).length := by simpa using h0
      obtain ⟨v4, e4, _⟩ := pick_ok (k := k) h (by omega) 14
      rw [e4]; simp only [Option.bind_some]
      have h := h.next
      split
      · rw [twice_eq]
        obtain ⟨v5, e5, g0, g1, _⟩ := pick_ok (k := k) h (by omega) ((firsts q.2).length : Int)
        rw [e5]; simp only [Option.bind_some]
        have h := h.next
        obtain ⟨v6, e6, _⟩ := num_ok (k := k) h (by omega) (l := [((firsts q.2).length : Int), -1, 1]) (by simp)
        rw [e6]; simp only [Option.bind_some]
        rw [gd_t g0, gd_t (g1 (by omega))]
        exact ⟨_, _, _, rfl, h.next.weak (by omega), hs, by rw [List.length_set]; omega⟩
      · exact ⟨_, _, _, rfl, h.weak (by omega), hs, by omega⟩
    · exact ⟨_, _, _, rfl, h.weak (by omega), hs, by omega⟩
  · obtain ⟨q1, q2⟩ := q
    obtain ⟨⟨c, h, hc⟩, hl, hr⟩ := hI
    simp only at h hl hr ih ⊢
    rw [spec_l28Draw.s6, ez]
    simp only [Option.bind_some]
    rw [if_pos (by simp; omega)]
    obtain ⟨v4, e4, _⟩ := pick_ok (k := k) h (by omega) v3
    rw [e4]; simp only [Option.bind_some]
    have h := h.next
    rw [gd_t (by simp; omega), w64_id (by omega) (by omega)]
    refine ih (_, q2 ++ [[v4]]) ⟨⟨_, h, by omega⟩, by simp; omega, fun y hy => ?_⟩
    rcases List.mem_append.1 hy with hy | hy
    · exact hr y hy
    · rw [List.mem_singleton.1 hy]; simp
/-! ### finer blocks -/
end Go.Ev

set_option linter.unusedVariables false
set_option linter.unusedSimpArgs false
namespace Go.Ev

/-! ### finer blocks reach less -/
theorem mem_acc {s : SY} {b : List Int} {x y : Int} : ∀ {n : Nat}, y ∈ accB s b x n ↔ ∃ m, m < n ∧ b.getD m 0 = x ∧ ∃ z ∈ rowT s m, b.getD z.toNat 0 = y
  | 0 => by simp [accB]
  | n + 1 => by
    rw [accB_succ, List.mem_append, mem_acc (n := n)]
    constructor
    · rintro (⟨m, h1, h2, h3⟩ | h)
      · exact ⟨m, by omega, h2, h3⟩
      · split at h
        · rename_i he
          obtain ⟨z, hz, e⟩ := List.mem_map.1 h
          exact ⟨n, by omega, he, z, hz, e⟩
        · cases h
    · rintro ⟨m, h1, h2, z, hz, e⟩
      by_cases hm : m = n
      · subst hm
        right
        rw [if_pos h2]
        exact List.mem_map.2 ⟨z, hz, e⟩
      · exact .inl ⟨m, by omega, h2, z, hz, e⟩
theorem blkB' {n : Nat} {b : List Int} (hb : BlkP n b) {j : Nat} (hj : j < n) : 0 ≤ b.getD j 0 ∧ b.getD j 0 < (n : Int) := by
  have h1 := hb.len
  have := hb.low j (by omega)
  rw [getD_get (by omega)]; omega
end Go.Ev

set_option linter.unusedVariables false
set_option linter.unusedSimpArgs false
namespace Go.Ev

/-! ### laws.wcInts -/
theorem wcInts_l (k : Nat) (p q : List Int) (hq : q.length = p.length) (hp : p.length < 4611686018427387904) : ∀ (d n j : Nat), j + d = p.length → d < n → laws_wcInts.l4 k p q n (j : Int) = some (decide (p.drop j = q.drop j), ())
  | 0, n + 1, j, h, hn => by
    rw [laws_wcInts.s4]
    rw [if_neg (by simp; omega), List.drop_eq_nil_of_le (by omega), List.drop_eq_nil_of_le (by omega)]
    simp
  | d + 1, n + 1, j, h, hn => by
    have hj : j < p.length := by omega
    have hj' : j < q.length := by omega
    simp only [laws_wcInts.s4, toNat_nat, w64_nat (j := j) (by omega)]
    rw [if_pos (by simp; omega), gd_t (by omega), gd_t (by omega), gd_t (by omega), gd_t (by omega), getD_get hj, getD_get hj']
    have key : p.drop j = q.drop j ↔ p[j] = q[j] ∧ p.drop (j + 1) = q.drop (j + 1) := by
      rw [drop_get hj, drop_get hj', List.cons.injEq]
    by_cases e : p[j] = q[j]
    · rw [if_neg (by simp [e]), wcInts_l k p q hq hp d n (j + 1) (by omega) (by omega)]
      simp only [key, e, true_and]
    · rw [if_pos (by simp; exact fun h => e h.symm)]
      simp only [key, e, false_and, decide_false]
theorem wcInts_eq {k : Nat} {p q : List Int} (hp : p.length < 4611686018427387904) (hk : p.length < k) : laws_wcInts.f k p q = some (decide (p = q), ()) := by
  rw [laws_wcInts.s]
  by_cases h : q.length = p.length
  · rw [if_neg (by simp [h])]
    have := wcInts_l k p q h hp p.length k 0 (by omega) hk
    simpa using this
  · rw [if_pos (by simp; omega), decide_eq_false (fun e => h (by rw [e]))]

end Go.Ev

set_option linter.unusedVariables false
set_option linter.unusedSimpArgs false
namespace Go.Ev
theorem wcHas_eq {k : Nat} {p : List Int} {x : Int} (hp : p.length ≤ 1048576) (hk : 1048576 < k) : laws_wcHas.f k p x = some (decide (x ∈ p), ()) := by
  rw [laws_wcHas.s]
  refine for_post (m := p.length) (l := fun n (_ : Unit) j => laws_wcHas.l2 k p x n j) (fun j _ => x ∉ p.take j) (fun r => r = some (decide (x ∈ p), ())) (fun n _ hI => ?_) (fun n j _ hj hI ih => ?_) (s := ()) (by omega) (by simp)
  · rw [List.take_length] at hI
    rw [laws_wcHas.s2, if_neg (by simp), decide_eq_false hI]
  · rw [laws_wcHas.s2, if_pos (by simpa using hj), gd_t (by omega), gd_t (by omega), toNat_nat, getD_get hj, w64_id (by omega) (by omega)]
    by_cases e : p[j] = x
    · rw [if_pos (by simp [e]), decide_eq_true (by rw [← e]; exact List.getElem_mem hj)]
    · rw [if_neg (by simp [e])]
      refine ih () ?_
      rw [List.take_succ_eq_append_getElem hj]
      simp only [List.mem_append, List.mem_singleton, not_or]
      exact ⟨hI, fun h => e h.symm⟩
end Go.Ev

set_option linter.unusedVariables false
set_option linter.unusedSimpArgs false
namespace Go.Ev

/-! ### reach by blocks and reach -/
theorem DrawValid_ok {k : Nat} (hk : 1048577 < k) {b : List Int} (hb : ∀ x ∈ b, 0 ≤ x ∧ x ≤ 255) : ∃ s x, spec_DrawBlocksValid.f k b = some ((s, x), ()) ∧ DrS s ∧ x.length ≤ 400 := by
  rw [spec_DrawBlocksValid.s]
  obtain ⟨r, s, x, e1, h, hs, hx⟩ := l28Draw_ok hk hb
  rw [e1]
  exact ⟨s, x, rfl, hs, hx⟩
theorem stepsT_tab {s : SY} (hS : SysP s) : TabP (stepsT s) := fun r hr x hx => by
  obtain ⟨j, hj, rfl⟩ := List.mem_iff_getElem.1 hr
  rw [stepsT_length] at hj
  rw [steps_get] at hx
  rw [stepsT_length]
  exact rowT_mem hx hS
theorem stepsT_rows {s : SY} (hS : SysP s) : ∀ r ∈ stepsT s, r.length ≤ 1000 := fun r hr => by
  obtain ⟨j, hj, rfl⟩ := List.mem_iff_getElem.1 hr
  rw [steps_get]
  have h1 := rowT_len s j
  have h2 := hS.r8
  omega
end Go.Ev

set_option linter.unusedVariables false
set_option linter.unusedSimpArgs false
namespace Go.Ev

/-! ### steps of blocks and steps -/
theorem NextNumbers_one {k : Nat} (hk : 1048577 < k) {s : SY} (E : Env k s) {n : Nat} (hn : n < prodW s.1) : impl_NextNumbers.f k s [(n : Int)] = some (listT (behT (stepsT s) (marksOf [(n : Int)] (prodW s.1))), ()) := by
  have hS := E.S
  have hsz := hS.sz
  have htl := stepsT_length s
  obtain ⟨g, g1, g2⟩ := setOk_l (k := k) [(n : Int)] ((prodW s.1 : Nat) : Int) (by omega) (by simp) (by omega)
  have hA : Asc [(n : Int)] := by simp [Asc]
  have e1 := g2.2 ⟨rfl, asc_SetAt hA _ (fun x hx => by rw [mem_one] at hx; omega)⟩
  rw [impl_NextNumbers.s, impl_SetValid.s, E.iv]
  simp only [Option.bind_some]
  rw [if_pos trivial, E.iz]
  simp only [Option.bind_some]
  rw [g1, e1]
  simp only [Option.bind_some]
  rw [if_neg (by simp), nexts_eq hS E.iz (by omega)]
  simp only [Option.bind_some]
  rw [over_eq (stepsT_tab hS) (by omega) (fun r hr => by have := stepsT_rows hS r hr; omega) (fun x hx => by rw [mem_one] at hx; omega) (by simp) (by omega), htl]
  rfl
theorem FnBlockSteps_true (code : List Int) (hw : Wf (.slice false (.int .u8)) code) : ∃ k, laws_FnBlockSteps.f k code = some (true, ()) := by
  have hbt : ∀ x ∈ code, 0 ≤ x ∧ x ≤ 255 := fun x hx => hw.2 x hx
  refine ⟨3000001, ?_⟩
  generalize hk : 3000001 = k
  rw [laws_FnBlockSteps.s]
  by_cases h1 : (code.length : Int) > 1048576
  · rw [if_pos (by simpa using h1)]
  rw [if_neg (by simpa using h1)]
  obtain ⟨s, b, e1, hs, hb⟩ := DrawValid_ok (k := k) (by omega) hbt
  rw [spec_DrawBlockSteps.s, e1]; simp only [Option.bind_some]
  have wc : ∀ l : List Int, l.length ≤ 4000 → laws_wcInts.f k l l = some (true, ()) := fun l hl => by
    rw [wcInts_eq (by omega) (by omega)]; simp
  obtain ⟨z, z1, z2⟩ : ∃ z : Int, impl_SizeOf.f k s = some (z, ()) ∧ spec_SizeOf.f k s = some (z, ()) := by
    rcases sys_env (k := k) (by omega) s hs.big hs.sm with E | ⟨_, e2, e3⟩
    · exact ⟨_, by rw [impl_SizeOf.s, E.iv]; simp only [Option.bind_some]; rw [if_neg (by simp), E.iz]; rfl, E.hz⟩
    · exact ⟨0, by rw [impl_SizeOf.s, e2]; rfl, e3⟩
  rcases blocks_cases (k := k) (by omega) s b hs.big hs.sm (by omega) with ⟨v1, v2⟩ | ⟨v1, v2, E, hB⟩
  · obtain ⟨k', rfl⟩ : ∃ m, k = m + 1 := ⟨k - 1, by omega⟩
    rw [impl_BlockSteps.s, spec_BlockSteps.s, v1, v2]
    simp only [Option.bind_some]
    rw [if_pos (by rfl), if_pos (by rfl)]
    simp only [Option.bind_some]
    rw [if_neg (by simp), z1, z2]
    simp only [Option.bind_some]
    rw [if_neg (by simp), laws_FnBlockSteps.s9, if_neg (by simp)]
  · have hS := E.S
    have hsz := hS.sz
    have hbl := hB.len
    have hTl := blkT_length s b
    have hTr := blkT_rows hS (b := b)
    have htl := stepsT_length s
    rw [impl_BlockSteps.s, spec_BlockSteps.s, v1, v2]
    simp only [Option.bind_some]
    rw [if_neg (by simp), if_neg (by simp), blockSteps_eq E hB (by omega), l28Steps_eq E hB (by omega)]
    simp only [Option.bind_some]
    rw [clone_mv_eq _ (by omega)]
    simp only [Option.bind_some]
    rw [if_neg (by simp), z1, z2]
    simp only [Option.bind_some]
    rw [if_neg (by simp)]
    refine for_post (m := (blkT s b).length) (l := fun n (_ : Unit) j => laws_FnBlockSteps.l9 k n s b (blkT s b) (blkT s b) ((blkT s b).length : Int) j) (fun j _ => True) (fun r => r = some (true, ())) (fun n _ hI => ?_) (fun n j _ hj hI ih => ?_) (s := ()) (by omega) trivial
    · rw [laws_FnBlockSteps.s9, if_neg (by simp)]
    · have hjN : j < prodW s.1 := by omega
      have hrow : (blkT s b).getD j [] = (blkT s b)[j] := getD_get hj
      have hrl := hTr _ (List.getElem_mem hj)
      have hbj := blkB' hB hjN
      rw [laws_FnBlockSteps.s9, if_pos (by simpa using hj), gd_t (by omega), gd_t (by omega), gd_t (by omega), gd_t (by omega), toNat_nat, hrow, wc _ (by omega)]
      simp only [Option.bind_some]
      rw [if_neg (by simp), NextNumbers_one (by omega) E hjN]
      simp only [Option.bind_some]
      have hvl := behT_length (stepsT s) (marksOf [(j : Int)] (prodW s.1))
      have hl := listT_length (behT (stepsT s) (marksOf [(j : Int)] (prodW s.1)))
      have hbd := listT_bd (v := behT (stepsT s) (marksOf [(j : Int)] (prodW s.1))) (n := prodW s.1) (by omega)
      have hmem : ∀ x ∈ listT (behT (stepsT s) (marksOf [(j : Int)] (prodW s.1))), x ∈ rowT s j := fun x hx => by
        obtain ⟨i, hi, hib, rfl⟩ := mem_listT.1 hx
        obtain ⟨m, m1, m2, m3⟩ := (behT_getD (by omega)).1 hib
        have := (marksOf_getD (by omega)).1 m2
        rw [mem_one] at this
        have hmj : m = j := by omega
        subst hmj
        rw [steps_getD hjN] at m3
        exact m3
      generalize listT (behT (stepsT s) (marksOf [(j : Int)] (prodW s.1))) = r at hl hbd hmem ⊢
      refine for_post (m := r.length) (l := fun q (_ : Unit) i => laws_FnBlockSteps.l14 k n ((blkT s b).length : Int) (j : Int) s b (blkT s b) (blkT s b) q r (r.length : Int) i) (fun i _ => True) (fun x => x = some (true, ())) (fun q _ hI => ?_) (fun q i _ hi hI ih2 => ?_) (s := ()) (by omega) trivial
      · rw [laws_FnBlockSteps.s14, if_neg (by simp), w64_id (by omega) (by omega)]
        exact ih () trivial
      · have hx := hmem _ (List.getElem_mem hi)
        have hxb := hbd _ (List.getElem_mem hi)
        have hbx := blkB' hB (show r[i].toNat < prodW s.1 by omega)
        have hrow2 : (blkT s b).getD (b.getD j 0).toNat [] = blkRow s b (b.getD j 0).toNat := blkT_getD (by omega)
        have hrl2 : (blkRow s b (b.getD j 0).toNat).length ≤ 3200 := blkRow_len hS b _
        rw [laws_FnBlockSteps.s14, if_pos (by simpa using hi)]
        simp only [toNat_nat, getD_get hi]
        rw [gd_t (by omega), gd_t (by omega), gd_t (by omega), gd_t (by omega), gd_t (by omega), gd_t (by omega), gd_t (by omega), gd_t (by omega), hrow2, wcHas_eq (by omega) (by omega)]
        simp only [Option.bind_some]
        have hin : b.getD r[i].toNat 0 ∈ blkRow s b (b.getD j 0).toNat := mem_blkRow.2 (mem_acc.2 ⟨j, hjN, by omega, r[i], hx, rfl⟩)
        rw [decide_eq_true hin, if_neg (by simp), w64_id (by omega) (by omega)]
        exact ih2 () trivial
end Go.Ev
