/- Plain mathematics on what the functions compute. -/
import Derived.Test.YtfhhagbbfiiiiaaGreatP1
import Derived.Test.YtfhhagbbfiiiiaaGreatEv4
import Derived.IntWalk
import Derived.Lib.SlicesCompact
namespace Go.Ev
theorem for_from {σ R : Type} {l : Nat → σ → Int → R} {a m : Nat} (ha : a ≤ m) (I : Nat → σ → Prop) (Q : R → Prop)
    (stop : ∀ n s, I m s → Q (l (n + 1) s (m : Int)))
    (step : ∀ n j s, a ≤ j → j < m → I j s → (∀ s', I (j + 1) s' → Q (l n s' ((j : Int) + 1))) → Q (l (n + 1) s (j : Int))) :
    ∀ {k s}, m < k → I a s → Q (l k s (a : Int)) := by
  have key : ∀ d n j s, a ≤ j → j + d = m → d < n → I j s → Q (l n s (j : Int)) := by
    intro d
    induction d with
    | zero =>
      intro n j s haj h hn hI
      obtain ⟨n, rfl⟩ : ∃ q, n = q + 1 := ⟨n - 1, by omega⟩
      have : j = m := by omega
      subst this
      exact stop n s hI
    | succ d ih =>
      intro n j s haj h hn hI
      obtain ⟨n, rfl⟩ : ∃ q, n = q + 1 := ⟨n - 1, by omega⟩
      refine step n j s haj (by omega) hI fun s' h' => ?_
      have := ih n (j + 1) s' (by omega) (by omega) (by omega) h'
      simpa using this
  intro k s hk hI
  exact key (m - a) k a s (Nat.le_refl _) (by omega) (by omega) hI
theorem filter_lt {α : Type} {p q : α → Bool} (h : ∀ x, p x = true → q x = true) : ∀ {l : List α}, (l.filter p).length ≤ (l.filter q).length ∧ ((∃ x ∈ l, q x = true ∧ p x = false) → (l.filter p).length < (l.filter q).length)
  | [] => ⟨Nat.le_refl _, fun ⟨x, hx, _⟩ => by simp at hx⟩
  | y :: l => by
    obtain ⟨h1, h2⟩ := filter_lt h (l := l)
    cases hp : p y with
    | true =>
      have hq := h y hp
      simp only [List.filter_cons, hp, hq, if_true, List.length_cons]
      refine ⟨by omega, fun ⟨x, hx, e1, e2⟩ => ?_⟩
      rcases List.mem_cons.1 hx with e | hx
      · rw [e, hp] at e2; cases e2
      · have := h2 ⟨x, hx, e1, e2⟩; omega
    | false =>
      cases hq : q y with
      | true =>
        simp only [List.filter_cons, hp, hq, if_true, List.length_cons]
        refine ⟨by simp; omega, fun _ => by simp; omega⟩
      | false =>
        simp only [List.filter_cons, hp, hq]
        refine ⟨by simpa using h1, fun ⟨x, hx, e1, e2⟩ => ?_⟩
        rcases List.mem_cons.1 hx with e | hx
        · rw [e, hq] at e1; cases e1
        · simpa using h2 ⟨x, hx, e1, e2⟩
def TabP (T : List (List Int)) : Prop := ∀ r ∈ T, ∀ x ∈ r, 0 ≤ x ∧ x < (T.length : Int)
noncomputable def lv (T : List (List Int)) (v : List Bool) : Nat → List Int
  | 0 => (List.range T.length).map fun x => if v.getD x false = true then 0 else -1
  | d + 1 => by
    classical
    exact (List.range T.length).map fun x => if 0 ≤ (lv T v d).getD x 0 then (lv T v d).getD x 0 else if ∃ m, m < T.length ∧ (lv T v d).getD m 0 = (d : Int) ∧ (x : Int) ∈ T.getD m [] then ((d + 1 : Nat) : Int) else -1
variable {T : List (List Int)} {v : List Bool}
theorem lv_length : ∀ d, (lv T v d).length = T.length
  | 0 => by simp [lv]
  | d + 1 => by simp [lv]
theorem lv_zero {x : Nat} (h : x < T.length) : (lv T v 0).getD x 0 = if v.getD x false = true then 0 else -1 := by
  rw [List.getD_eq_getElem?_getD]; simp [lv, h]
theorem lv_succ {d x : Nat} (h : x < T.length) : (0 ≤ (lv T v d).getD x 0 → (lv T v (d + 1)).getD x 0 = (lv T v d).getD x 0) ∧
    (¬ 0 ≤ (lv T v d).getD x 0 → (∃ m, m < T.length ∧ (lv T v d).getD m 0 = (d : Int) ∧ (x : Int) ∈ T.getD m []) → (lv T v (d + 1)).getD x 0 = ((d + 1 : Nat) : Int)) ∧
    (¬ 0 ≤ (lv T v d).getD x 0 → ¬ (∃ m, m < T.length ∧ (lv T v d).getD m 0 = (d : Int) ∧ (x : Int) ∈ T.getD m []) → (lv T v (d + 1)).getD x 0 = -1) := by
  have e : (lv T v (d + 1)).getD x 0 = @ite _ (0 ≤ (lv T v d).getD x 0) (Classical.propDecidable _) ((lv T v d).getD x 0) (@ite _ (∃ m, m < T.length ∧ (lv T v d).getD m 0 = (d : Int) ∧ (x : Int) ∈ T.getD m []) (Classical.propDecidable _) ((d + 1 : Nat) : Int) (-1)) := by
    rw [List.getD_eq_getElem?_getD]; simp [lv, h]
  refine ⟨fun h1 => ?_, fun h1 h2 => ?_, fun h1 h2 => ?_⟩
  · rw [e, if_pos h1]
  · rw [e, if_neg h1, if_pos h2]
  · rw [e, if_neg h1, if_neg h2]
theorem lv_range {x : Nat} (h : x < T.length) : ∀ d, (lv T v d).getD x 0 = -1 ∨ 0 ≤ (lv T v d).getD x 0 ∧ (lv T v d).getD x 0 ≤ (d : Int)
  | 0 => by rw [lv_zero h]; split <;> simp
  | d + 1 => by
    obtain ⟨h1, h2, h3⟩ := lv_succ (v := v) (d := d) h
    rcases lv_range h d with e | ⟨e1, e2⟩
    · by_cases hx : ∃ m, m < T.length ∧ (lv T v d).getD m 0 = (d : Int) ∧ (x : Int) ∈ T.getD m []
      · rw [h2 (by omega) hx]; right; omega
      · rw [h3 (by omega) hx]; left; rfl
    · rw [h1 e1]; right; omega
theorem lv_ext {a b : List Int} (ha : a.length = T.length) (hb : b.length = T.length) (h : ∀ x, x < T.length → a.getD x 0 = b.getD x 0) : a = b := by
  apply List.ext_getElem (by omega)
  intro i h1 h2
  have := h i (by omega)
  rwa [getD_get h1, getD_get h2] at this
theorem lv_mono {x d : Nat} (h : x < T.length) (h0 : 0 ≤ (lv T v d).getD x 0) : ∀ e, (lv T v (d + e)).getD x 0 = (lv T v d).getD x 0
  | 0 => rfl
  | e + 1 => by
    have ih := lv_mono h h0 e
    rw [← Nat.add_assoc, (lv_succ (v := v) (d := d + e) h).1 (by omega), ih]
theorem lv_same {d : Nat} (h : lv T v (d + 1) = lv T v d) : ∀ e, lv T v (d + e) = lv T v d
  | 0 => rfl
  | e + 1 => by
    have ih := lv_same h e
    rw [← Nat.add_assoc]
    rw [← ih]
    refine lv_ext (T := T) (lv_length _) (lv_length _) fun x hx => ?_
    obtain ⟨h1, h2, h3⟩ := lv_succ (v := v) (d := d + e) hx
    by_cases h0 : 0 ≤ (lv T v (d + e)).getD x 0
    · exact h1 h0
    · have hm : (lv T v (d + e)).getD x 0 = -1 := by
        rcases lv_range (v := v) hx (d + e) with q | q
        · exact q
        · omega
      rw [hm]
      by_cases hx2 : ∃ m, m < T.length ∧ (lv T v (d + e)).getD m 0 = ((d + e : Nat) : Int) ∧ (x : Int) ∈ T.getD m []
      · exfalso
        rcases Nat.eq_zero_or_pos e with he | he
        · subst he
          have q1 := (lv_succ (v := v) (d := d) hx).2.1 (by simpa using h0) hx2
          have q2 : (lv T v (d + 1)).getD x 0 = (lv T v d).getD x 0 := by rw [h]
          have : ¬ 0 ≤ (lv T v d).getD x 0 := h0
          omega
        · obtain ⟨m, hm1, hm2, _⟩ := hx2
          rw [ih] at hm2
          rcases lv_range (v := v) hm1 d with q | q <;> omega
      · exact h3 h0 hx2
noncomputable def cnt (l : List Int) (n : Nat) : Nat := ((List.range n).filter fun x => decide (0 ≤ l.getD x 0)).length
theorem cnt_le (l : List Int) (n : Nat) : cnt l n ≤ n := by
  have := List.length_filter_le (fun x => decide (0 ≤ l.getD x 0)) (List.range n)
  simpa [cnt] using this
theorem cnt_lt {d : Nat} (h : lv T v (d + 1) ≠ lv T v d) : cnt (lv T v d) T.length < cnt (lv T v (d + 1)) T.length := by
  have hx : ∃ x, x < T.length ∧ (lv T v (d + 1)).getD x 0 ≠ (lv T v d).getD x 0 := by
    apply Classical.byContradiction
    intro hn
    exact h (lv_ext (T := T) (lv_length _) (lv_length _) fun x hx => Classical.byContradiction fun hne => hn ⟨x, hx, hne⟩)
  obtain ⟨x, hx, hne⟩ := hx
  have mono : ∀ y, y < T.length → 0 ≤ (lv T v d).getD y 0 → 0 ≤ (lv T v (d + 1)).getD y 0 := fun y hy h0 => by
    rw [(lv_succ (v := v) (d := d) hy).1 h0]; exact h0
  have e : ∀ l : List Int, cnt l T.length = ((List.range T.length).filter fun x => decide (x < T.length ∧ 0 ≤ l.getD x 0)).length := fun l => by
    unfold cnt
    congr 1
    apply List.filter_congr
    intro y hy
    have := List.mem_range.1 hy
    simp [this]
  rw [e, e]
  refine (filter_lt (fun y hy => ?_)).2 ⟨x, List.mem_range.2 hx, ?_, ?_⟩
  · simp only [decide_eq_true_eq] at hy ⊢
    exact ⟨hy.1, mono y hy.1 hy.2⟩
  · simp only [decide_eq_true_eq]
    refine ⟨hx, ?_⟩
    obtain ⟨h1, h2, h3⟩ := lv_succ (v := v) (d := d) hx
    by_cases h0 : 0 ≤ (lv T v d).getD x 0
    · exact absurd (h1 h0) hne
    · by_cases hx2 : ∃ m, m < T.length ∧ (lv T v d).getD m 0 = (d : Int) ∧ (x : Int) ∈ T.getD m []
      · rw [h2 h0 hx2]; omega
      · rcases lv_range (v := v) hx d with q | q
        · exact absurd ((h3 h0 hx2).trans q.symm) hne
        · omega
  · simp only [decide_eq_false_iff_not]
    rintro ⟨_, h0⟩
    exact hne ((lv_succ (v := v) (d := d) hx).1 h0)
theorem lv_stop : ∀ d, (∃ e, e < d ∧ lv T v (e + 1) = lv T v e) ∨ d ≤ cnt (lv T v d) T.length
  | 0 => .inr (Nat.zero_le _)
  | d + 1 => by
    rcases lv_stop d with ⟨e, h1, h2⟩ | h
    · exact .inl ⟨e, by omega, h2⟩
    · by_cases hs : lv T v (d + 1) = lv T v d
      · exact .inl ⟨d, by omega, hs⟩
      · have := cnt_lt hs
        exact .inr (by omega)
noncomputable def farT (T : List (List Int)) (v : List Bool) : List Int := lv T v T.length
theorem farT_length : (farT T v).length = T.length := lv_length _
theorem lv_end : ∀ e, lv T v (T.length + e) = farT T v := by
  rcases lv_stop (T := T) (v := v) (T.length + 1) with ⟨d, h1, h2⟩ | h
  · intro e
    have q1 := lv_same h2 (T.length + e - d)
    have q2 := lv_same h2 (T.length - d)
    rw [show d + (T.length + e - d) = T.length + e by omega] at q1
    rw [show d + (T.length - d) = T.length by omega] at q2
    unfold farT
    rw [q1, q2]
  · have := cnt_le (lv T v (T.length + 1)) T.length
    omega
theorem lv_far {d : Nat} (h : lv T v (d + 1) = lv T v d) (hd : d ≤ T.length) : lv T v d = farT T v := by
  have := lv_same h (T.length - d)
  rw [show d + (T.length - d) = T.length by omega] at this
  exact this.symm
def RchT (T : List (List Int)) (v : List Bool) (x : Nat) : Prop := 0 ≤ (farT T v).getD x 0
theorem RchT.start {x : Nat} (hx : x < T.length) (h : v.getD x false = true) : RchT T v x := by
  have h0 : (lv T v 0).getD x 0 = 0 := by rw [lv_zero hx, if_pos h]
  have := lv_mono hx (v := v) (d := 0) (by omega) T.length
  unfold RchT farT
  rw [Nat.zero_add] at this
  rw [this, h0]; omega
theorem lv_first {x : Nat} (hx : x < T.length) : ∀ d e : Nat, (lv T v d).getD x 0 = (e : Int) → (lv T v e).getD x 0 = (e : Int)
  | 0, e, h => by
    rcases lv_range (v := v) hx 0 with q | q
    · omega
    · have : e = 0 := by omega
      subst this; exact h
  | d + 1, e, h => by
    by_cases h0 : 0 ≤ (lv T v d).getD x 0
    · rw [(lv_succ (v := v) (d := d) hx).1 h0] at h
      exact lv_first hx d e h
    · by_cases hx2 : ∃ m, m < T.length ∧ (lv T v d).getD m 0 = (d : Int) ∧ (x : Int) ∈ T.getD m []
      · have := (lv_succ (v := v) (d := d) hx).2.1 h0 hx2
        have : e = d + 1 := by omega
        subst this; exact h
      · have := (lv_succ (v := v) (d := d) hx).2.2 h0 hx2
        omega
theorem RchT.step {m x : Nat} (hm : m < T.length) (hx : x < T.length) (h : RchT T v m) (hmem : (x : Int) ∈ T.getD m []) : RchT T v x := by
  obtain ⟨e, he⟩ : ∃ e : Nat, (farT T v).getD m 0 = (e : Int) := ⟨((farT T v).getD m 0).toNat, by unfold RchT at h; omega⟩
  have h1 := lv_first (v := v) hm T.length e he
  have h2 : 0 ≤ (lv T v (e + 1)).getD x 0 := by
    obtain ⟨g1, g2, g3⟩ := lv_succ (v := v) (d := e) hx
    by_cases h0 : 0 ≤ (lv T v e).getD x 0
    · rw [g1 h0]; exact h0
    · rw [g2 h0 ⟨m, hm, h1, hmem⟩]; omega
  have h3 := lv_mono hx (v := v) h2 T.length
  unfold RchT
  rw [← lv_end (T := T) (v := v) (e + 1), Nat.add_comm, h3]
  exact h2
theorem RchT.least {C : Nat → Prop} (h0 : ∀ x, x < T.length → v.getD x false = true → C x) (h1 : ∀ m x, m < T.length → x < T.length → C m → (x : Int) ∈ T.getD m [] → C x) : ∀ x, x < T.length → RchT T v x → C x := by
  have key : ∀ d x, x < T.length → 0 ≤ (lv T v d).getD x 0 → C x := by
    intro d
    induction d with
    | zero =>
      intro x hx h
      rw [lv_zero hx] at h
      by_cases hv : v.getD x false = true
      · exact h0 x hx hv
      · rw [if_neg hv] at h; omega
    | succ d ih =>
      intro x hx h
      by_cases h2 : 0 ≤ (lv T v d).getD x 0
      · exact ih x hx h2
      · by_cases hx2 : ∃ m, m < T.length ∧ (lv T v d).getD m 0 = (d : Int) ∧ (x : Int) ∈ T.getD m []
        · obtain ⟨m, hm, e, hmem⟩ := hx2
          exact h1 m x hm hx (ih m hm (by omega)) hmem
        · have := (lv_succ (v := v) (d := d) hx).2.2 h2 hx2
          omega
  exact fun x hx h => key T.length x hx h
end Go.Ev

namespace Go.Ev
structure Env (k : Nat) (s : SY) : Prop where
  S : SysP s
  hv : spec_SystemValid.f k s = some (true, ())
  iv : impl_SystemValid.f k s = some (true, ())
  hz : spec_SizeOf.f k s = some (((prodW s.1 : Nat) : Int), ())
  iz : impl_size.f k s.1 = some (((prodW s.1 : Nat) : Int), ())
theorem sys_env {k : Nat} (hk : 1048576 < k) (s : SY) (hb : BigS s) (hs : SmS s) : Env k s ∨ (spec_SystemValid.f k s = some (false, ()) ∧ impl_SystemValid.f k s = some (false, ()) ∧ spec_SizeOf.f k s = some (0, ())) := by
  obtain ⟨V, z, m1, m2, m3, m4, m5⟩ := sys_eq (k := k) (by omega) s hb hs
  cases V with
  | false => exact .inr ⟨m1, m2, by rw [m5]; rfl⟩
  | true =>
    obtain ⟨_, hz, hS⟩ := m4 rfl
    rw [if_pos rfl] at m5
    rw [hz] at m3 m5
    exact .inl ⟨hS, m1, m2, m5, m3⟩
structure BlkP (n : Nat) (b : List Int) : Prop where
  len : b.length = n
  low : ∀ j (h : j < b.length), 0 ≤ b[j] ∧ b[j] ≤ (j : Int)
  fix : ∀ j (h : j < b.length), b.getD b[j].toNat 0 = b[j]
theorem blocks_v (k : Nat) (p : List Int) (hp : p.length < 4611686018427387904) : ∀ (d n j : Nat), j + d = p.length → d < n → impl_blocksOk.l4 k p n (j : Int) = some (true, ()) →
    ∀ i (h : i < p.length), j ≤ i → 0 ≤ p[i] ∧ p[i] ≤ (i : Int) ∧ p.getD p[i].toNat 0 = p[i]
  | 0, n + 1, j, hd, hn, h, i, hi, hji => by omega
  | d + 1, n + 1, j, hd, hn, h, i, hi, hji => by
    have hj : j < p.length := by omega
    simp (disch := omega) only [impl_blocksOk.s4, gd_t, toNat_nat, getD_get hj, impl_in_eq, Option.bind_some, w64_id] at h
    rw [if_pos (by simpa using hj)] at h
    by_cases hin : 0 ≤ p[j] ∧ p[j] ≤ (j : Int)
    · simp (disch := omega) only [decide_eq_true hin, gd_t] at h
      by_cases he : p.getD p[j].toNat 0 = p[j]
      · rw [if_neg (by simp), if_neg (by simp [he, -List.getD_eq_getElem?_getD])] at h
        rcases Nat.lt_or_ge j i with hlt | hge
        · exact blocks_v k p hp d n (j + 1) (by omega) (by omega) (by simpa using h) i hi (by omega)
        · have : i = j := by omega
          subst this
          exact ⟨hin.1, hin.2, he⟩
      · rw [if_neg (by simp), if_pos (by simpa [-List.getD_eq_getElem?_getD] using he)] at h
        cases h
    · simp only [decide_eq_false hin] at h
      cases h
theorem blocks_ok {k : Nat} (hk : 1048576 < k) {s : SY} (E : Env k s) (p : List Int) (hp : p.length ≤ 1048576) : ∃ c, spec_BlocksValid.f k s p = some (c, ()) ∧ impl_blocksOk.f k s p = some (c, ()) ∧ (c = true → BlkP (prodW s.1) p) := by
  have hpos := prodW_pos E.S.vp
  rw [spec_BlocksValid.s, impl_blocksOk.s, E.hz, E.iz]
  simp only [Option.bind_some]
  obtain ⟨b, h1, h2⟩ := blocks_l k p (by omega) p.length k k 0 (by omega) (by omega) (by omega)
  have h1 : spec_BlocksValid.l4 k p k 0 = some (b, ()) := h1
  have h2 : impl_blocksOk.l4 k p k 0 = some (b, ()) := h2
  rw [h1, h2]
  by_cases hl : p.length = prodW s.1
  · rw [if_neg (c := ((p.length : Int) != ((prodW s.1 : Nat) : Int)) = true) (by simp [hl]), if_neg (c := ((p.length : Int) == 0) = true) (by simp only [beq_iff_eq]; omega), if_neg (c := ((p.length : Int) != ((prodW s.1 : Nat) : Int)) = true) (by simp [hl])]
    refine ⟨b, rfl, rfl, fun hb => ?_⟩
    subst hb
    have := blocks_v k p (by omega) p.length k 0 (by omega) (by omega) h2
    exact ⟨hl, fun j hj => ⟨(this j hj (by omega)).1, (this j hj (by omega)).2.1⟩, fun j hj => (this j hj (by omega)).2.2⟩
  · rw [if_pos (c := ((p.length : Int) != ((prodW s.1 : Nat) : Int)) = true) (by simp; omega), if_pos (c := ((p.length : Int) != ((prodW s.1 : Nat) : Int)) = true) (by simp; omega)]
    exact ⟨false, rfl, rfl, fun h => by cases h⟩
theorem blocks_no {k : Nat} {s : SY} (h : spec_SizeOf.f k s = some (0, ())) (p : List Int) : spec_BlocksValid.f k s p = some (false, ()) := by
  rw [spec_BlocksValid.s, h]
  simp only [Option.bind_some]
  by_cases h0 : p.length = 0
  · simp [h0]
  · rw [if_pos (by simp only [bne_iff_ne, ne_eq]; omega)]
theorem blocks_cases0 {k : Nat} (hk : 1048576 < k) (s : SY) (p : List Int) (hb : BigS s) (hs : SmS s) (hp : p.length ≤ 1048576) :
    (spec_BlocksValid.f k s p = some (false, ()) ∧ (impl_SystemValid.f k s = some (false, ()) ∨ (Env k s ∧ impl_blocksOk.f k s p = some (false, ())))) ∨ (spec_BlocksValid.f k s p = some (true, ()) ∧ impl_blocksOk.f k s p = some (true, ()) ∧ Env k s ∧ BlkP (prodW s.1) p) := by
  rcases sys_env hk s hb hs with E | ⟨e1, e2, e3⟩
  · obtain ⟨c, c1, c2, c3⟩ := blocks_ok hk E p hp
    cases c with
    | false => exact .inl ⟨c1, .inr ⟨E, c2⟩⟩
    | true => exact .inr ⟨c1, c2, E, c3 rfl⟩
  · exact .inl ⟨blocks_no e3 p, .inl e2⟩
theorem blocks_cases {k : Nat} (hk : 1048576 < k) (s : SY) (p : List Int) (hb : BigS s) (hs : SmS s) (hp : p.length ≤ 1048576) :
    (spec_BlocksValid.f k s p = some (false, ()) ∧ impl_BlocksValid.f k s p = some (false, ())) ∨ (spec_BlocksValid.f k s p = some (true, ()) ∧ impl_BlocksValid.f k s p = some (true, ()) ∧ Env k s ∧ BlkP (prodW s.1) p) := by
  rcases blocks_cases0 hk s p hb hs hp with ⟨h1, h2 | ⟨E, h2⟩⟩ | ⟨h1, h2, E, hB⟩
  · exact .inl ⟨h1, by rw [impl_BlocksValid.s, h2]; rfl⟩
  · exact .inl ⟨h1, by rw [impl_BlocksValid.s, E.iv, Option.bind_some, if_pos rfl, h2]; rfl⟩
  · exact .inr ⟨h1, by rw [impl_BlocksValid.s, E.iv, Option.bind_some, if_pos rfl, h2]; rfl, E, hB⟩
theorem steps_getD {s : SY} {j : Nat} (h : j < prodW s.1) : (stepsT s).getD j [] = rowT s j := by rw [getD_get (by rw [stepsT_length]; exact h), steps_get]
theorem rowT_len (s : SY) (n : Nat) : (rowT s n).length ≤ s.2.length := by
  have := (nextT_facts s (stOf s.1 n)).2.2
  simpa [rowT] using this
theorem rowT_get {s : SY} (hS : SysP s) {n i : Nat} (h : i < (rowT s n).length) : 0 ≤ (rowT s n)[i] ∧ (rowT s n)[i] < (prodW s.1 : Int) := rowT_mem (List.getElem_mem h) hS
noncomputable def accB (s : SY) (b : List Int) (x : Int) (n : Nat) : List Int := (List.range n).flatMap fun m => if b.getD m 0 = x then (rowT s m).map fun y => b.getD y.toNat 0 else []
theorem accB_succ (s : SY) (b : List Int) (x : Int) (n : Nat) : accB s b x (n + 1) = accB s b x n ++ (if b.getD n 0 = x then (rowT s n).map fun y => b.getD y.toNat 0 else []) := by
  simp [accB, List.range_succ, List.flatMap_append]
theorem accB_len {s : SY} (hS : SysP s) (b : List Int) (x : Int) : ∀ n, (accB s b x n).length ≤ n * 8
  | 0 => by simp [accB]
  | n + 1 => by
    have ih := accB_len hS b x n
    have h8 := hS.r8
    have hl := rowT_len s n
    rw [accB_succ, List.length_append]
    split
    · rw [List.length_map]; omega
    · simp; omega
theorem accB_mem {s : SY} (hS : SysP s) {b : List Int} {N : Nat} (hb : BlkP N b) (hN : N = prodW s.1) {x y : Int} {n : Nat} (h : y ∈ accB s b x n) : 0 ≤ y ∧ y < (N : Int) := by
  simp only [accB, List.mem_flatMap, List.mem_range] at h
  obtain ⟨m, hm, h⟩ := h
  split at h
  · obtain ⟨z, hz, rfl⟩ := List.mem_map.1 h
    have hz := rowT_mem hz hS
    have hzl : z.toNat < b.length := by rw [hb.len]; omega
    rw [getD_get hzl]
    have := hb.low _ hzl
    have := hb.len
    omega
  · simp at h
noncomputable def blkRow (s : SY) (b : List Int) (x : Nat) : List Int := Lib.compact ((accB s b (x : Int) (prodW s.1)).mergeSort fun x y => decide (x ≤ y))
noncomputable def blkT (s : SY) (b : List Int) : List (List Int) := (List.range (prodW s.1)).map (blkRow s b)
theorem blkT_length (s : SY) (b : List Int) : (blkT s b).length = prodW s.1 := by simp [blkT]
theorem blkRow_asc (s : SY) (b : List Int) (x : Nat) : Asc (blkRow s b x) := compact_lt (sort_le _)
theorem mem_blkRow {s : SY} {b : List Int} {x : Nat} {y : Int} : y ∈ blkRow s b x ↔ y ∈ accB s b (x : Int) (prodW s.1) := by
  unfold blkRow
  rw [mem_compact, mem_sort]
theorem blkRow_len {s : SY} (hS : SysP s) (b : List Int) (x : Nat) : (blkRow s b x).length ≤ 3200 := by
  have h1 := compact_len ((accB s b (x : Int) (prodW s.1)).mergeSort fun x y => decide (x ≤ y))
  have h2 := accB_len hS b (x : Int) (prodW s.1)
  have h3 := hS.sz
  rw [List.length_mergeSort] at h1
  unfold blkRow
  omega
theorem blkT_tab {s : SY} (hS : SysP s) {b : List Int} (hb : BlkP (prodW s.1) b) : TabP (blkT s b) := by
  intro r hr x hx
  obtain ⟨n, _, rfl⟩ := List.mem_map.1 hr
  rw [blkT_length]
  exact accB_mem hS hb rfl (mem_blkRow.1 hx)
theorem blkT_rows {s : SY} (hS : SysP s) {b : List Int} : ∀ r ∈ blkT s b, r.length ≤ 3200 := by
  intro r hr
  obtain ⟨n, _, rfl⟩ := List.mem_map.1 hr
  exact blkRow_len hS b n
theorem getD_set' {α : Type} (v : List α) (y x : Nat) (a e : α) (hy : y < v.length) : (v.set y a).getD x e = if x = y then a else v.getD x e := by
  rw [List.getD_eq_getElem?_getD, List.getD_eq_getElem?_getD, List.getElem?_set]
  by_cases h : y = x
  · subst h; simp [hy]
  · rw [if_neg h, if_neg (fun h' => h h'.symm)]
theorem list_ext_getD {α : Type} {a b : List α} {n : Nat} {d : α} (ha : a.length = n) (hb : b.length = n) (h : ∀ x, x < n → a.getD x d = b.getD x d) : a = b := by
  apply List.ext_getElem (by omega)
  intro i h1 h2
  have := h i (by omega)
  rwa [getD_get h1, getD_get h2] at this
theorem l28Steps_eq {k : Nat} {s : SY} {b : List Int} (E : Env k s) (hb : BlkP (prodW s.1) b) (hk : 1048577 < k) : spec_l28Steps.f k s b = some (blkT s b, ()) := by
  have hS := E.S
  have hsz := hS.sz
  have h8 := hS.r8
  have hbl := hb.len
  rw [spec_l28Steps.s, l4Steps_eq hS E.hv E.hz hk]
  simp only [Option.bind_some]
  refine push_loop (l := fun n u j => spec_l28Steps.l4 k b n (stepsT s) u j) (ys := blkT s b) (m := prodW s.1) (blkT_length s b) (fun n j u hj hu => ?_) (fun n => ?_) (by omega)
  · simp only [spec_l28Steps.s4]
    rw [if_pos (by rw [stepsT_length]; simpa using hj)]
    refine for_from (a := j) (m := prodW s.1) (by omega) (l := fun q w i => spec_l28Steps.l8 k n b (stepsT s) u (j : Int) q w i) (fun i w => w = accB s b (j : Int) i) (fun x => x = spec_l28Steps.l4 k b n (stepsT s) (u ++ [(blkT s b)[j]'(by rw [blkT_length]; exact hj)]) ((j : Int) + 1)) (fun q w hW => ?_) (fun q i w hji hi hW ih => ?_) (by omega) ?_
    · subst hW
      simp (disch := omega) only [spec_l28Steps.s8, w64_id]
      rw [if_neg (by rw [stepsT_length]; simp)]
      have hal := accB_len hS b (j : Int) (prodW s.1)
      obtain ⟨q', h1, h2, h3⟩ := l17Ordered_eq (k := k) (accB s b (j : Int) (prodW s.1)) (fun x hx => by have := accB_mem hS hb rfl hx; omega) (by omega) (by omega)
      rw [h1]
      simp only [Option.bind_some]
      rw [gd_t (by simp; omega)]
      have : q' = blkRow s b j := asc_ext h2 (blkRow_asc s b j) fun x => by rw [h3, mem_blkRow]
      rw [this]
      simp [blkT]
    · have hri := steps_getD (s := s) (j := i) hi
      have hib : i < b.length := by omega
      have hrl := rowT_len s i
      have hal := accB_len hS b (j : Int) i
      have hsl := stepsT_length s
      simp only [spec_l28Steps.s8]
      rw [if_pos (by rw [stepsT_length]; simpa using hi)]
      by_cases hbj : b[i] = (j : Int)
      · refine for_post (m := (rowT s i).length) (l := fun q' w' e => spec_l28Steps.l11 k n q b (stepsT s) u (j : Int) (i : Int) q' w' e) (fun e w' => w' = w ++ ((rowT s i).take e).map fun y => b.getD y.toNat 0) (fun x => x = spec_l28Steps.l4 k b n (stepsT s) (u ++ [(blkT s b)[j]'(by rw [blkT_length]; exact hj)]) ((j : Int) + 1)) (fun q' w' hw' => ?_) (fun q' e w' he hw' ih2 => ?_) (by omega) (by simp)
        · simp (disch := omega) only [spec_l28Steps.s11, gd_t, toNat_nat, hri, w64_id]
          rw [if_neg (by simp)]
          refine ih _ ?_
          rw [hw', hW, accB_succ, getD_get hib, if_pos hbj, List.take_length]
        · have hre := rowT_get hS he
          have hwl : w'.length ≤ i * 8 + e := by rw [hw', hW]; simp; omega
          simp (disch := omega) only [spec_l28Steps.s11, gd_t, toNat_nat, hri, getD_get he, getD_get hib, w64_id]
          rw [if_pos (by simpa using he), if_pos (by simpa using hbj), gd_t (by simp; omega)]
          refine ih2 _ ?_
          rw [hw', List.take_succ_eq_append_getElem he, List.map_append, List.append_assoc]
          rfl
      · obtain ⟨k', rfl⟩ : ∃ q, k = q + 1 := ⟨k - 1, by omega⟩
        have hnext : w = accB s b (j : Int) (i + 1) := by rw [hW, accB_succ, getD_get hib, if_neg hbj, List.append_nil]
        simp (disch := omega) only [spec_l28Steps.s11, gd_t, toNat_nat, hri, getD_get hib, w64_id]
        by_cases hz : (rowT s i).length = 0
        · rw [if_neg (by simp [hz])]; exact ih _ hnext
        · rw [if_pos (by simp; omega), if_neg (by simpa using hbj)]; exact ih _ hnext
    · -- none below j is of block j
      have : ∀ i, i ≤ j → accB s b (j : Int) i = [] := by
        intro i
        induction i with
        | zero => intro _; simp [accB]
        | succ i ih =>
          intro hi
          have hib : i < b.length := by omega
          have := hb.low i hib
          rw [accB_succ, ih (by omega), getD_get hib, if_neg (by omega)]; rfl
      exact (this j (Nat.le_refl _)).symm
  · simp only [spec_l28Steps.s4]
    rw [if_neg (by rw [stepsT_length]; simp)]
end Go.Ev

namespace Go.Ev
def SmSS (p : List (List Int)) : Prop := p.length ≤ 1048576 ∧ ∀ r ∈ p, r.length ≤ 1048576
theorem clone_mv_eq {k : Nat} (p : List (List Int)) (hp : p.length ≤ 1048576) : impl_clone_Lint_mv.f k p = some (p, ()) := by
  rw [impl_clone_Lint_mv.s]
  by_cases h : p.length = 0
  · rw [if_pos (by simp [h]), List.length_eq_zero_iff.1 h]
  · rw [if_neg (by simpa using h), gd_t (by omega), gd_t (by omega), gd_t (by simp)]
end Go.Ev

namespace Go.Ev
structure Up (N : Nat) (old : List Int) (d : Nat) (R : Nat → Prop) (u : List Int) (sm : Bool) : Prop where
  len : u.length = N
  keep : ∀ x, x < N → 0 ≤ old.getD x 0 → u.getD x 0 = old.getD x 0
  new : ∀ x, x < N → ¬ 0 ≤ old.getD x 0 → R x → u.getD x 0 = ((d + 1 : Nat) : Int)
  non : ∀ x, x < N → ¬ 0 ≤ old.getD x 0 → ¬ R x → u.getD x 0 = -1
  some : sm = true ↔ ∃ x, x < N ∧ ¬ 0 ≤ old.getD x 0 ∧ R x
theorem Up.imp {N : Nat} {old u : List Int} {d : Nat} {R R' : Nat → Prop} {sm : Bool} (U : Up N old d R u sm) (h : ∀ x, x < N → (R x ↔ R' x)) : Up N old d R' u sm :=
  ⟨U.len, U.keep, fun x hx h0 hr => U.new x hx h0 ((h x hx).2 hr), fun x hx h0 hr => U.non x hx h0 fun hr' => hr ((h x hx).1 hr'),
    U.some.trans ⟨fun ⟨x, hx, h0, hr⟩ => ⟨x, hx, h0, (h x hx).1 hr⟩, fun ⟨x, hx, h0, hr⟩ => ⟨x, hx, h0, (h x hx).2 hr⟩⟩⟩
theorem getD_set {α : Type} (v : List α) (y x : Nat) (a e : α) : (v.set y a).getD x e = if x = y ∧ y < v.length then a else v.getD x e := by
  rw [List.getD_eq_getElem?_getD, List.getD_eq_getElem?_getD, List.getElem?_set]
  by_cases h : y = x
  · subst h
    by_cases h2 : y < v.length
    · simp [h2]
    · simp [h2]
  · rw [if_neg h, if_neg (fun h' => h h'.1.symm)]
theorem Up.set {N : Nat} {old u : List Int} {d : Nat} {R : Nat → Prop} {sm : Bool} (U : Up N old d R u sm) {y : Nat} (hy : y < N) (h0 : u.getD y 0 < 0) : Up N old d (fun x => R x ∨ x = y) (u.set y ((d + 1 : Nat) : Int)) true := by
  have ho : ¬ 0 ≤ old.getD y 0 := fun h => by rw [U.keep y hy h] at h0; omega
  refine ⟨by rw [List.length_set]; exact U.len, fun x hx h => ?_, fun x hx h hr => ?_, fun x hx h hr => ?_, ⟨fun _ => ⟨y, hy, ho, .inr rfl⟩, fun _ => rfl⟩⟩
  · rw [getD_set, if_neg (fun e => ho (by rw [← e.1]; exact h))]; exact U.keep x hx h
  · rw [getD_set]
    by_cases e : x = y
    · rw [if_pos ⟨e, by rw [U.len]; exact hy⟩]
    · rw [if_neg (fun h' => e h'.1)]
      exact U.new x hx h (hr.resolve_right e)
  · rw [getD_set, if_neg (fun h' => hr (.inr h'.1))]
    exact U.non x hx h fun h' => hr (.inl h')
theorem Up.skip {N : Nat} {old u : List Int} {d : Nat} {R : Nat → Prop} {sm : Bool} (U : Up N old d R u sm) {y : Nat} (hy : y < N) (h0 : ¬ u.getD y 0 < 0) : Up N old d (fun x => R x ∨ x = y) u sm := by
  by_cases ho : 0 ≤ old.getD y 0
  · refine ⟨U.len, U.keep, fun x hx h hr => U.new x hx h (hr.resolve_right fun e => h (by rw [e]; exact ho)), fun x hx h hr => U.non x hx h fun h' => hr (.inl h'), U.some.trans ⟨fun ⟨x, hx, h, hr⟩ => ⟨x, hx, h, .inl hr⟩, fun ⟨x, hx, h, hr⟩ => ⟨x, hx, h, hr.resolve_right fun e => h (by rw [e]; exact ho)⟩⟩⟩
  · have hR : R y := Classical.byContradiction fun h => by rw [U.non y hy ho h] at h0; omega
    exact U.imp fun x hx => ⟨.inl, fun h => by rcases h with h | h; exact h; rw [h]; exact hR⟩
variable {T : List (List Int)} {v : List Bool}
theorem TabP.row (hT : TabP T) {j : Nat} (hj : j < T.length) {i : Nat} (hi : i < T[j].length) : 0 ≤ T[j][i] ∧ T[j][i] < (T.length : Int) := hT _ (List.getElem_mem hj) _ (List.getElem_mem hi)
def Put (T : List (List Int)) (v : List Bool) (d j : Nat) (x : Nat) : Prop := ∃ m, m < j ∧ (lv T v d).getD m 0 = (d : Int) ∧ (x : Int) ∈ T.getD m []
theorem level {k : Nat} (n d : Nat) (hT : TabP T) (hN : T.length ≤ 1048576) (hr : ∀ r ∈ T, r.length ≤ 1048576) (hd : d ≤ 1048577) (hk : 1048577 < k) : ∃ sm : Bool, (sm = true ↔ lv T v (d + 1) ≠ lv T v d) ∧
    spec_l5Steps.l14 k n T (d : Int) k (lv T v d) false 0 = spec_l5Steps.l10 k T n (lv T v (d + 1)) sm ((d + 1 : Nat) : Int) := by
  refine for_post (m := T.length) (l := fun q (u : List Int × Bool) j => spec_l5Steps.l14 k n T (d : Int) q u.1 u.2 j) (fun j u => Up T.length (lv T v d) d (Put T v d j) u.1 u.2) (fun x => ∃ sm : Bool, (sm = true ↔ lv T v (d + 1) ≠ lv T v d) ∧ x = spec_l5Steps.l10 k T n (lv T v (d + 1)) sm ((d + 1 : Nat) : Int))
    (fun q u hI => ?_) (fun q j u hj hI ih => ?_) (s := (lv T v d, false)) (by omega) ?_
  · have e : u.1 = lv T v (d + 1) := by
      refine lv_ext (T := T) hI.len (lv_length _) fun x hx => ?_
      obtain ⟨h1, h2, h3⟩ := lv_succ (v := v) (d := d) hx
      by_cases h0 : 0 ≤ (lv T v d).getD x 0
      · rw [h1 h0]; exact hI.keep x hx h0
      · by_cases hR : Put T v d T.length x
        · rw [h2 h0 hR]; exact hI.new x hx h0 hR
        · rw [h3 h0 hR]; exact hI.non x hx h0 hR
    refine ⟨u.2, ⟨fun hs he => ?_, fun hne => ?_⟩, ?_⟩
    · obtain ⟨x, hx, h0, hR⟩ := hI.some.1 hs
      have := hI.new x hx h0 hR
      rw [e, he] at this
      omega
    · refine hI.some.2 (Classical.byContradiction fun hn => hne (lv_ext (T := T) (lv_length _) (lv_length _) fun x hx => ?_))
      obtain ⟨h1, h2, h3⟩ := lv_succ (v := v) (d := d) hx
      by_cases h0 : 0 ≤ (lv T v d).getD x 0
      · exact h1 h0
      · rw [h3 h0 fun hR => hn ⟨x, hx, h0, hR⟩]
        rcases lv_range (v := v) hx d with q | q
        · exact q.symm
        · omega
    · simp (disch := omega) only [spec_l5Steps.s14, w64_id]
      rw [if_neg (by simp), e]; rfl
  · have hrow : T.getD j [] = T[j] := getD_get hj
    have hrl := hr _ (List.getElem_mem hj)
    simp only [spec_l5Steps.s14]
    rw [if_pos (by simpa using hj)]
    have hsame : ∀ {R : Nat → Prop} {u : List Int} {sm : Bool}, Up T.length (lv T v d) d R u sm → (u.getD j 0 = (d : Int) ↔ (lv T v d).getD j 0 = (d : Int)) := by
      intro R u sm U
      by_cases h0 : 0 ≤ (lv T v d).getD j 0
      · rw [U.keep j hj h0]
      · by_cases hR : R j
        · rw [U.new j hj h0 hR]; omega
        · rw [U.non j hj h0 hR]; omega
    by_cases hjd : (lv T v d).getD j 0 = (d : Int)
    · refine for_post (m := T[j].length) (l := fun q' (u : List Int × Bool) i => spec_l5Steps.l17 k n q T (d : Int) (j : Int) q' u.1 u.2 i) (fun i u => Up T.length (lv T v d) d (fun x => Put T v d j x ∨ (x : Int) ∈ T[j].take i) u.1 u.2) (fun x => ∃ sm : Bool, (sm = true ↔ lv T v (d + 1) ≠ lv T v d) ∧ x = spec_l5Steps.l10 k T n (lv T v (d + 1)) sm ((d + 1 : Nat) : Int))
        (fun q' u hu => ?_) (fun q' i u hi hu ih2 => ?_) (s := u) (by omega) (hI.imp fun x _ => by simp)
      · simp (disch := omega) only [spec_l5Steps.s17, gd_t, toNat_nat, hrow, w64_id]
        rw [if_neg (by simp)]
        refine ih u (hu.imp fun x hx => ?_)
        rw [List.take_length]
        constructor
        · rintro (⟨m, hm, h1, h2⟩ | h)
          · exact ⟨m, by omega, h1, h2⟩
          · exact ⟨j, by omega, hjd, by rw [hrow]; exact h⟩
        · rintro ⟨m, hm, h1, h2⟩
          rcases Nat.lt_or_ge m j with h | h
          · exact .inl ⟨m, h, h1, h2⟩
          · have : m = j := by omega
            subst this
            exact .inr (by rw [← hrow]; exact h2)
      · have hx := hT.row hj hi
        have hul := hu.len
        simp (disch := omega) only [spec_l5Steps.s17, gd_t, toNat_nat, hrow, getD_get hi, w64_id]
        rw [if_pos (by simpa using hi), if_pos (by simpa [-List.getD_eq_getElem?_getD] using (hsame hu).2 hjd)]
        have hin : ∀ x : Nat, x < T.length → (((Put T v d j x ∨ (x : Int) ∈ T[j].take i) ∨ x = T[j][i].toNat) ↔ (Put T v d j x ∨ (x : Int) ∈ T[j].take (i + 1))) := by
          intro x hx'
          rw [mem_take1 hi, or_assoc]
          have : x = T[j][i].toNat ↔ (x : Int) = T[j][i] := by omega
          rw [this]
        have hy : T[j][i].toNat < T.length := by omega
        by_cases h0 : u.1.getD T[j][i].toNat 0 < 0
        · rw [if_pos (by simpa [-List.getD_eq_getElem?_getD] using h0)]
          exact ih2 (u.1.set T[j][i].toNat ((d : Int) + 1), true) ((hu.set hy h0).imp hin)
        · rw [if_neg (by simpa [-List.getD_eq_getElem?_getD] using h0)]
          exact ih2 u ((hu.skip hy h0).imp hin)
    · obtain ⟨k', rfl⟩ : ∃ q, k = q + 1 := ⟨k - 1, by omega⟩
      have hul := hI.len
      have next : Up T.length (lv T v d) d (Put T v d (j + 1)) u.1 u.2 := by
        refine hI.imp fun x hx => Iff.intro (fun ⟨m, hm, h1, h2⟩ => ⟨m, by omega, h1, h2⟩) (fun ⟨m, hm, h1, h2⟩ => ?_)
        rcases Nat.lt_or_ge m j with h | h
        · exact ⟨m, h, h1, h2⟩
        · have : m = j := by omega
          subst this
          exact absurd h1 hjd
      simp (disch := omega) only [spec_l5Steps.s17, gd_t, toNat_nat, hrow, w64_id]
      by_cases hz : T[j].length = 0
      · rw [if_neg (by simp [hz])]
        exact ih u next
      · rw [if_pos (by simp; omega), if_neg (by simpa [-List.getD_eq_getElem?_getD] using fun h => hjd ((hsame hI).1 h))]
        exact ih u next
  · refine ⟨lv_length _, fun _ _ _ => rfl, fun x hx h0 ⟨m, hm, _⟩ => by omega, fun x hx h0 _ => ?_, ⟨fun h => (by cases h), fun ⟨x, hx, h0, m, hm, _⟩ => by omega⟩⟩
    rcases lv_range (v := v) hx d with q | q
    · exact q
    · omega
theorem l5Steps_eq {k : Nat} (hT : TabP T) (hl : v.length = T.length) (hN : T.length ≤ 1048576) (hr : ∀ r ∈ T, r.length ≤ 1048576) (hk : 1048577 < k) : spec_l5Steps.f k T v = some (farT T v, ()) := by
  rw [spec_l5Steps.s]
  have main : spec_l5Steps.l10 k T k (lv T v 0) true 0 = some (farT T v, ()) := by
    refine while_post (l := fun n (q : Nat × Bool) => spec_l5Steps.l10 k T n (lv T v q.1) q.2 (q.1 : Int)) (fun q => (if q.2 = true then 1 else 0) + (T.length - cnt (lv T v q.1) T.length))
      (fun q => (q.2 = true → q.1 ≤ cnt (lv T v q.1) T.length) ∧ (q.2 = false → ∃ e, q.1 = e + 1 ∧ lv T v (e + 1) = lv T v e ∧ e ≤ T.length)) (fun x => x = some (farT T v, ())) (fun n q hI ih => ?_) (k := k) (s := (0, true)) (by simp; omega) ⟨fun _ => Nat.zero_le _, fun h => by cases h⟩
    obtain ⟨d, sm⟩ := q
    cases sm with
    | false =>
      obtain ⟨e, h1, h2, h3⟩ := hI.2 rfl
      have h1 : d = e + 1 := h1
      subst h1
      simp only [spec_l5Steps.s10]
      rw [if_neg (by simp), h2, lv_far h2 h3]
    | true =>
      have hc : d ≤ cnt (lv T v d) T.length := hI.1 rfl
      have hcl := cnt_le (lv T v d) T.length
      simp only [spec_l5Steps.s10, if_true]
      obtain ⟨sm, h1, h2⟩ := level (v := v) n d hT hN hr (by omega) hk
      rw [h2]
      cases sm with
      | true =>
        have hlt := cnt_lt (h1.1 rfl)
        refine ih (d + 1, true) ⟨fun _ => by simp only; omega, fun h => by cases h⟩ ?_
        have := cnt_le (lv T v (d + 1)) T.length
        simp only [if_true]; omega
      | false =>
        have he : lv T v (d + 1) = lv T v d := Classical.byContradiction fun h => by have := h1.2 h; cases this
        refine ih (d + 1, false) ⟨fun h => (by cases h), fun _ => ⟨d, rfl, he, by omega⟩⟩ ?_
        simp only [he]
        simp
  refine push_loop (l := fun n u j => spec_l5Steps.l3 k T v n u j) (ys := lv T v 0) (m := T.length) (lv_length 0) (fun n j u hj hu => ?_) (fun n => ?_) (by omega)
  · have hz := lv_zero (v := v) hj
    rw [getD_get (by rw [lv_length]; exact hj)] at hz
    simp (disch := omega) only [spec_l5Steps.s3, gd_t, toNat_nat, w64_id]
    rw [if_pos (by simpa using hj), hz]
    by_cases hv : v.getD j false = true
    · rw [if_pos hv, if_pos hv, gd_t (by simp; omega)]
    · rw [if_neg hv, if_neg hv, gd_t (by simp; omega)]
  · simp only [spec_l5Steps.s3]
    rw [if_neg (by simp)]
    exact main
end Go.Ev

namespace Go.Ev
noncomputable def rchT (T : List (List Int)) (v : List Bool) : List Bool := (farT T v).map fun x => decide (0 ≤ x)
theorem rchT_length (T : List (List Int)) (v : List Bool) : (rchT T v).length = T.length := by simp [rchT, farT_length]
theorem rchT_get {T : List (List Int)} {v : List Bool} {x : Nat} (h : x < T.length) : ((rchT T v).getD x false = true ↔ RchT T v x) := by
  rw [getD_get (by rw [rchT_length]; exact h)]
  simp only [rchT, List.getElem_map, decide_eq_true_eq]
  unfold RchT
  rw [getD_get (by rw [farT_length]; exact h)]
def unm (v : List Bool) (n : Nat) : Nat := ((List.range n).filter fun x => !v.getD x false).length
theorem unm_le (v : List Bool) (n : Nat) : unm v n ≤ n := by
  have := List.length_filter_le (fun x => !v.getD x false) (List.range n)
  simpa [unm] using this
theorem unm_set {v : List Bool} {n y : Nat} (hv : v.length = n) (hy : y < n) (h : v.getD y false = false) : unm (v.set y true) n < unm v n := by
  refine (filter_lt (fun x hx => ?_)).2 ⟨y, List.mem_range.2 hy, by rw [h]; rfl, by rw [getD_set' v y y _ _ (by omega), if_pos rfl]; rfl⟩
  rw [getD_set' v y x _ _ (by omega)] at hx
  by_cases e : x = y
  · rw [if_pos e] at hx; cases hx
  · rw [if_neg e] at hx; exact hx
structure BfsI (T : List (List Int)) (v : List Bool) (is : List Bool) (row : List Int) (D : Nat → Nat → Prop) : Prop where
  len : is.length = T.length
  rows : ∀ y ∈ row, 0 ≤ y ∧ y < (T.length : Int) ∧ is.getD y.toNat false = true
  snd : ∀ x, x < T.length → is.getD x false = true → RchT T v x
  start : ∀ x, x < T.length → v.getD x false = true → is.getD x false = true
  cls : ∀ m x, m < T.length → x < T.length → is.getD m false = true → (x : Int) ∈ T.getD m [] → D m x → is.getD x false = true ∨ (m : Int) ∈ row
variable {T : List (List Int)} {v : List Bool}
theorem BfsI.done {is : List Bool} (I : BfsI T v is [] fun _ _ => True) : is = rchT T v := by
  refine list_ext_getD (d := false) I.len (rchT_length T v) fun x hx => ?_
  rw [Bool.eq_iff_iff, rchT_get hx]
  refine ⟨I.snd x hx, RchT.least (C := fun x => is.getD x false = true) I.start (fun m x hm hx h1 h2 => ?_) x hx⟩
  rcases I.cls m x hm hx h1 h2 trivial with h | h
  · exact h
  · simp at h
theorem reach_loop {k : Nat} (hT : TabP T) (hN : T.length ≤ 1048576) (hr : ∀ r ∈ T, r.length ≤ 1048576) (hk : 3000000 < k) {is : List Bool} {row : List Int} (hrow : row.length ≤ 1048576) (I : BfsI T v is row fun _ _ => True) : impl_reach.l8 k T k is row = some (rchT T v, ()) := by
  refine while_post (l := fun n (q : List Bool × List Int) => impl_reach.l8 k T n q.1 q.2) (fun q => unm q.1 T.length + q.2.length) (fun q => BfsI T v q.1 q.2 (fun _ _ => True) ∧ unm q.1 T.length + q.2.length ≤ 2097152) (fun x => x = some (rchT T v, ())) (fun n q hI ih => ?_) (k := k) (s := (is, row))
    (by have := unm_le is T.length; simp only; omega) ⟨I, by have := unm_le is T.length; simp only; omega⟩
  obtain ⟨is, row⟩ := q
  obtain ⟨I, hμ⟩ := hI
  simp only at I hμ ih ⊢
  cases row with
  | nil =>
    rw [impl_reach.s8, if_neg (by simp), I.done]
  | cons y rest =>
    obtain ⟨hy0, hy1, hy2⟩ := I.rows y (by simp)
    have hyT : y.toNat < T.length := by omega
    have hg : (y :: rest).getD (Int.toNat 0) 0 = y := rfl
    have hd : (((y :: rest).take ((((y :: rest).length : Nat) : Int).toNat)).drop (Int.toNat 1)) = rest := by
      rw [toNat_nat, List.take_length]; rfl
    have hTy : T.getD y.toNat [] = T[y.toNat] := getD_get hyT
    have hrl := hr _ (List.getElem_mem hyT)
    rw [impl_reach.s8, if_pos (by simp), gd_t (by omega), gd_t (by simp), gd_t (by omega), gd_t (by simp; omega), gd_t (by omega), hg, gd_t hy0, gd_t hy1, hd]
    simp only [List.length_cons] at hμ
    refine for_post (m := T[y.toNat].length) (l := fun q (u : List Bool × List Int) i => impl_reach.l12 k n T (y :: rest) q u.1 u.2 i) (fun i u => BfsI T v u.1 u.2 (fun m x => m ≠ y.toNat ∨ (x : Int) ∈ T[y.toNat].take i) ∧ unm u.1 T.length + u.2.length ≤ unm is T.length + rest.length ∧ u.1.getD y.toNat false = true) (fun x => x = some (rchT T v, ()))
      (fun q u hU => ?_) (fun q i u hi hU ih2 => ?_) (s := (is, rest)) (by omega) ⟨⟨I.len, fun z hz => I.rows z (by simp [hz]), I.snd, I.start, fun m x hm hx h1 h2 h3 => ?_⟩, by simp only; omega, hy2⟩
    · obtain ⟨U, hu, _⟩ := hU
      rw [impl_reach.s12, hg, hTy, if_neg (by simp)]
      refine ih u ⟨⟨U.len, U.rows, U.snd, U.start, fun m x hm hx h1 h2 _ => U.cls m x hm hx h1 h2 ?_⟩, by omega⟩ (by simp only [List.length_cons]; omega)
      rw [List.take_length]
      by_cases e : m = y.toNat
      · right; rw [← hTy, ← e]; exact h2
      · exact .inl e
    · obtain ⟨U, hu, huy⟩ := hU
      have hx := hT.row hyT hi
      have hul := U.len
      have hx' : T[y.toNat][i].toNat < T.length := by omega
      have hreach : RchT T v T[y.toNat][i].toNat := by
        refine RchT.step hyT hx' (U.snd _ hyT huy) ?_
        rw [hTy, show ((T[y.toNat][i].toNat : Nat) : Int) = T[y.toNat][i] by omega]
        exact List.getElem_mem hi
      have hcast : ∀ x : Nat, (x : Int) = T[y.toNat][i] ↔ x = T[y.toNat][i].toNat := fun x => by omega
      simp (disch := omega) only [impl_reach.s12, hg, hTy, gd_t, toNat_nat, getD_get hi, w64_id]
      rw [if_pos (by simpa using hi)]
      cases hb : u.1.getD T[y.toNat][i].toNat false with
      | true =>
        simp only [Bool.not_true, Bool.false_eq_true, if_false]
        refine ih2 u ⟨⟨U.len, U.rows, U.snd, U.start, fun m x hm hx h1 h2 h3 => ?_⟩, hu, huy⟩
        rcases h3 with h3 | h3
        · exact U.cls m x hm hx h1 h2 (.inl h3)
        · rcases (mem_take1 hi _).1 h3 with h3 | h3
          · exact U.cls m x hm hx h1 h2 (.inr h3)
          · left; rw [(hcast x).1 h3]; exact hb
      | false =>
        simp only [Bool.not_false, if_true]
        have hum := unm_set hul hx' hb
        have hull : u.2.length ≤ 2097152 := by omega
        rw [gd_t (by simp; omega)]
        have hset : ∀ x, (u.1.set T[y.toNat][i].toNat true).getD x false = true ↔ x = T[y.toNat][i].toNat ∨ u.1.getD x false = true := fun x => by
          rw [getD_set' u.1 _ x _ _ (by omega)]
          by_cases e : x = T[y.toNat][i].toNat
          · simp [e]
          · simp [e, -List.getD_eq_getElem?_getD]
        refine ih2 (u.1.set T[y.toNat][i].toNat true, u.2 ++ [T[y.toNat][i]]) ⟨⟨by simp only [List.length_set]; exact hul, fun z hz => ?_, fun x hx h => ?_, fun x hx h => (hset x).2 (.inr (U.start x hx h)), fun m x hm hx h1 h2 h3 => ?_⟩, ?_, (hset _).2 (.inr huy)⟩
        · rcases List.mem_append.1 hz with hz | hz
          · obtain ⟨g1, g2, g3⟩ := U.rows z hz
            exact ⟨g1, g2, (hset _).2 (.inr g3)⟩
          · rw [List.mem_singleton.1 hz]
            exact ⟨hx.1, hx.2, (hset _).2 (.inl rfl)⟩
        · rcases (hset x).1 h with e | e
          · rw [e]; exact hreach
          · exact U.snd x hx e
        · rcases (hset m).1 h1 with e | e
          · right; simp only [List.mem_append, List.mem_singleton]; right; exact (hcast m).2 e
          · have fin_ : (m ≠ y.toNat ∨ (x : Int) ∈ T[y.toNat].take i) → (u.1.set T[y.toNat][i].toNat true).getD x false = true ∨ (m : Int) ∈ u.2 ++ [T[y.toNat][i]] := fun h3 => by
              rcases U.cls m x hm hx e h2 h3 with h | h
              · exact .inl ((hset x).2 (.inr h))
              · exact .inr (List.mem_append.2 (.inl h))
            rcases h3 with h3 | h3
            · exact fin_ (.inl h3)
            · rcases (mem_take1 hi _).1 h3 with h3 | h3
              · exact fin_ (.inr h3)
              · exact .inl ((hset x).2 (.inl ((hcast x).1 h3)))
        · simp only [List.length_append, List.length_singleton]; omega
    · rcases I.cls m x hm hx h1 h2 trivial with h | h
      · exact .inl h
      · rcases List.mem_cons.1 h with h | h
        · rcases h3 with h3 | h3
          · exact absurd (show m = y.toNat by omega) h3
          · simp at h3
        · exact .inr h
theorem marks_set (p : List Int) (n : Nat) {j : Nat} (hj : j < p.length) (h0 : 0 ≤ p[j]) (h1 : p[j] < (n : Int)) : (marksOf (p.take j) n).set p[j].toNat true = marksOf (p.take (j + 1)) n := by
  refine list_ext_getD (d := false) (n := n) (by simp [marksOf]) (by simp [marksOf]) fun x hx => ?_
  rw [getD_set' _ _ x _ _ (by simp [marksOf]; omega), getD_get (by simpa [marksOf] using hx), getD_get (by simpa [marksOf] using hx), marksOf_get _ _ hx, marksOf_get _ _ hx]
  by_cases e : x = p[j].toNat
  · rw [if_pos e]
    have : (x : Int) ∈ p.take (j + 1) := by rw [mem_take1 hj]; right; omega
    rw [decide_eq_true this]
  · rw [if_neg e]
    have : (x : Int) ≠ p[j] := by omega
    congr 1
    rw [mem_take1 hj]
    simp [this]
theorem marksOf_nil (n : Nat) : marksOf [] n = List.replicate n false := by
  apply List.ext_getElem
  · simp [marksOf]
  · intro i h1 h2; simp [marksOf]
theorem marksOf_getD {p : List Int} {n x : Nat} (h : x < n) : ((marksOf p n).getD x false = true ↔ (x : Int) ∈ p) := by
  rw [getD_get (by rw [marksOf_length]; exact h), marksOf_get _ _ h, decide_eq_true_iff]
theorem l4Marks_eq {k : Nat} {p : List Int} {n : Nat} (h : ∀ x ∈ p, 0 ≤ x ∧ x < (n : Int)) (hn : n ≤ 1048576) (hp : p.length ≤ 1048576) (hk : 1048577 < k) : spec_l4Marks.f k p (n : Int) = some (marksOf p n, ()) := by
  rw [spec_l4Marks.s, gd_t (by omega), gd_t (by omega)]
  refine for_post (m := p.length) (l := fun q u j => spec_l4Marks.l3 k p q u j) (fun j u => u = marksOf (p.take j) n) (fun x => x = some (marksOf p n, ())) (fun q u hI => ?_) (fun q j u hj hI ih => ?_) (by omega) (by simp [marksOf_nil])
  · rw [spec_l4Marks.s3, if_neg (by simp), hI, List.take_length]
  · obtain ⟨h0, h1⟩ := h _ (List.getElem_mem hj)
    have hul : u.length = n := by rw [hI, marksOf_length]
    simp (disch := omega) only [spec_l4Marks.s3, gd_t, toNat_nat, getD_get hj, w64_id]
    rw [if_pos (by simpa using hj)]
    exact ih _ (by rw [hI, marks_set p n hj h0 h1])
theorem reach_eq {k : Nat} {p : List Int} (hT : TabP T) (hN : T.length ≤ 1048576) (hr : ∀ r ∈ T, r.length ≤ 1048576) (hp : ∀ x ∈ p, 0 ≤ x ∧ x < (T.length : Int)) (hpl : p.length ≤ 1048576) (hk : 3000000 < k) : impl_reach.f k T p = some (rchT T (marksOf p T.length), ()) := by
  rw [impl_reach.s, gd_t (by omega), gd_t (by omega), slices_Clone_int_int.s, gd_t (by unfold LIM; omega)]
  simp only [Option.bind_some, toNat_nat]
  refine for_post (m := p.length) (l := fun q u j => impl_reach.l4 k T p q u p j) (fun j u => u = marksOf (p.take j) T.length) (fun x => x = some (rchT T (marksOf p T.length), ())) (fun q u hI => ?_) (fun q j u hj hI ih => ?_) (by omega) (by simp [marksOf_nil])
  · rw [List.take_length] at hI
    rw [impl_reach.s4, if_neg (by simp), hI]
    refine reach_loop hT hN hr hk hpl ⟨marksOf_length _ _, fun y hy => ?_, fun x hx h => RchT.start hx h, fun x hx h => h, fun m x hm hx h1 h2 _ => ?_⟩
    · obtain ⟨h0, h1⟩ := hp y hy
      exact ⟨h0, h1, (marksOf_getD (by omega)).2 (by rw [show ((y.toNat : Nat) : Int) = y by omega]; exact hy)⟩
    · exact .inr ((marksOf_getD hm).1 h1)
  · obtain ⟨h0, h1⟩ := hp _ (List.getElem_mem hj)
    have hul : u.length = T.length := by rw [hI, marksOf_length]
    simp (disch := omega) only [impl_reach.s4, gd_t, toNat_nat, getD_get hj, w64_id]
    rw [if_pos (by simpa using hj)]
    exact ih _ (by rw [hI, marks_set p T.length hj h0 h1])
end Go.Ev

namespace Go.Ev
theorem firstT_StP {s : SY} (hS : SysP s) : StP s.1 (firstT s) := by
  rw [StP_iff]
  refine ⟨firstT_length s, fun i h h' => ?_⟩
  have := hS.vp _ (List.getElem_mem h)
  simp only [firstT, List.getElem_map]
  exact ⟨this.2.2.2.2.1, this.2.2.2.2.2⟩
noncomputable def n0 (s : SY) : Nat := noOf s.1 (firstT s)
theorem n0_lt {s : SY} (hS : SysP s) : n0 s < prodW s.1 := noOf_lt (firstT_StP hS) hS.vp
theorem first_eq {k : Nat} {s : SY} (hS : SysP s) (hk : 1000 < k) : impl_first.f k s = some (firstT s, ()) := by
  have h5 := hS.v5
  rw [impl_first.s]
  refine push_loop (l := fun n v j => impl_first.l3 k s n v j) (ys := firstT s) (m := s.1.length) (firstT_length s) (fun n j v hj hv' => ?_) (fun n => ?_) (by omega)
  · simp (disch := omega) only [impl_first.s3, getD_get, w64_id, toNat_nat, gd_t]
    rw [if_pos (by simpa using hj), gd_t (by simp; omega)]
    simp [firstT]
  · rw [impl_first.s3, if_neg (by simp), clone_int_eq (k := k) (p := firstT s) (by rw [firstT_length]; omega)]
    rfl
theorem mem_one {x y : Int} : x ∈ [y] ↔ x = y := by simp
theorem l28First_eq {k : Nat} {s : SY} {b : List Int} (E : Env k s) (hb : BlkP (prodW s.1) b) (hk : 1048577 < k) : spec_l28First.f k s b = some (marksOf [b.getD (n0 s) 0] (prodW s.1), ()) := by
  have hS := E.S
  have hsz := hS.sz
  have hn := n0_lt hS
  have hbl := hb.len
  have hnb : n0 s < b.length := by omega
  have hlow := hb.low _ hnb
  rw [spec_l28First.s, FirstState_eq hS E.hv (by omega)]
  simp only [Option.bind_some]
  rw [l4Number_eq hS (firstT_StP hS) (by omega)]
  simp only [Option.bind_some, toNat_nat]
  rw [show noOf s.1 (firstT s) = n0 s from rfl, gd_t (by omega), gd_t (by omega), hbl, getD_get hnb, l4Marks_eq (fun x hx => by rw [mem_one] at hx; omega) (by omega) (by simp) hk]
  rfl
theorem listOf_eq {k : Nat} (v : List Bool) (hv : v.length ≤ 1048576) (hk : 1048576 < k) : impl_listOf.f k v = some (listT v, ()) := by
  rw [impl_listOf.s]
  refine for_post (m := v.length) (l := fun n l j => impl_listOf.l3 k v n l j) (fun j l => l = ((List.range j).filter fun i => v.getD i false).map (fun (i : Nat) => (i : Int)) ∧ l.length ≤ j) (fun x => x = some (listT v, ())) (fun n l hI => ?_) (fun n j l hj hI ih => ?_) (by omega) (by simp)
  · have hl := hI.2
    rw [impl_listOf.s3, if_neg (by simp), clone_int_eq (by omega), hI.1]
    simp [listT]
  · simp (disch := omega) only [impl_listOf.s3, gd_t, toNat_nat, w64_id]
    rw [if_pos (by simpa using hj)]
    by_cases hb : v.getD j false = true
    · rw [if_pos hb, gd_t (by have := hI.2; simp; omega)]
      exact ih _ ⟨by rw [hI.1, List.range_succ, List.filter_append]; simp [hb, -List.getD_eq_getElem?_getD], by have := hI.2; simp; omega⟩
    · rw [if_neg hb]
      exact ih _ ⟨by rw [hI.1, List.range_succ, List.filter_append]; simp [hb, -List.getD_eq_getElem?_getD], by omega⟩
theorem listT_length (v : List Bool) : (listT v).length ≤ v.length := by
  have := List.length_filter_le (fun i => v.getD i false) (List.range v.length)
  simpa [listT] using this
end Go.Ev

namespace Go.Ev
noncomputable def whereT (s : SY) (p : List TM) : List Bool := (List.range (prodW s.1)).map fun n => evalT p (stOf s.1 n) == 1
theorem whereT_length (s : SY) (p : List TM) : (whereT s p).length = prodW s.1 := by simp [whereT]
theorem whereT_getD {s : SY} {p : List TM} {n : Nat} (h : n < prodW s.1) : (whereT s p).getD n false = (evalT p (stOf s.1 n) == 1) := by
  rw [getD_get (by rw [whereT_length]; exact h)]; simp [whereT]
theorem StatesWhere_eq {k : Nat} {s : SY} {p : List TM} (E : Env k s) (hp : KindIs p s.1.length 2) (hi : spec_l2Is.f k p (s.1.length : Int) 2 = some (true, ())) (hk : 1048577 < k) : spec_StatesWhere.f k s p = some (listT (whereT s p), ()) := by
  have hS := E.S
  have hsz := hS.sz
  rw [spec_StatesWhere.s, E.hv]
  simp only [Option.bind_some]
  rw [if_neg (by simp), hi]
  simp only [Option.bind_some]
  rw [if_neg (by simp)]
  refine for_post (m := prodW s.1) (l := fun n l j => spec_StatesWhere.l5 k s p n l j) (fun j l => l = ((List.range j).filter fun i => (whereT s p).getD i false).map (fun (i : Nat) => (i : Int)) ∧ l.length ≤ j) (fun x => x = some (listT (whereT s p), ())) (fun n l hI => ?_) (fun n j l hj hI ih => ?_) (by omega) (by simp)
  · rw [spec_StatesWhere.s5, E.hz]
    simp only [Option.bind_some]
    rw [if_neg (by simp), hI.1]
    simp [listT, whereT_length]
  · have hst := (stOf_StP j hS.vp).range hS.vp
    rw [spec_StatesWhere.s5, E.hz]
    simp only [Option.bind_some]
    rw [if_pos (by simpa using hj), l4State_eq hS E.hv j (by omega) (by omega)]
    simp only [Option.bind_some]
    rw [l2Last_eq hp hst (by omega)]
    simp (disch := omega) only [Option.bind_some, w64_id]
    rw [← whereT_getD hj]
    by_cases hb : (whereT s p).getD j false = true
    · rw [if_pos hb, gd_t (by have := hI.2; simp; omega)]
      exact ih _ ⟨by rw [hI.1, List.range_succ, List.filter_append]; simp [hb, -List.getD_eq_getElem?_getD], by have := hI.2; simp; omega⟩
    · rw [if_neg hb]
      exact ih _ ⟨by rw [hI.1, List.range_succ, List.filter_append]; simp [hb, -List.getD_eq_getElem?_getD], by omega⟩
theorem asc_SetAt {p : List Int} (ha : Asc p) (n : Int) (hb : ∀ x ∈ p, 0 ≤ x ∧ x < n) : ∀ i, i < p.length → SetAt p n i := by
  intro i hi
  have := hb _ (List.getElem_mem hi)
  exact ⟨hi, ⟨by omega, by omega⟩, fun h0 => List.pairwise_iff_getElem.1 ha (i - 1) i (by omega) hi (by omega)⟩
theorem l4Set_eq {k : Nat} {p : List Int} (ha : Asc p) (hb : ∀ x ∈ p, 0 ≤ x ∧ x < 400) (hp : p.length ≤ 1048576) (hk : 1048576 < k) : spec_l4Set.f k p = some (true, ()) := by
  rw [spec_l4Set.s]
  refine for_post (m := p.length) (l := fun n (_ : Unit) j => spec_l4Set.l2 k p n j) (fun _ _ => True) (fun x => x = some (true, ())) (fun n _ _ => ?_) (fun n j _ hj _ ih => ?_) (s := ()) (by omega) trivial
  · simp [spec_l4Set.s2]
  · obtain ⟨h1, h2, h3⟩ := asc_SetAt ha 400 hb j hj
    simp (disch := omega) only [spec_l4Set.s2, gd_t, toNat_nat, getD_get hj, spec_in_eq, Option.bind_some, w64_id]
    rw [if_pos (by simpa using hj), decide_eq_true (show 0 ≤ p[j] ∧ p[j] ≤ 399 by omega), if_neg (by simp)]
    by_cases h0 : 0 < j
    · have h4 := h3 h0
      have hc : ((j : Int) - 1) = ((j - 1 : Nat) : Int) := by omega
      rw [if_pos (by simpa using h0)]
      simp (disch := omega) only [hc, gd_t, toNat_nat, getD_get (show j - 1 < p.length by omega)]
      rw [if_neg (by simp; omega)]
      exact ih () trivial
    · rw [if_neg (by simpa using h0)]
      exact ih () trivial
theorem listT_bd {v : List Bool} {n : Nat} (h : v.length ≤ n) : ∀ x ∈ listT v, 0 ≤ x ∧ x < (n : Int) := by
  intro x hx
  obtain ⟨i, hi, _, rfl⟩ := mem_listT.1 hx
  omega
theorem mem_listT' {v : List Bool} {n : Nat} (hn : n < v.length) : ((n : Int) ∈ listT v ↔ v.getD n false = true) := by
  rw [mem_listT]
  constructor
  · rintro ⟨i, _, h, e⟩
    have : i = n := by omega
    subst this; exact h
  · exact fun h => ⟨n, hn, h, rfl⟩
end Go.Ev

namespace Go.Ev
theorem IndexFunc_eq4 {k : Nat} {p : List Int} {f : Int → Option Bool} {b : Int → Bool} (hf : ∀ x ∈ p, f x = some (b x)) (hp : p.length < 4611686018427387904) (hk : p.length < k) :
    slices_IndexFunc_int_int.f k p f = some (if p.findIdx b < p.length then ((p.findIdx b : Nat) : Int) else -1, ()) := by
  rw [slices_IndexFunc_int_int.s]
  refine for_post (m := p.length) (l := fun n (_ : Unit) j => slices_IndexFunc_int_int.l2 k p f n j) (fun j _ => ∀ i (h : i < p.length), i < j → b p[i] = false) (fun x => x = _) (fun n _ hI => ?_) (fun n j _ hj hI ih => ?_) (s := ()) (by omega) (fun i h hi => by omega)
  · have : ¬ p.findIdx b < p.length := fun h => by
      have h1 := hI _ h h
      have h2 := List.findIdx_getElem (p := b) (xs := p) (w := h)
      rw [h1] at h2; cases h2
    rw [slices_IndexFunc_int_int.s2, if_neg (by simp), if_neg this]
  · simp (disch := omega) only [slices_IndexFunc_int_int.s2, gd_t, toNat_nat, getD_get hj, hf _ (List.getElem_mem hj), Option.bind_some, w64_id]
    rw [if_pos (by simpa using hj)]
    cases hb : b p[j] with
    | true =>
      have hidx : p.findIdx b = j := (List.findIdx_eq hj).2 ⟨hb, fun i hi => hI i (by omega) hi⟩
      rw [if_pos rfl, hidx, if_pos hj]
    | false =>
      rw [if_neg (by simp)]
      exact ih () fun i h hi => by
        by_cases e : i = j
        · subst e; exact hb
        · exact hI i h (by omega)
theorem IndexFunc_eq {k : Nat} {p : List Int} {f : Int → Option Bool} {b : Int → Bool} (hf : ∀ x ∈ p, f x = some (b x)) (hp : p.length ≤ 1048576) (hk : 1048576 < k) :
    slices_IndexFunc_int_int.f k p f = some (if p.findIdx b < p.length then ((p.findIdx b : Nat) : Int) else -1, ()) := IndexFunc_eq4 hf (by omega) (by omega)
theorem ContainsFunc_eq {k : Nat} {p : List Int} {f : Int → Option Bool} {b : Int → Bool} (hf : ∀ x ∈ p, f x = some (b x)) (hp : p.length ≤ 1048576) (hk : 1048576 < k) : slices_ContainsFunc_int_int.f k p f = some (p.any b, ()) := by
  rw [slices_ContainsFunc_int_int.s, IndexFunc_eq hf hp hk, Option.bind_some]
  congr 2
  rw [Bool.eq_iff_iff, decide_eq_true_iff, List.any_eq_true]
  constructor
  · intro h
    split at h
    · rename_i hi
      exact ⟨_, List.getElem_mem hi, List.findIdx_getElem (w := hi)⟩
    · omega
  · rintro ⟨x, hx, hb⟩
    have := List.findIdx_lt_length_of_exists ⟨x, hx, hb⟩
    rw [if_pos this]; omega
theorem DeleteFunc_eq {k : Nat} {p : List Int} {f : Int → Option Bool} {b : Int → Bool} (hf : ∀ x ∈ p, f x = some (b x)) (hp : p.length ≤ 1048576) (hk : 1048577 < k) : slices_DeleteFunc_int_int.f k p f = some (p.filter fun x => !b x, ()) := by
  rw [slices_DeleteFunc_int_int.s, IndexFunc_eq hf hp (by omega), Option.bind_some]
  by_cases hi : p.findIdx b < p.length
  · have hbefore : ∀ j, j ≤ p.findIdx b → (p.take j).filter (fun x => !b x) = p.take j := fun j hj => by
      rw [List.filter_eq_self]
      intro x hx
      obtain ⟨i, hi', rfl⟩ := List.mem_iff_getElem.1 hx
      rw [List.length_take] at hi'
      rw [List.getElem_take]
      have := List.not_of_lt_findIdx (p := b) (xs := p) (i := i) (by omega)
      simpa using this
    have hb := List.findIdx_getElem (p := b) (xs := p) (w := hi)
    simp only [if_pos hi]
    rw [if_neg (by simp <;> omega)]
    obtain ⟨i0, hi0⟩ : ∃ i0, i0 = p.findIdx b := ⟨_, rfl⟩
    simp only [← hi0] at hi hbefore hb ⊢
    rw [w64_id (by omega) (by omega)]
    refine for_from (a := i0 + 1) (m := p.length) (by omega) (l := fun n (u : List Int × Int) j => slices_DeleteFunc_int_int.l5 k f n u.1 u.2 j) (fun j u => ∃ i : Nat, u.2 = (i : Int) ∧ i < j ∧ u.1.length = p.length ∧ u.1.take i = (p.take j).filter (fun x => !b x) ∧ u.1.drop j = p.drop j) (fun x => x = some (p.filter fun x => !b x, ())) (fun n u hI => ?_) (fun n j u haj hj hI ih => ?_) (k := k) (s := (p, (i0 : Int))) (by omega) ⟨i0, rfl, by omega, rfl, ?_, rfl⟩
    · obtain ⟨i, h1, h2, h3, h4, h5⟩ := hI
      obtain ⟨u, v⟩ := u
      simp only at h1 h3 h4 h5 ⊢
      subst h1
      rw [List.take_length] at h4
      rw [slices_DeleteFunc_int_int.s5, if_neg (by simp [h3]), gd_t (by omega), gd_t (by omega), gd_t (by omega), gd_t (by omega), gd_t (by simp; omega)]
      rw [toNat_nat, List.take_left' (by rw [List.length_take]; omega), show Int.toNat 0 = 0 from rfl, List.drop_zero, h4]
    · obtain ⟨i, h1, h2, h3, h4, h5⟩ := hI
      obtain ⟨u, v⟩ := u
      simp only at h1 h3 h4 h5 ih ⊢
      subst h1
      have huj : u[j] = p[j] := by
        have := congrArg (fun x => x[0]?) h5
        simpa [List.getElem?_eq_getElem hj, List.getElem?_eq_getElem (l := u) (i := j) (by omega)] using this
      have hju : j < u.length := by omega
      simp (disch := omega) only [slices_DeleteFunc_int_int.s5, gd_t, toNat_nat, getD_get hju, huj, hf _ (List.getElem_mem hj), Option.bind_some, w64_id]
      rw [if_pos (by rw [h3]; simpa using hj)]
      have hdrop : ∀ w : List Int, w.drop j = p.drop j → w.drop (j + 1) = p.drop (j + 1) := fun w hw => by
        have := congrArg List.tail hw
        simpa using this
      have htake : (p.take (j + 1)).filter (fun x => !b x) = (p.take j).filter (fun x => !b x) ++ (if b p[j] = true then [] else [p[j]]) := by
        rw [List.take_succ_eq_append_getElem hj, List.filter_append]
        cases hbj : b p[j] <;> simp [hbj]
      cases hbj : b p[j] with
      | true =>
        rw [if_neg (by simp)]
        exact ih (u, (i : Int)) ⟨i, rfl, by omega, h3, by rw [htake, hbj, h4]; simp, hdrop u h5⟩
      | false =>
        rw [if_pos (by simp)]
        refine ih (u.set i p[j], ((i : Int) + 1)) ⟨i + 1, by simp only; omega, by omega, by simp only [List.length_set]; exact h3, ?_, ?_⟩
        · simp only
          rw [take_set (by omega), htake, hbj, h4]; simp
        · simp only
          rw [List.drop_set_of_lt (by omega)]; exact hdrop u h5
    · simp only
      rw [List.take_succ_eq_append_getElem hi, List.filter_append, hbefore i0 (Nat.le_refl _)]
      simp [hb]
  · simp only [if_neg hi]
    rw [if_pos (by simp)]
    congr 2
    refine (List.filter_eq_self.2 fun x hx => ?_).symm
    cases hb : b x with
    | false => rfl
    | true => exact absurd (List.findIdx_lt_length_of_exists ⟨x, hx, hb⟩) hi
noncomputable def behT (T : List (List Int)) (v : List Bool) : List Bool := by
  classical
  exact (List.range T.length).map fun (x : Nat) => decide (∃ m, m < T.length ∧ v.getD m false = true ∧ (x : Int) ∈ T.getD m [])
theorem behT_length (T : List (List Int)) (v : List Bool) : (behT T v).length = T.length := by simp [behT]
theorem behT_getD {T : List (List Int)} {v : List Bool} {x : Nat} (h : x < T.length) : ((behT T v).getD x false = true ↔ ∃ m, m < T.length ∧ v.getD m false = true ∧ (x : Int) ∈ T.getD m []) := by
  rw [getD_get (by rw [behT_length]; exact h)]
  simp only [behT, List.getElem_map, List.getElem_range, decide_eq_true_iff]
structure MarkI (N : Nat) (R : Nat → Prop) (u : List Bool) : Prop where
  len : u.length = N
  iff : ∀ x, x < N → (u.getD x false = true ↔ R x)
theorem MarkI.imp {N : Nat} {R R' : Nat → Prop} {u : List Bool} (M : MarkI N R u) (h : ∀ x, x < N → (R x ↔ R' x)) : MarkI N R' u := ⟨M.len, fun x hx => (M.iff x hx).trans (h x hx)⟩
theorem MarkI.set {N : Nat} {R : Nat → Prop} {u : List Bool} (M : MarkI N R u) {y : Nat} (hy : y < N) : MarkI N (fun x => R x ∨ x = y) (u.set y true) := by
  refine ⟨by rw [List.length_set]; exact M.len, fun x hx => ?_⟩
  rw [getD_set' u y x _ _ (by rw [M.len]; exact hy)]
  by_cases e : x = y
  · simp [e]
  · simp [e, M.iff x hx, -List.getD_eq_getElem?_getD]
theorem MarkI.nil (N : Nat) {R : Nat → Prop} (h : ∀ x, x < N → ¬ R x) : MarkI N R (List.replicate N false) := ⟨by simp, fun x hx => by
  rw [getD_get (by simpa using hx)]; simp [h x hx]⟩
theorem MarkI.uniq {N : Nat} {R : Nat → Prop} {u v : List Bool} (M : MarkI N R u) (M' : MarkI N R v) : u = v := list_ext_getD (d := false) M.len M'.len fun x hx => by
  rw [Bool.eq_iff_iff, M.iff x hx, M'.iff x hx]
theorem behT_mark (T : List (List Int)) (v : List Bool) : MarkI T.length (fun x => ∃ m, m < T.length ∧ v.getD m false = true ∧ (x : Int) ∈ T.getD m []) (behT T v) := ⟨behT_length T v, fun x hx => behT_getD hx⟩
theorem over_eq {k : Nat} {T : List (List Int)} {p : List Int} (hT : TabP T) (hN : T.length ≤ 1048576) (hr : ∀ r ∈ T, r.length ≤ 1048576) (hp : ∀ x ∈ p, 0 ≤ x ∧ x < (T.length : Int)) (hpl : p.length ≤ 1048576) (hk : 1048577 < k) : impl_over.f k T p = some (listT (behT T (marksOf p T.length)), ()) := by
  rw [impl_over.s, gd_t (by omega), gd_t (by omega)]
  simp only [toNat_nat]
  refine for_post (m := p.length) (l := fun n u j => impl_over.l3 k T p n u j) (fun j u => MarkI T.length (fun x => ∃ n ∈ p.take j, (x : Int) ∈ T.getD n.toNat []) u) (fun x => x = some (listT (behT T (marksOf p T.length)), ())) (fun n u hI => ?_) (fun n j u hj hI ih => ?_) (by omega) (MarkI.nil _ fun x hx ⟨n, hn, _⟩ => by simp at hn)
  · rw [List.take_length] at hI
    have hu : u = behT T (marksOf p T.length) := MarkI.uniq hI ((behT_mark T _).imp fun x hx => by
      constructor
      · rintro ⟨m, hm, h1, h2⟩
        exact ⟨(m : Int), (marksOf_getD hm).1 h1, by rw [toNat_nat]; exact h2⟩
      · rintro ⟨n, hn, h2⟩
        have := hp n hn
        refine ⟨n.toNat, by omega, (marksOf_getD (by omega)).2 ?_, h2⟩
        rw [show ((n.toNat : Nat) : Int) = n by omega]; exact hn)
    rw [impl_over.s3, if_neg (by simp), hu, listOf_eq _ (by rw [behT_length]; exact hN) (by omega)]
    rfl
  · obtain ⟨h0, h1⟩ := hp _ (List.getElem_mem hj)
    have hjT : p[j].toNat < T.length := by omega
    have hrow : T.getD p[j].toNat [] = T[p[j].toNat] := getD_get hjT
    have hrl := hr _ (List.getElem_mem hjT)
    simp (disch := omega) only [impl_over.s3, gd_t, toNat_nat, getD_get hj]
    rw [if_pos (by simpa using hj)]
    refine for_post (m := T[p[j].toNat].length) (l := fun q w i => impl_over.l6 k n T p (j : Int) q w i) (fun i w => MarkI T.length (fun x => (∃ n ∈ p.take j, (x : Int) ∈ T.getD n.toNat []) ∨ (x : Int) ∈ T[p[j].toNat].take i) w) (fun x => x = some (listT (behT T (marksOf p T.length)), ())) (fun q w hW => ?_) (fun q i w hi hW ih2 => ?_) (by omega) (hI.imp fun x hx => by simp)
    · simp (disch := omega) only [impl_over.s6, toNat_nat, getD_get hj, hrow, w64_id]
      rw [if_neg (by simp)]
      refine ih _ (hW.imp fun x hx => ?_)
      rw [List.take_length]
      constructor
      · rintro (⟨m, hm, h⟩ | h)
        · exact ⟨m, (mem_take1 hj m).2 (.inl hm), h⟩
        · exact ⟨p[j], (mem_take1 hj _).2 (.inr rfl), by rw [hrow]; exact h⟩
      · rintro ⟨m, hm, h⟩
        rcases (mem_take1 hj m).1 hm with hm | hm
        · exact .inl ⟨m, hm, h⟩
        · right; rw [hm, hrow] at h; exact h
    · have hx := hT.row hjT hi
      have hwl := hW.len
      simp (disch := omega) only [impl_over.s6, gd_t, toNat_nat, getD_get hj, hrow, getD_get hi, w64_id]
      rw [if_pos (by simpa using hi)]
      refine ih2 _ ((hW.set (y := T[p[j].toNat][i].toNat) (by omega)).imp fun x hx' => ?_)
      rw [mem_take1 hi, or_assoc, show x = T[p[j].toNat][i].toNat ↔ (x : Int) = T[p[j].toNat][i] by omega]
theorem l4Behind_eq {k : Nat} {T : List (List Int)} {v : List Bool} (hT : TabP T) (hv : v.length = T.length) (hN : T.length ≤ 1048576) (hr : ∀ r ∈ T, r.length ≤ 1048576) (hk : 1048577 < k) : spec_l4Behind.f k T v = some (behT T v, ()) := by
  rw [spec_l4Behind.s, gd_t (by omega), gd_t (by omega)]
  simp only [toNat_nat]
  refine for_post (m := T.length) (l := fun n u j => spec_l4Behind.l3 k T v n u j) (fun j u => MarkI T.length (fun x => ∃ m, m < j ∧ v.getD m false = true ∧ (x : Int) ∈ T.getD m []) u) (fun x => x = some (behT T v, ())) (fun n u hI => ?_) (fun n j u hj hI ih => ?_) (by omega) (MarkI.nil _ fun x hx ⟨n, hn, _⟩ => by omega)
  · rw [spec_l4Behind.s3, if_neg (by simp), hI.uniq (behT_mark T v)]
  · have hrow : T.getD j [] = T[j] := getD_get hj
    have hrl := hr _ (List.getElem_mem hj)
    simp only [spec_l4Behind.s3]
    rw [if_pos (by simpa using hj)]
    refine for_post (m := T[j].length) (l := fun q w i => spec_l4Behind.l6 k n T v (j : Int) q w i) (fun i w => MarkI T.length (fun x => (∃ m, m < j ∧ v.getD m false = true ∧ (x : Int) ∈ T.getD m []) ∨ (v.getD j false = true ∧ (x : Int) ∈ T[j].take i)) w) (fun x => x = some (behT T v, ())) (fun q w hW => ?_) (fun q i w hi hW ih2 => ?_) (by omega) (hI.imp fun x hx => by simp)
    · simp (disch := omega) only [spec_l4Behind.s6, gd_t, toNat_nat, hrow, w64_id]
      rw [if_neg (by simp)]
      refine ih _ (hW.imp fun x hx => ?_)
      rw [List.take_length]
      constructor
      · rintro (⟨m, hm, h⟩ | h)
        · exact ⟨m, by omega, h⟩
        · exact ⟨j, by omega, by rw [hrow]; exact h⟩
      · rintro ⟨m, hm, h⟩
        rcases Nat.lt_or_ge m j with h' | h'
        · exact .inl ⟨m, h', h⟩
        · have : m = j := by omega
          subst this
          right; rw [hrow] at h; exact h
    · have hx := hT.row hj hi
      have hwl := hW.len
      simp (disch := omega) only [spec_l4Behind.s6, gd_t, toNat_nat, hrow, getD_get hi, w64_id]
      rw [if_pos (by simpa using hi)]
      cases hb : v.getD j false with
      | false =>
        rw [if_neg (by simp)]
        refine ih2 _ (hW.imp fun x hx' => ?_)
        simp [hb, -List.getD_eq_getElem?_getD]
      | true =>
        rw [if_pos rfl]
        refine ih2 _ ((hW.set (y := T[j][i].toNat) (by omega)).imp fun x hx' => ?_)
        rw [hb, mem_take1 hi, show x = T[j][i].toNat ↔ (x : Int) = T[j][i] by omega]
        constructor
        · rintro ((h | ⟨_, h⟩) | h)
          · exact .inl h
          · exact .inr ⟨rfl, .inl h⟩
          · exact .inr ⟨rfl, .inr h⟩
        · rintro (h | ⟨_, h | h⟩)
          · exact .inl (.inl h)
          · exact .inl (.inr ⟨rfl, h⟩)
          · exact .inr h
end Go.Ev

namespace Go.Ev
theorem SetBoth_eq {k : Nat} {a b : List Int} (ha : Asc a) (hb : Asc b) (ha' : ∀ x ∈ a, 0 ≤ x ∧ x < 400) (hb' : ∀ x ∈ b, 0 ≤ x ∧ x < 400) (hal : a.length ≤ 1048576) (hbl : b.length ≤ 1048576) (hk : 1048577 < k) :
    ∃ r, spec_SetBoth.f k a b = some (r, ()) ∧ Asc r ∧ ∀ x, x ∈ r ↔ x ∈ a ∧ x ∈ b := by
  rw [spec_SetBoth.s, spec_l4Mix.s, l4Set_eq ha ha' hal (by omega), l4Set_eq hb hb' hbl (by omega)]
  simp only [Option.bind_some]
  rw [if_neg (by simp), if_neg (by simp)]
  have m1 := l4Marks_eq (k := k) (p := a) (n := 400) ha' (by omega) hal hk
  have m2 := l4Marks_eq (k := k) (p := b) (n := 400) hb' (by omega) hbl hk
  rw [show ((400 : Nat) : Int) = 400 from rfl] at m1 m2
  rw [m1, m2]
  simp only [Option.bind_some]
  have l1 := marksOf_length a 400
  have l2 := marksOf_length b 400
  have key : spec_l4Mix.l7 k 0 k [] (marksOf a 400) (marksOf b 400) 0 = some (((List.range 400).filter fun i => (marksOf a 400).getD i false && (marksOf b 400).getD i false).map (fun (i : Nat) => (i : Int)), ()) := by
    refine for_post (m := 400) (l := fun n l j => spec_l4Mix.l7 k 0 n l (marksOf a 400) (marksOf b 400) j) (fun j l => l = ((List.range j).filter fun i => (marksOf a 400).getD i false && (marksOf b 400).getD i false).map (fun (i : Nat) => (i : Int)) ∧ l.length ≤ j) (fun x => x = _) (fun n l hI => ?_) (fun n j l hj hI ih => ?_) (by omega) (by simp)
    · rw [spec_l4Mix.s7, if_neg (by simp), hI.1]
    · have e1 : ((0 : Int) == 1) = false := by simp
      have e2 : ((0 : Int) == 2) = false := by simp
      rw [spec_l4Mix.s7, if_pos (by simp; omega), if_pos (c := ((0 : Int) == 0) = true) (by simp)]
      simp (disch := omega) only [gd_t, toNat_nat, w64_id, e1, e2, Bool.false_eq_true, if_false]
      cases h1 : (marksOf a 400).getD j false with
      | false =>
        simp only [Bool.false_eq_true, if_false]
        exact ih _ ⟨by rw [hI.1, List.range_succ, List.filter_append]; simp [h1, -List.getD_eq_getElem?_getD], by omega⟩
      | true =>
        cases h2 : (marksOf b 400).getD j false with
        | false =>
          simp only [Bool.false_eq_true, if_false, if_true]
          exact ih _ ⟨by rw [hI.1, List.range_succ, List.filter_append]; simp [h1, h2, -List.getD_eq_getElem?_getD], by omega⟩
        | true =>
          simp only [if_true]
          rw [gd_t (by have := hI.2; simp; omega)]
          exact ih _ ⟨by rw [hI.1, List.range_succ, List.filter_append]; simp [h1, h2, -List.getD_eq_getElem?_getD], by have := hI.2; simp; omega⟩
  rw [key]
  refine ⟨_, rfl, ?_, fun x => ?_⟩
  · unfold Asc
    rw [List.pairwise_map]
    exact (List.Pairwise.filter _ List.pairwise_lt_range).imp fun h => by omega
  · simp only [List.mem_map, List.mem_filter, List.mem_range, Bool.and_eq_true]
    constructor
    · rintro ⟨i, ⟨hi, h1, h2⟩, rfl⟩
      exact ⟨(marksOf_getD hi).1 h1, (marksOf_getD hi).1 h2⟩
    · rintro ⟨h1, h2⟩
      have hx := ha' x h1
      have e : ((x.toNat : Nat) : Int) = x := by omega
      exact ⟨x.toNat, ⟨by omega, (marksOf_getD (by omega)).2 (by rw [e]; exact h1), (marksOf_getD (by omega)).2 (by rw [e]; exact h2)⟩, e⟩
def blockT (b : List Int) (w : Int) : List Int := ((List.range b.length).filter fun i => b.getD i 0 == w).map fun (i : Nat) => (i : Int)
theorem blockT_asc (b : List Int) (w : Int) : Asc (blockT b w) := by
  unfold Asc blockT
  rw [List.pairwise_map]
  exact (List.Pairwise.filter _ List.pairwise_lt_range).imp fun h => by omega
theorem mem_blockT {b : List Int} {w x : Int} : x ∈ blockT b w ↔ 0 ≤ x ∧ x < (b.length : Int) ∧ b.getD x.toNat 0 = w := by
  simp only [blockT, List.mem_map, List.mem_filter, List.mem_range, beq_iff_eq]
  constructor
  · rintro ⟨i, ⟨h1, h2⟩, rfl⟩
    exact ⟨by omega, by omega, by rw [toNat_nat]; exact h2⟩
  · rintro ⟨h1, h2, h3⟩
    exact ⟨x.toNat, ⟨by omega, h3⟩, by omega⟩
theorem blockT_length (b : List Int) (w : Int) : (blockT b w).length ≤ b.length := by
  have := List.length_filter_le (fun i => b.getD i 0 == w) (List.range b.length)
  simpa [blockT] using this
theorem l29Block_eq {k : Nat} (b : List Int) (w : Int) (hb : b.length ≤ 1048576) (hk : 1048576 < k) : spec_l29Block.f k b w = some (blockT b w, ()) := by
  rw [spec_l29Block.s]
  refine for_post (m := b.length) (l := fun n l j => spec_l29Block.l3 k b w n l j) (fun j l => l = ((List.range j).filter fun i => b.getD i 0 == w).map (fun (i : Nat) => (i : Int)) ∧ l.length ≤ j) (fun x => x = some (blockT b w, ())) (fun n l hI => ?_) (fun n j l hj hI ih => ?_) (by omega) (by simp)
  · rw [spec_l29Block.s3, if_neg (by simp), hI.1]; rfl
  · simp (disch := omega) only [spec_l29Block.s3, gd_t, toNat_nat, w64_id]
    rw [if_pos (by simpa using hj)]
    by_cases hb : (b.getD j 0 == w) = true
    · rw [if_pos hb, gd_t (by have := hI.2; simp; omega)]
      exact ih _ ⟨by rw [hI.1, List.range_succ, List.filter_append]; simp [hb, -List.getD_eq_getElem?_getD], by have := hI.2; simp; omega⟩
    · rw [if_neg hb]
      exact ih _ ⟨by rw [hI.1, List.range_succ, List.filter_append]; simp [hb, -List.getD_eq_getElem?_getD], by omega⟩
def inB (b : List Int) (w : Int) (now : List Int) : List Int := now.filter fun n => b.getD n.toNat 0 == w
theorem inB_asc {b : List Int} {w : Int} {now : List Int} (h : Asc now) : Asc (inB b w now) := List.Pairwise.filter _ h
theorem mem_inB {b : List Int} {w : Int} {now : List Int} {x : Int} : x ∈ inB b w now ↔ x ∈ now ∧ b.getD x.toNat 0 = w := by simp [inB, -List.getD_eq_getElem?_getD]
noncomputable def goT (T : List (List Int)) (st : List Int) : List Int := listT (behT T (marksOf st T.length))
noncomputable def folT (T : List (List Int)) (b : List Int) : List Int → List Int → List (List Int)
  | [], _ => []
  | w :: ws, now => if (inB b w now).length = 0 then [] else inB b w now :: folT T b ws (goT T (inB b w now))
structure SetN (n : Nat) (p : List Int) : Prop where
  asc : Asc p
  bd : ∀ x ∈ p, 0 ≤ x ∧ x < (n : Int)
theorem asc_len : ∀ {p : List Int} {a n : Nat}, Asc p → (∀ x ∈ p, (a : Int) ≤ x ∧ x < (n : Int)) → p.length ≤ n - a
  | [], a, n, _, _ => by simp
  | x :: l, a, n, h, hb => by
    obtain ⟨h1, h2⟩ := List.pairwise_cons.1 h
    have hx := hb x (by simp)
    have := asc_len (p := l) (a := x.toNat + 1) (n := n) h2 fun y hy => by
      have := h1 y hy
      have := hb y (by simp [hy])
      omega
    simp only [List.length_cons]; omega
theorem SetN.len {n : Nat} {p : List Int} (h : SetN n p) : p.length ≤ n := by
  have := asc_len (a := 0) (n := n) h.asc fun x hx => by have := h.bd x hx; omega
  omega
theorem goT_set {T : List (List Int)} (st : List Int) : SetN T.length (goT T st) := ⟨listT_asc _, listT_bd (by rw [behT_length]; omega)⟩
theorem inB_set {n : Nat} {b : List Int} {w : Int} {now : List Int} (h : SetN n now) : SetN n (inB b w now) := ⟨inB_asc h.asc, fun x hx => h.bd x (mem_inB.1 hx).1⟩
theorem one_set {n x : Nat} (h : x < n) : SetN n [(x : Int)] := ⟨by simp [Asc], fun y hy => by rw [mem_one] at hy; omega⟩
theorem folT_sets {T : List (List Int)} {b : List Int} : ∀ (ws now : List Int), SetN T.length now → (folT T b ws now).length ≤ ws.length ∧ ∀ r ∈ folT T b ws now, SetN T.length r ∧ r.length ≠ 0
  | [], now, h => ⟨by simp [folT], fun r hr => by simp [folT] at hr⟩
  | w :: ws, now, h => by
    unfold folT
    split
    · exact ⟨by simp, fun r hr => by simp at hr⟩
    · rename_i hne
      obtain ⟨h1, h2⟩ := folT_sets ws (goT T (inB b w now)) (goT_set _)
      refine ⟨by simp; omega, fun r hr => ?_⟩
      rcases List.mem_cons.1 hr with e | hr
      · rw [e]; exact ⟨inB_set h, hne⟩
      · exact h2 r hr
theorem l29Follow_eq {k : Nat} {s : SY} {b : List Int} (E : Env k s) (hb : BlkP (prodW s.1) b) (way : List Int) (hw : way.length ≤ 500) (hk : 1048577 < k) : spec_l29Follow.f k s b way = some (folT (stepsT s) b way [(n0 s : Int)], ()) := by
  have hS := E.S
  have hsz := hS.sz
  have hbl := hb.len
  have htl := stepsT_length s
  have hT : TabP (stepsT s) := fun r hr x hx => by
    obtain ⟨n, _, rfl⟩ := List.mem_map.1 hr
    rw [htl]; exact rowT_mem hx hS
  have hrl : ∀ r ∈ stepsT s, r.length ≤ 1048576 := fun r hr => by
    obtain ⟨n, _, rfl⟩ := List.mem_map.1 hr
    have := rowT_len s n; have := hS.r8; omega
  rw [spec_l29Follow.s, l4Steps_eq hS E.hv E.hz hk]
  simp only [Option.bind_some]
  rw [FirstState_eq hS E.hv (by omega)]
  simp only [Option.bind_some]
  rw [l4Number_eq hS (firstT_StP hS) (by omega)]
  simp only [Option.bind_some]
  rw [show noOf s.1 (firstT s) = n0 s from rfl]
  refine for_post (m := way.length) (l := fun n (u : List Int × List (List Int)) j => spec_l29Follow.l5 k b way n (stepsT s) u.1 u.2 j) (fun j u => SetN (prodW s.1) u.1 ∧ u.2.length ≤ j ∧ u.2 ++ folT (stepsT s) b (way.drop j) u.1 = folT (stepsT s) b way [(n0 s : Int)]) (fun x => x = some (folT (stepsT s) b way [(n0 s : Int)], ())) (fun n u hI => ?_) (fun n j u hj hI ih => ?_) (s := ([(n0 s : Int)], [])) (by omega) ⟨one_set (n0_lt hS), by simp, by simp⟩
  · obtain ⟨_, _, h⟩ := hI
    rw [List.drop_length, folT, List.append_nil] at h
    rw [spec_l29Follow.s5, if_neg (by simp), h]
  · obtain ⟨hset, hlen, hR⟩ := hI
    have hnl := hset.len
    obtain ⟨r, r1, r2, r3⟩ := SetBoth_eq (k := k) hset.asc (blockT_asc b way[j]) (fun x hx => by have := hset.bd x hx; omega) (fun x hx => by have := mem_blockT.1 hx; omega) (by omega) (by have := blockT_length b way[j]; omega) hk
    have hr : r = inB b way[j] u.1 := asc_ext r2 (inB_asc hset.asc) fun x => by
      rw [r3, mem_blockT, mem_inB]
      constructor
      · rintro ⟨h1, _, _, h2⟩; exact ⟨h1, h2⟩
      · rintro ⟨h1, h2⟩; have := hset.bd x h1; exact ⟨h1, by omega, by omega, h2⟩
    rw [List.drop_eq_getElem_cons hj, folT] at hR
    simp (disch := omega) only [spec_l29Follow.s5, gd_t, toNat_nat, getD_get hj, w64_id, l29Block_eq b way[j] (show b.length ≤ 1048576 by omega) (show 1048576 < k by omega), Option.bind_some, r1]
    rw [if_pos (by simpa using hj), hr]
    by_cases h0 : (inB b way[j] u.1).length = 0
    · rw [if_pos (by simp [h0])]
      rw [if_pos h0, List.append_nil] at hR
      rw [hR]
    · rw [if_neg (by simpa using h0)]
      rw [if_neg h0] at hR
      have hin := inB_set (b := b) (w := way[j]) hset
      have hil := hin.len
      rw [gd_t (by simp; omega), htl, l4Marks_eq hin.bd (by omega) (by omega) hk]
      simp only [Option.bind_some]
      rw [l4Behind_eq hT (by rw [marksOf_length, htl]) (by omega) hrl hk]
      simp only [Option.bind_some]
      rw [l4List_eq _ (by rw [behT_length]; omega) (by omega)]
      simp only [Option.bind_some]
      rw [show listT (behT (stepsT s) (marksOf (inB b way[j] u.1) (prodW s.1))) = goT (stepsT s) (inB b way[j] u.1) by unfold goT; rw [htl]]
      exact ih (goT (stepsT s) (inB b way[j] u.1), u.2 ++ [inB b way[j] u.1]) ⟨by rw [← htl]; exact goT_set _, by simp; omega, by simp only [List.append_assoc, List.singleton_append]; exact hR⟩
theorem followBlocks_eq {k : Nat} {s : SY} {b : List Int} (E : Env k s) (hb : BlkP (prodW s.1) b) (way : List Int) (hw : way.length ≤ 500) (hk : 1048577 < k) : impl_followBlocks.f k s b way = some (folT (stepsT s) b way [(n0 s : Int)], ()) := by
  have hS := E.S
  have hsz := hS.sz
  have hbl := hb.len
  have htl := stepsT_length s
  have hT : TabP (stepsT s) := fun r hr x hx => by
    obtain ⟨n, _, rfl⟩ := List.mem_map.1 hr
    rw [htl]; exact rowT_mem hx hS
  have hrl : ∀ r ∈ stepsT s, r.length ≤ 1048576 := fun r hr => by
    obtain ⟨n, _, rfl⟩ := List.mem_map.1 hr
    have := rowT_len s n; have := hS.r8; omega
  obtain ⟨k', hk'⟩ : ∃ k', k = k' + 1 := ⟨k - 1, by omega⟩
  rw [impl_followBlocks.s, nexts_eq hS E.iz hk]
  simp only [Option.bind_some]
  rw [first_eq hS (by omega)]
  simp only [Option.bind_some]
  rw [number_eq hS (firstT_StP hS) (by omega)]
  simp only [Option.bind_some]
  rw [show noOf s.1 (firstT s) = n0 s from rfl]
  refine for_post (m := way.length) (l := fun n (u : List Int × List (List Int)) j => impl_followBlocks.l5 k b way n (stepsT s) u.2 u.1 j) (fun j u => SetN (prodW s.1) u.1 ∧ u.2.length ≤ j ∧ u.2 ++ folT (stepsT s) b (way.drop j) (if 0 < j then goT (stepsT s) u.1 else u.1) = folT (stepsT s) b way [(n0 s : Int)]) (fun x => x = some (folT (stepsT s) b way [(n0 s : Int)], ())) (fun n u hI => ?_) (fun n j u hj hI ih => ?_) (s := ([(n0 s : Int)], [])) (by omega) ⟨one_set (n0_lt hS), by simp, by simp⟩
  · obtain ⟨_, hl, h⟩ := hI
    rw [List.drop_length, folT, List.append_nil] at h
    rw [impl_followBlocks.s5, if_neg (by simp), clone_mv_eq _ (by omega), h]
    rfl
  · obtain ⟨hset, hlen, hR⟩ := hI
    have hnl := hset.len
    have join : ∀ now, SetN (prodW s.1) now → u.2 ++ folT (stepsT s) b (way.drop j) now = folT (stepsT s) b way [(n0 s : Int)] → impl_followBlocks.lj9 k n b way (j : Int) (stepsT s) u.2 k now = some (folT (stepsT s) b way [(n0 s : Int)], ()) := by
      intro now hnow hR
      have hnowl := hnow.len
      have hf : ∀ x ∈ now, (impl_followBlocks_1.f k x b (way.getD ((j : Int)).toNat 0)).bind (fun r => some r.1) = some (b.getD x.toNat 0 != way[j]) := fun x hx => by
        have := hnow.bd x hx
        rw [impl_followBlocks_1.s, gd_t (by omega), gd_t (by omega), toNat_nat, getD_get hj]
        rfl
      have hfil : now.filter (fun x => !(b.getD x.toNat 0 != way[j])) = inB b way[j] now := List.filter_congr fun x _ => by simp [bne, -List.getD_eq_getElem?_getD]
      conv => lhs; arg 8; rw [hk']
      rw [impl_followBlocks.sj9, slices_Clone_int_int.s, gd_t (by unfold LIM; omega)]
      simp only [Option.bind_some]
      rw [DeleteFunc_eq hf (by omega) hk, hfil]
      simp only [Option.bind_some]
      rw [List.drop_eq_getElem_cons hj, folT] at hR
      by_cases h0 : (inB b way[j] now).length = 0
      · rw [if_pos (by simp [h0]), clone_mv_eq _ (by omega)]
        rw [if_pos h0, List.append_nil] at hR
        rw [hR]; rfl
      · rw [if_neg (by simpa using h0)]
        rw [if_neg h0] at hR
        have hin := inB_set (b := b) (w := way[j]) hnow
        have hil := hin.len
        rw [clone_int_eq (by omega)]
        simp only [Option.bind_some]
        rw [gd_t (by simp; omega), w64_id (by omega) (by omega)]
        refine ih (inB b way[j] now, u.2 ++ [inB b way[j] now]) ⟨hin, by simp; omega, ?_⟩
        simp only [List.append_assoc, List.singleton_append]
        rw [if_pos (by omega)]; exact hR
    simp (disch := omega) only [impl_followBlocks.s5, gd_t]
    rw [if_pos (by simpa using hj)]
    by_cases h0 : 0 < j
    · rw [if_pos (by simpa using h0), over_eq hT (by omega) hrl (by rw [htl]; exact hset.bd) (by omega) hk]
      simp only [Option.bind_some]
      rw [if_pos h0] at hR
      exact join _ (by rw [← htl]; exact goT_set _) hR
    · rw [if_neg (by simpa using h0)]
      rw [if_neg h0] at hR
      exact join _ hset hR
end Go.Ev

namespace Go.Ev
def WayAt (b way : List Int) (j : Nat) : Prop := ∃ h : j < way.length, (0 ≤ way[j] ∧ way[j] ≤ (b.length : Int) - 1) ∧ b.getD way[j].toNat 0 = way[j]
def WayP (b way : List Int) : Prop := (1 ≤ way.length ∧ way.length ≤ 500) ∧ ∀ j, j < way.length → WayAt b way j
def badB (b : List Int) (x : Int) : Bool := if 0 ≤ x ∧ x ≤ (b.length : Int) - 1 then b.getD x.toNat 0 != x else true
theorem wayOk_eq {k : Nat} (b way : List Int) (hb : b.length ≤ 1048576) (hw : way.length ≤ 1048576) (hk : 1048576 < k) : ∃ c, impl_wayOk.f k b way = some (c, ()) ∧ (c = true ↔ WayP b way) := by
  rw [impl_wayOk.s, impl_in_eq, Option.bind_some]
  by_cases h1 : (1 : Int) ≤ (way.length : Int) ∧ (way.length : Int) ≤ 500
  · rw [decide_eq_true h1, if_pos rfl]
    have hf : ∀ x ∈ way, (impl_wayOk_1.f k x b).bind (fun r => some r.1) = some (badB b x) := fun x hx => by
      rw [impl_wayOk_1.s, impl_in_eq, Option.bind_some, w64_id (by omega) (by omega)]
      unfold badB
      by_cases h : 0 ≤ x ∧ x ≤ (b.length : Int) - 1
      · rw [decide_eq_true h, if_neg (by simp), gd_t (by omega), gd_t (by omega), if_pos h]; rfl
      · rw [decide_eq_false h, if_pos (by simp), if_neg h]; rfl
    rw [ContainsFunc_eq hf hw hk, Option.bind_some]
    refine ⟨_, rfl, ?_⟩
    rw [Bool.not_eq_true', Bool.eq_false_iff, ne_eq, List.any_eq_true]
    constructor
    · intro hn
      refine ⟨by omega, fun j hj => ⟨hj, ?_⟩⟩
      have hbad : ¬ badB b way[j] = true := fun h => hn ⟨_, List.getElem_mem hj, h⟩
      unfold badB at hbad
      by_cases h : 0 ≤ way[j] ∧ way[j] ≤ (b.length : Int) - 1
      · rw [if_pos h] at hbad
        exact ⟨h, by simpa [-List.getD_eq_getElem?_getD] using hbad⟩
      · rw [if_neg h] at hbad; exact absurd rfl hbad
    · rintro ⟨_, h⟩ ⟨x, hx, hbad⟩
      obtain ⟨j, hj, rfl⟩ := List.mem_iff_getElem.1 hx
      obtain ⟨_, g1, g2⟩ := h j hj
      unfold badB at hbad
      rw [if_pos g1, g2] at hbad
      simp at hbad
  · rw [decide_eq_false h1, if_neg (by simp)]
    refine ⟨false, rfl, fun h => (by cases h), fun h => absurd ?_ h1⟩
    have := h.1
    omega
theorem l29Way_eq {k : Nat} (s : SY) (b way : List Int) (hv : spec_BlocksValid.f k s b = some (true, ())) (hb : b.length ≤ 1048576) (hw : way.length ≤ 1048576) (hk : 1048576 < k) : ∃ c, spec_l29Way.f k s b way = some (c, ()) ∧ (c = true ↔ WayP b way) := by
  rw [spec_l29Way.s, hv, Option.bind_some, if_neg (by simp), spec_in_eq, Option.bind_some]
  by_cases h1 : (1 : Int) ≤ (way.length : Int) ∧ (way.length : Int) ≤ 500
  · rw [decide_eq_true h1, if_neg (by simp)]
    obtain ⟨c, c1, c2⟩ := check_loop (k := k) (l := fun n j => spec_l29Way.l4 k b way n j) (m := way.length) (b0 := true) (r := ()) (WayAt b way) (fun n j hj hI => by
      simp (disch := omega) only [spec_l29Way.s4, gd_t, toNat_nat, getD_get hj, spec_in_eq, Option.bind_some, w64_id]
      rw [if_pos (by simpa using hj)]
      by_cases h : 0 ≤ way[j] ∧ way[j] ≤ (b.length : Int) - 1
      · simp (disch := omega) only [decide_eq_true h, gd_t]
        rw [if_neg (by simp)]
        by_cases e : b.getD way[j].toNat 0 = way[j]
        · rw [if_neg (by simp [e, -List.getD_eq_getElem?_getD])]
          exact .inl ⟨⟨hj, h, e⟩, rfl⟩
        · rw [if_pos (by simpa [-List.getD_eq_getElem?_getD] using e)]
          exact .inr ⟨fun ⟨_, _, h⟩ => e h, rfl⟩
      · rw [decide_eq_false h, if_pos (by simp)]
        exact .inr ⟨fun ⟨_, h', _⟩ => h h', rfl⟩) (fun n hI => by simp [spec_l29Way.s4]) (by omega)
    refine ⟨c, c1, c2.trans ⟨fun h => ⟨by omega, h.2⟩, fun h => ⟨rfl, h.2⟩⟩⟩
  · rw [decide_eq_false h1, if_pos (by simp)]
    refine ⟨false, rfl, fun h => (by cases h), fun h => absurd ?_ h1⟩
    have := h.1
    omega
theorem fol_sm {s : SY} (hS : SysP s) (b way : List Int) (hw : way.length ≤ 500) : SmSS (folT (stepsT s) b way [(n0 s : Int)]) := by
  have hsz := hS.sz
  have htl := stepsT_length s
  obtain ⟨h1, h2⟩ := folT_sets (T := stepsT s) (b := b) way [(n0 s : Int)] (one_set (by rw [htl]; exact n0_lt hS))
  exact ⟨by omega, fun r hr => by have := (h2 r hr).1.len; omega⟩
end Go.Ev

namespace Go.Ev
def RdOk (s : List Int × Int) (c : Nat) : Prop := (∀ x ∈ s.1, 0 ≤ x ∧ x ≤ 255) ∧ s.1.length ≤ 2000 ∧ 0 ≤ s.2 ∧ s.2 ≤ (c : Int)
theorem RdOk.next {s : List Int × Int} {c : Nat} (h : RdOk s c) : RdOk (s.1, s.2 + 1) (c + 1) := by
  obtain ⟨h1, h2, h3, h4⟩ := h
  refine ⟨h1, h2, ?_, ?_⟩
  · show 0 ≤ s.2 + 1
    omega
  · show s.2 + 1 ≤ ((c + 1 : Nat) : Int)
    omega
theorem RdOk.weak {s : List Int × Int} {c c' : Nat} (h : RdOk s c) (hc : c ≤ c') : RdOk s c' := by
  obtain ⟨h1, h2, h3, h4⟩ := h
  exact ⟨h1, h2, h3, by omega⟩
theorem xor_ok {x y : Int} (hx : 0 ≤ x) (hx' : x < 4611686018427387904) (hy : 0 ≤ y) (hy' : y < 4611686018427387904) :
    0 ≤ w64 ((BitVec.ofInt IntKind.i64.bits x ^^^ BitVec.ofInt IntKind.i64.bits y).toNat : Int) := by
  obtain ⟨x, rfl⟩ := Int.eq_ofNat_of_zero_le hx
  obtain ⟨y, rfl⟩ := Int.eq_ofNat_of_zero_le hy
  have e : ∀ z : Nat, z < 4611686018427387904 → (BitVec.ofInt IntKind.i64.bits (z : Int)).toNat = z := by
    intro z hz
    show (BitVec.ofInt 64 (z : Int)).toNat = z
    rw [BitVec.ofInt_natCast, BitVec.toNat_ofNat]
    exact Nat.mod_eq_of_lt (by omega)
  have hlt : (x ^^^ y) < 2 ^ 62 := Nat.xor_lt_two_pow (by omega) (by omega)
  rw [BitVec.toNat_xor, e x (by omega), e y (by omega), w64_id (by omega) (by omega)]
  omega
theorem getD_byte {b : List Int} (h : ∀ x ∈ b, 0 ≤ x ∧ x ≤ 255) (i : Nat) : 0 ≤ b.getD i 0 ∧ b.getD i 0 ≤ 255 := by
  by_cases hi : i < b.length
  · rw [getD_get hi]; exact h _ (List.getElem_mem hi)
  · rw [List.getD_eq_getElem?_getD, List.getElem?_eq_none (by omega)]
    simp
theorem pick_ok {k : Nat} {s : List Int × Int} {c : Nat} (h : RdOk s c) (hc : c < 1000000000) (n : Int) :
    ∃ v, spec_l40Rd_pick.f k s n = some (v, (s.1, s.2 + 1)) ∧ 0 ≤ v ∧ (1 ≤ n → v < n) ∧ (n < 1 → v = 0) := by
  obtain ⟨b, p⟩ := s
  obtain ⟨hb, hl, hp, hpc⟩ := h
  dsimp only at hb hl hp hpc ⊢
  obtain ⟨p, rfl⟩ := Int.eq_ofNat_of_zero_le hp
  have e1 : w64 ((p : Int) + 1) = (p : Int) + 1 := w64_id (by omega) (by omega)
  have e2 : w64 ((p : Int) + 1 - 1) = (p : Int) := by rw [w64_id (by omega) (by omega)]; omega
  have e3 : w64 ((p : Int) * 7) = (p : Int) * 7 := w64_id (by omega) (by omega)
  have e4 : w64 ((p : Int) * 7 + 3) = (p : Int) * 7 + 3 := w64_id (by omega) (by omega)
  have e5 : w64 ((p : Int) * 29) = (p : Int) * 29 := w64_id (by omega) (by omega)
  rw [spec_l40Rd_pick.s]
  simp only [e1, e2, e3, e4, e5]
  by_cases h1 : n < 1
  · rw [if_pos (by simpa using h1)]
    exact ⟨0, rfl, Int.le_refl _, fun h => by omega, fun _ => rfl⟩
  rw [if_neg (by simpa using h1)]
  have fin : ∀ x : Int, 0 ≤ x → 0 ≤ x.tmod n ∧ (1 ≤ n → x.tmod n < n) ∧ (n < 1 → x.tmod n = 0) := by
    intro x hx
    exact ⟨Int.tmod_nonneg _ hx, fun h => Int.tmod_lt_of_pos _ (by omega), fun h => by omega⟩
  by_cases h2 : b.length = 0
  · rw [if_pos (by simp [h2])]
    exact ⟨0, rfl, Int.le_refl _, fun h => by omega, fun _ => rfl⟩
  rw [if_neg (by simp; intro h; exact h2 (by rw [h]; rfl))]
  by_cases h3 : (p : Int) < (b.length : Int)
  · rw [if_pos (by simpa using h3), gd_t (by omega), gd_t h3, gd_t (by omega)]
    have hx := getD_byte hb ((p : Int)).toNat
    rw [w64_id (by omega) (by omega)]
    exact ⟨_, rfl, fin _ hx.1⟩
  · rw [if_neg (by simpa using h3)]
    have hl0 : (0 : Int) < (b.length : Int) := by omega
    have t1 : 0 ≤ (p : Int).tmod (b.length : Int) := Int.tmod_nonneg _ (by omega)
    have t2 : (p : Int).tmod (b.length : Int) < (b.length : Int) := Int.tmod_lt_of_pos _ hl0
    have t3 : 0 ≤ ((p : Int) * 7 + 3).tmod (b.length : Int) := Int.tmod_nonneg _ (by omega)
    have t4 : ((p : Int) * 7 + 3).tmod (b.length : Int) < (b.length : Int) := Int.tmod_lt_of_pos _ hl0
    rw [gd_t (by omega), gd_t t1, gd_t t2, gd_t (by omega), gd_t t3, gd_t t4, gd_t (by omega), gd_t (by omega), gd_t (by omega)]
    have hx := getD_byte hb ((p : Int).tmod (b.length : Int)).toNat
    have hy := getD_byte hb (((p : Int) * 7 + 3).tmod (b.length : Int)).toNat
    generalize b.getD ((p : Int).tmod (b.length : Int)).toNat 0 = x at hx ⊢
    generalize b.getD (((p : Int) * 7 + 3).tmod (b.length : Int)).toNat 0 = y at hy ⊢
    have hq : 0 ≤ (p : Int).tdiv (b.length : Int) ∧ (p : Int).tdiv (b.length : Int) ≤ (p : Int) :=
      ⟨Int.tdiv_nonneg (by omega) (by omega), Int.tdiv_le_self _ (by omega)⟩
    generalize (p : Int).tdiv (b.length : Int) = q at hq ⊢
    have a1 : w64 x = x := w64_id (by omega) (by omega)
    have a2 : w64 (x * 131) = x * 131 := w64_id (by omega) (by omega)
    have a3 : w64 y = y := w64_id (by omega) (by omega)
    have a4 : w64 (y * 1117) = y * 1117 := w64_id (by omega) (by omega)
    have a5 : w64 (x * 131 + y * 1117) = x * 131 + y * 1117 := w64_id (by omega) (by omega)
    have a6 : w64 (x * 131 + y * 1117 + (p : Int) * 29) = x * 131 + y * 1117 + (p : Int) * 29 := w64_id (by omega) (by omega)
    have a7 : w64 q = q := w64_id (by omega) (by omega)
    have a8 : w64 (q * 53) = q * 53 := w64_id (by omega) (by omega)
    have a9 : w64 (x * 131 + y * 1117 + (p : Int) * 29 + q * 53) = x * 131 + y * 1117 + (p : Int) * 29 + q * 53 := w64_id (by omega) (by omega)
    simp only [a1, a2, a3, a4, a5, a6, a7, a8, a9]
    have hS : 0 ≤ x * 131 + y * 1117 + (p : Int) * 29 + q * 53 ∧ x * 131 + y * 1117 + (p : Int) * 29 + q * 53 < 4611686018427387904 := by omega
    generalize x * 131 + y * 1117 + (p : Int) * 29 + q * 53 = S at hS ⊢
    have hT : 0 ≤ S.tdiv 64 ∧ S.tdiv 64 ≤ S := ⟨Int.tdiv_nonneg (by omega) (by omega), Int.tdiv_le_self _ (by omega)⟩
    have a10 : w64 (S.tdiv 64) = S.tdiv 64 := w64_id (by omega) (by omega)
    simp only [a10]
    exact ⟨_, rfl, fin _ (xor_ok (by omega) (by omega) (by omega) (by omega))⟩
theorem num_ok {k : Nat} {s : List Int × Int} {c : Nat} (h : RdOk s c) (hc : c < 1000000000) {l : List Int} (hl : l ≠ []) :
    ∃ v, spec_l40Rd_num.f k s l = some (v, (s.1, s.2 + 1)) ∧ v ∈ l := by
  obtain ⟨v, e, h0, h1, _⟩ := pick_ok (k := k) h hc (l.length : Int)
  have hpos : 0 < l.length := List.length_pos_iff.2 hl
  have hv := h1 (by omega)
  rw [spec_l40Rd_num.s]
  rw [e]
  simp only [Option.bind_some]
  rw [gd_t h0, gd_t hv]
  have hn : v.toNat < l.length := by omega
  rw [getD_get hn]
  exact ⟨_, rfl, List.getElem_mem hn⟩
theorem l40Open_ok {k : Nat} {b : List Int} (hb : ∀ x ∈ b, 0 ≤ x ∧ x ≤ 255) : ∃ s, spec_l40Open.f k b = some (s, ()) ∧ RdOk s 0 := by
  rw [spec_l40Open.s]
  by_cases h : (b.length : Int) > 2000
  · rw [if_pos (by simpa using h), gd_t (by omega), gd_t (by omega), gd_t (by omega)]
    refine ⟨_, rfl, fun x hx => hb x (List.mem_of_mem_take (List.mem_of_mem_drop hx)), ?_, Int.le_refl _, Int.le_refl _⟩
    show (List.drop _ (List.take _ b)).length ≤ 2000
    simp
    omega
  · rw [if_neg (by simpa using h)]
    exact ⟨_, rfl, hb, by show b.length ≤ 2000; omega, Int.le_refl _, Int.le_refl _⟩
theorem l1Number_ok {k : Nat} {s : List Int × Int} {c : Nat} (h : RdOk s c) (hc : c < 1000000) : ∃ v s', spec_l1Number.f k s = some (v, s') ∧ RdOk s' (c + 6) := by
  rw [spec_l1Number.s]
  obtain ⟨v1, e1, _⟩ := pick_ok (k := k) h (by omega) 4
  rw [e1]; simp only [Option.bind_some]
  have h := h.next
  obtain ⟨v2, e2, _⟩ := pick_ok (k := k) h (by omega) 4
  rw [e2]; simp only [Option.bind_some]
  have h := h.next
  obtain ⟨v3, e3, _⟩ := pick_ok (k := k) h (by omega) 7
  rw [e3]; simp only [Option.bind_some]
  have h := h.next
  obtain ⟨v4, e4, _⟩ := pick_ok (k := k) h (by omega) 200
  rw [e4]; simp only [Option.bind_some]
  have h := h.next
  obtain ⟨v5, e5, g0, g1, _⟩ := pick_ok (k := k) h (by omega) 4
  rw [e5]; simp only [Option.bind_some]
  have h := h.next
  rw [gd_t g0, gd_t (by simp; have := g1 (by omega); omega)]
  obtain ⟨v6, e6, _⟩ := num_ok (k := k) h (by omega) (l := [v1, v2, w64 (v3 - 3), 1, 0, w64 (v4 - 100), [9999, -9999, 5000, 100].getD v5.toNat 0]) (by simp)
  rw [e6]; simp only [Option.bind_some]
  exact ⟨_, _, rfl, h.next⟩
end Go.Ev

namespace Go.Ev
theorem l2Cond_ok {k : Nat} {s : List Int × Int} {c : Nat} (h : RdOk s c) (hc : c < 1000000) (va : VA) (i : Int) : ∃ t s', spec_l2Cond.f k s va i = some (t, s') ∧ RdOk s' (c + 3) ∧ t.length ≤ 4 := by
  rw [spec_l2Cond.s]
  obtain ⟨v1, e1, _⟩ := pick_ok (k := k) h (by omega) (w64 ((w64 (va.2.1 - va.1)) + 1))
  rw [e1]; simp only [Option.bind_some]
  have h := h.next
  obtain ⟨v2, e2, _⟩ := num_ok (k := k) h (by omega) (l := [6, 5, 5, 6]) (by simp)
  rw [e2]; simp only [Option.bind_some]
  have h := h.next
  rw [spec_l2VarOf.s, spec_l2Const.s]
  simp only [Option.bind_some]
  obtain ⟨v3, e3, _⟩ := pick_ok (k := k) h (by omega) 3
  rw [e3]; simp only [Option.bind_some]
  have h := h.next
  by_cases h0 : v3 = 0
  · rw [if_pos (by simp [h0]), gd_t (by simp)]
    exact ⟨_, _, rfl, h, by simp⟩
  · rw [if_neg (by simp [h0])]
    exact ⟨_, _, rfl, h, by simp⟩
theorem Joined_l9 {k : Nat} (hk : 1000 < k) {o : Int} {p q : List TM} {vars : Int} (hp : p.length ≤ 20) (hq : q.length ≤ 20) {a : List TM} (ha : a.length = p.length) : ∃ t, spec_Joined.l9 k o p q vars k a 0 = some (t, ()) ∧ t.length ≤ 41 := by
  obtain ⟨k', rfl⟩ : ∃ m, k = m + 1 := ⟨k - 1, by omega⟩
  have fin : ∀ a : List TM, a.length ≤ 40 → ∃ t, spec_Joined.lj12 (k' + 1) o p vars a (k' + 1) = some (t, ()) ∧ t.length ≤ 41 := by
    intro a ha
    rw [spec_Joined.sj12, gd_t (by simp; omega)]
    by_cases ho : o < 2
    · rw [if_pos (by simpa using ho)]; exact ⟨_, rfl, by simp⟩
    · rw [if_neg (by simpa using ho), spec_TermsValid.s]
      obtain ⟨r, e1, e2, hr, hR⟩ := kinds_eq (k := k' + 1) hk (a ++ [(o, (0, (w64 (((p.length : Int)) - 1), w64 (((a.length : Int)) - 1))))]) vars (by simp; omega)
      rw [e1]; simp only [Option.bind_some]
      split
      · exact ⟨_, rfl, by simp⟩
      · exact ⟨_, rfl, by simp; omega⟩
  refine for_post (m := q.length) (l := fun n a j => spec_Joined.l9 (k' + 1) o p q vars n a j) (fun j a => a.length ≤ p.length + j) (fun x => ∃ t, x = some (t, ()) ∧ t.length ≤ 41) (fun n a hI => ?_) (fun n j a hj hI ih => ?_) (by omega) (by omega)
  · rw [spec_Joined.s9, if_neg (by simp)]
    exact fin a (by omega)
  · have hw : w64 ((j : Int) + 1) = (j : Int) + 1 := w64_id (by omega) (by omega)
    rw [spec_Joined.s9, if_pos (by simpa using hj), spec_l1One.s]
    simp only [Option.bind_some]
    split
    · rw [gd_t (by omega), gd_t (by omega), spec_l1Moved.s]
      split
      all_goals
        simp only [Option.bind_some]
        rw [gd_t (by simp; omega), hw]
        exact ih _ (by simp; omega)
    · exact fin a (by omega)
theorem Joined_ok {k : Nat} (hk : 1000 < k) {o : Int} {p q : List TM} {vars : Int} (hp : p.length ≤ 20) (hq : q.length ≤ 20) : ∃ t, spec_Joined.f k o p q vars = some (t, ()) ∧ t.length ≤ 41 := by
  rw [spec_Joined.s, spec_TermsValid.s, spec_TermsValid.s]
  obtain ⟨r, e1, _, _, _⟩ := kinds_eq hk p vars (by omega)
  obtain ⟨r', e1', _, _, _⟩ := kinds_eq hk q vars (by omega)
  rw [e1, e1']; simp only [Option.bind_some]
  split
  · exact ⟨_, rfl, by simp⟩
  split
  · exact ⟨_, rfl, by simp⟩
  refine for_post (m := p.length) (l := fun n a j => spec_Joined.l5 k o p q vars n a j) (fun j a => a.length = j) (fun x => ∃ t, x = some (t, ()) ∧ t.length ≤ 41) (fun n a hI => ?_) (fun n j a hj hI ih => ?_) (by omega) rfl
  · rw [spec_Joined.s5, if_neg (by simp)]
    exact Joined_l9 hk hp hq hI
  · rw [spec_Joined.s5, if_pos (by simpa using hj), gd_t (by omega), gd_t (by omega), gd_t (by simp; omega), w64_id (by omega) (by omega)]
    exact ih _ (by simp; omega)
theorem l2When_ok {k : Nat} (hk : 1000 < k) {s : List Int × Int} {c : Nat} (h : RdOk s c) (hc : c < 900000) {vs : List VA} (hv : vs.length ≠ 0) : ∃ t s', spec_l2When_w1.f k s vs = some (t, (s', vs)) ∧ RdOk s' (c + 10) ∧ t.length ≤ 41 := by
  rw [spec_l2When_w1.s]
  obtain ⟨v1, e1, g0, g1, _⟩ := pick_ok (k := k) h (by omega) (vs.length : Int)
  rw [e1]; simp only [Option.bind_some]
  have h := h.next
  rw [gd_t g0, gd_t (g1 (by omega))]
  obtain ⟨t, s1, e2, h, ht⟩ := l2Cond_ok (k := k) h (by omega) (vs.getD v1.toNat (0, (0, 0))) v1
  rw [e2]; simp only [Option.bind_some]
  obtain ⟨v3, e3, _⟩ := pick_ok (k := k) h (by omega) 2
  rw [e3]; simp only [Option.bind_some]
  have h := h.next
  by_cases h0 : v3 = 0
  · rw [if_pos (by simp [h0])]
    obtain ⟨v4, e4, g0, g1, _⟩ := pick_ok (k := k) h (by omega) (vs.length : Int)
    rw [e4]; simp only [Option.bind_some]
    have h := h.next
    rw [gd_t g0, gd_t (g1 (by omega))]
    obtain ⟨v5, e5, _⟩ := num_ok (k := k) h (by omega) (l := [8, 9, 8]) (by simp)
    rw [e5]; simp only [Option.bind_some]
    have h := h.next
    obtain ⟨t2, s2, e6, h, ht2⟩ := l2Cond_ok (k := k) h (by omega) (vs.getD v4.toNat (0, (0, 0))) v4
    rw [e6]; simp only [Option.bind_some]
    obtain ⟨t3, e7, ht3⟩ := Joined_ok (k := k) hk (o := v5) (p := t) (q := t2) (vars := (vs.length : Int)) (by omega) (by omega)
    rw [e7]; simp only [Option.bind_some]
    exact ⟨_, _, rfl, h.weak (by omega), ht3⟩
  · rw [if_neg (by simp [h0])]
    exact ⟨_, _, rfl, h.weak (by omega), by omega⟩
theorem l1Pick_ok {k : Nat} {s : List Int × Int} {c : Nat} (h : RdOk s c) (hc : c < 1000000) {p : List Int} (hp : p.length ≤ 100) (hk : 1000 < k) (q : Int) : ∃ v s', spec_l1Pick.f k s p q = some (v, s') ∧ RdOk s' (c + 1) := by
  rw [spec_l1Pick.s]
  obtain ⟨v1, e1, g0, g1, g2⟩ := pick_ok (k := k) h (by omega) (p.length : Int)
  rw [e1]; simp only [Option.bind_some]
  have h := h.next
  refine for_post (m := p.length) (l := fun n (_ : Unit) j => spec_l1Pick.l3 k p q n _ v1 j) (fun j _ => True) (fun x => ∃ v s', x = some (v, s') ∧ RdOk s' (c + 1)) (fun n a hI => ?_) (fun n j a hj hI ih => ?_) (s := ()) (by omega) trivial
  · rw [spec_l1Pick.s3, if_neg (by simp)]
    exact ⟨_, _, rfl, h⟩
  · have hv := g1 (by omega)
    have w1 : w64 (v1 + (j : Int)) = v1 + j := w64_id (by omega) (by omega)
    have t1 : 0 ≤ (v1 + (j : Int)).tmod (p.length : Int) := Int.tmod_nonneg _ (by omega)
    have t2 : (v1 + (j : Int)).tmod (p.length : Int) < (p.length : Int) := Int.tmod_lt_of_pos _ (by omega)
    rw [spec_l1Pick.s3, if_pos (by simpa using hj), w1, gd_t (by omega), gd_t t1, gd_t t2, w64_id (by omega) (by omega)]
    split
    · exact ⟨_, _, rfl, h⟩
    · exact ih () trivial
theorem l1Pickw_ok {k : Nat} {s : List Int × Int} {c : Nat} (h : RdOk s c) (hc : c < 1000000) {p : List Int} (hp : p.length ≤ 100) (hk : 1000 < k) (q : Int) : ∃ v s', spec_l1Pick_w1.f k s p q = some (v, (s', p)) ∧ RdOk s' (c + 1) := by
  rw [spec_l1Pick_w1.s]
  obtain ⟨v1, e1, g0, g1, g2⟩ := pick_ok (k := k) h (by omega) (p.length : Int)
  rw [e1]; simp only [Option.bind_some]
  have h := h.next
  refine for_post (m := p.length) (l := fun n (_ : Unit) j => spec_l1Pick_w1.l3 k p q n _ v1 j) (fun j _ => True) (fun x => ∃ v s', x = some (v, (s', p)) ∧ RdOk s' (c + 1)) (fun n a hI => ?_) (fun n j a hj hI ih => ?_) (s := ()) (by omega) trivial
  · rw [spec_l1Pick_w1.s3, if_neg (by simp)]
    exact ⟨_, _, rfl, h⟩
  · have hv := g1 (by omega)
    have w1 : w64 (v1 + (j : Int)) = v1 + j := w64_id (by omega) (by omega)
    have t1 : 0 ≤ (v1 + (j : Int)).tmod (p.length : Int) := Int.tmod_nonneg _ (by omega)
    have t2 : (v1 + (j : Int)).tmod (p.length : Int) < (p.length : Int) := Int.tmod_lt_of_pos _ (by omega)
    rw [spec_l1Pick_w1.s3, if_pos (by simpa using hj), w1, gd_t (by omega), gd_t t1, gd_t t2, w64_id (by omega) (by omega)]
    split
    · exact ⟨_, _, rfl, h⟩
    · exact ih () trivial
theorem l1Terms_ok {k : Nat} (hk : 100000 < k) {s : List Int × Int} {c : Nat} (h : RdOk s c) (hc : c < 900000) {vars : Int} (hv0 : 0 ≤ vars) (hv1 : vars ≤ 1000) : ∃ t s', spec_l1Terms.f k s vars 1 5 = some (t, s') ∧ RdOk s' (c + 100) ∧ t.length ≤ 10 := by
  obtain ⟨k', rfl⟩ : ∃ m, k = m + 1 := ⟨k - 1, by omega⟩
  rw [spec_l1Terms.s]
  obtain ⟨v1, e1, g0, g1, _⟩ := pick_ok (k := k' + 1) h (by omega) 5
  rw [e1]; simp only [Option.bind_some]
  have h := h.next
  have hv := g1 (by omega)
  obtain ⟨m, rfl⟩ := Int.eq_ofNat_of_zero_le g0
  rw [show w64 (2 + (m : Int)) = ((m + 2 : Nat) : Int) by rw [w64_id (by omega) (by omega)]; omega]
  have fin : ∀ (s : List Int × Int) (t : List TM) (ks : List Int) (c' : Nat), RdOk s c' → c' ≤ c + 80 → t.length ≤ 8 → ks.length = t.length → t.length ≠ 0 → ∃ t' s', spec_l1Terms.lj26 (k' + 1) 1 s (k' + 1) t ks = some (t', s') ∧ RdOk s' (c + 100) ∧ t'.length ≤ 10 := by
    intro s t ks c' h hc' ht hks ht0
    rw [spec_l1Terms.sj26, if_neg (by simp), spec_l1Terms.sj28, if_neg (by simp), if_pos (by simp), w64_id (by omega) (by omega), gd_t (by omega), gd_t (by omega)]
    split
    · obtain ⟨v2, s2, e2, h⟩ := l1Pick_ok (k := k' + 1) h (by omega) (p := ks) (by omega) (by omega) 1
      rw [e2]; simp only [Option.bind_some]
      obtain ⟨v3, e3, _⟩ := num_ok (k := k' + 1) h (by omega) (l := [2, 3]) (by simp)
      rw [e3]; simp only [Option.bind_some]
      have h := h.next
      obtain ⟨v4, s4, e4, h⟩ := l1Pick_ok (k := k' + 1) h (by omega) (p := ks) (by omega) (by omega) 1
      rw [e4]; simp only [Option.bind_some]
      rw [gd_t (by simp; omega)]
      exact ⟨_, _, rfl, h.weak (by omega), by simp; omega⟩
    · exact ⟨_, _, rfl, h.weak (by omega), by omega⟩
  have main : ∀ (d n : Nat) (s : List Int × Int) (t : List TM) (ks : List Int) (c' : Nat), d < n → RdOk s c' → c' + 10 * d ≤ c + 70 → t.length + d ≤ 6 → ks.length = t.length → ∃ t' s', spec_l1Terms.l4 (k' + 1) vars 1 n s t ks (d : Int) = some (t', s') ∧ RdOk s' (c + 100) ∧ t'.length ≤ 10 := by
    intro d
    induction d with
    | zero =>
      intro n s t ks c' hn h hc' ht hks
      obtain ⟨n, rfl⟩ : ∃ m, n = m + 1 := ⟨n - 1, by omega⟩
      rw [spec_l1Terms.s4, if_neg (by simp)]
      by_cases h0 : t.length = 0
      · rw [if_pos (by simp [h0]), gd_t (by simp; omega), gd_t (by simp; omega)]
        exact fin _ _ _ c' h (by omega) (by simp; omega) (by simp; omega) (by simp)
      · rw [if_neg (by simp; intro e; exact h0 (by rw [e]; rfl))]
        exact fin _ _ _ c' h (by omega) (by omega) hks h0
    | succ d ih =>
      intro n s t ks c' hn h hc' ht hks
      obtain ⟨n, rfl⟩ : ∃ m, n = m + 1 := ⟨n - 1, by omega⟩
      have hw : w64 (((d + 1 : Nat) : Int) - 1) = (d : Int) := by rw [w64_id (by omega) (by omega)]; omega
      have j19 : ∀ (s : List Int × Int) (c2 : Nat) (x : TM), RdOk s c2 → c2 + 10 * d ≤ c + 70 → ∃ t' s', spec_l1Terms.lj19 (k' + 1) n vars 1 ((d + 1 : Nat) : Int) t (k' + 1) s ks x = some (t', s') ∧ RdOk s' (c + 100) ∧ t'.length ≤ 10 := by
        intro s c2 x h hc2
        rw [spec_l1Terms.sj19, l1Kind_eq (by omega) x ks vars (by omega) ⟨hv0, hv1⟩, hw]
        simp only [Option.bind_some]
        split
        · rw [gd_t (by simp; omega), gd_t (by simp; omega)]
          exact ih n s _ _ c2 (by omega) h hc2 (by simp; omega) (by simp; omega)
        · exact ih n s _ _ c2 (by omega) h hc2 (by omega) hks
      have j15 : ∀ (s : List Int × Int) (c2 : Nat) (o q : Int) (x : TM), RdOk s c2 → c2 + 2 + 10 * d ≤ c + 70 → ∃ t' s', spec_l1Terms.lj15 (k' + 1) n vars 1 s ks ((d + 1 : Nat) : Int) o x t (k' + 1) q = some (t', s') ∧ RdOk s' (c + 100) ∧ t'.length ≤ 10 := by
        intro s c2 o q x h hc2
        rw [spec_l1Terms.sj15]
        obtain ⟨v2, s2, e2, h⟩ := l1Pickw_ok (k := k' + 1) h (by omega) (p := ks) (by omega) (by omega) q
        rw [e2]; simp only [Option.bind_some]
        obtain ⟨v3, s3, e3, h⟩ := l1Pickw_ok (k := k' + 1) h (by omega) (p := ks) (by omega) (by omega) q
        rw [e3]; simp only [Option.bind_some]
        rw [spec_l1One.s]
        simp only [Option.bind_some]
        split
        · exact j19 _ _ _ h (by omega)
        · exact j19 _ _ _ h (by omega)
      have j9 : ∀ (s : List Int × Int) (c2 : Nat) (o : Int) (x : TM) (b : Bool), RdOk s c2 → c2 + 8 + 10 * d ≤ c + 70 → ∃ t' s', spec_l1Terms.lj9 (k' + 1) n vars 1 ks ((d + 1 : Nat) : Int) t (k' + 1) s o x b = some (t', s') ∧ RdOk s' (c + 100) ∧ t'.length ≤ 10 := by
        intro s c2 o x b h hc2
        rw [spec_l1Terms.sj9]
        split
        · obtain ⟨v2, s2, e2, h⟩ := l1Number_ok (k := k' + 1) h (by omega)
          rw [e2]; simp only [Option.bind_some]
          split
          · split
            · obtain ⟨v3, e3, _⟩ := pick_ok (k := k' + 1) h (by omega) vars
              rw [e3]; simp only [Option.bind_some]
              exact j19 _ _ _ h.next (by omega)
            · exact j19 _ _ _ h (by omega)
          · exact j19 _ _ _ h (by omega)
        · split
          · exact j15 _ _ _ _ _ h (by omega)
          · exact j15 _ _ _ _ _ h (by omega)
      rw [spec_l1Terms.s4, if_pos (by simp)]
      obtain ⟨v2, e2, _⟩ := num_ok (k := k' + 1) h (by omega) (l := [0, 1, 1, 2, 3, 4, 5, 6, 5, 6, 7, 8, 9]) (by simp)
      rw [e2]; simp only [Option.bind_some]
      have h := h.next
      split
      · exact j9 _ _ _ _ _ h (by omega)
      · exact j9 _ _ _ _ _ h (by omega)
  exact main (m + 2) (k' + 1) _ [] [] _ (by omega) h (by omega) (by simp; omega) rfl
theorem l2Value_ok {k : Nat} (hk : 100000 < k) {s : List Int × Int} {c : Nat} (h : RdOk s c) (hc : c < 800000) {vs : List VA} (hv : vs.length ≤ 1000) {i : Nat} (hi : i < vs.length) : ∃ t s', spec_l2Value_w1.f k s vs (i : Int) = some (t, (s', vs)) ∧ RdOk s' (c + 110) ∧ t.length ≤ 10 := by
  rw [spec_l2Value_w1.s]
  obtain ⟨v1, e1, _⟩ := pick_ok (k := k) h (by omega) 6
  rw [e1]; simp only [Option.bind_some]
  have h := h.next
  rw [spec_l2VarOf.s, spec_l2Const.s]
  simp only [Option.bind_some]
  split
  · obtain ⟨v2, e2, _⟩ := num_ok (k := k) h (by omega) (l := [2, 3]) (by simp)
    rw [e2]; simp only [Option.bind_some]
    exact ⟨_, _, rfl, h.next.weak (by omega), by simp⟩
  split
  · simp (disch := omega) only [gd_t]
    obtain ⟨v2, e2, _⟩ := pick_ok (k := k) h (by omega) (w64 ((w64 ((vs.getD ((i : Int).toNat) (0, (0, 0))).2.1 - (vs.getD ((i : Int).toNat) (0, (0, 0))).1)) + 1))
    rw [e2]; simp only [Option.bind_some]
    rw [spec_l2Const.s]
    exact ⟨_, _, rfl, h.next.weak (by omega), by simp⟩
  split
  · obtain ⟨v2, e2, _⟩ := pick_ok (k := k) h (by omega) (vs.length : Int)
    rw [e2]; simp only [Option.bind_some]
    rw [spec_l2VarOf.s]
    exact ⟨_, _, rfl, h.next.weak (by omega), by simp⟩
  · obtain ⟨t, s2, e2, h, ht⟩ := l1Terms_ok hk h (by omega) (vars := (vs.length : Int)) (by omega) (by omega)
    rw [e2]; simp only [Option.bind_some]
    exact ⟨_, _, rfl, h.weak (by omega), ht⟩
end Go.Ev

namespace Go.Ev
def RuB (n : Nat) (r : RU) : Prop := r.1.length ≤ 41 ∧ r.2.1.length ≤ n ∧ r.2.2.length ≤ n ∧ ∀ x ∈ r.2.2, x.length ≤ 10
theorem RuB.weak {n m : Nat} {r : RU} (h : RuB n r) (hn : n ≤ m) : RuB m r := ⟨h.1, Nat.le_trans h.2.1 hn, Nat.le_trans h.2.2.1 hn, h.2.2.2⟩
theorem l2Rules_ok {k : Nat} (hk : 100000 < k) {s : List Int × Int} {c : Nat} (h : RdOk s c) (hc : c < 500000) {vs : List VA} (hv : vs.length ≤ 4) (hv0 : vs.length ≠ 0) {m : Nat} (hm : m ≤ 4) :
    ∃ rs s', spec_l2Rules_w1.f k s vs (m : Int) = some (rs, (s', vs)) ∧ RdOk s' (c + 4000) ∧ rs.length ≤ 4 ∧ ∀ r ∈ rs, RuB 4 r := by
  obtain ⟨k', rfl⟩ : ∃ m, k = m + 1 := ⟨k - 1, by omega⟩
  rw [spec_l2Rules_w1.s]
  refine for_post (m := m) (l := fun n (q : (List Int × Int) × List RU) j => spec_l2Rules_w1.l3 (k' + 1) (m : Int) n q.1 vs q.2 j) (fun j q => (∃ c', RdOk q.1 c' ∧ c' ≤ c + 900 * j) ∧ q.2.length = j ∧ ∀ r ∈ q.2, RuB 4 r) (fun x => ∃ rs s', x = some (rs, (s', vs)) ∧ RdOk s' (c + 4000) ∧ rs.length ≤ 4 ∧ ∀ r ∈ rs, RuB 4 r)
    (fun n q hI => ?_) (fun n j q hj hI ih => ?_) (s := (s, [])) (by omega) ⟨⟨c, h, by omega⟩, rfl, fun r hr => by simp at hr⟩
  · obtain ⟨⟨c', h, hc'⟩, hl, hr⟩ := hI
    rw [spec_l2Rules_w1.s3, if_neg (by simp)]
    exact ⟨_, _, rfl, h.weak (by omega), by omega, hr⟩
  · obtain ⟨s, rs⟩ := q
    obtain ⟨⟨c', h, hc'⟩, hl, hr⟩ := hI
    simp only at h hl hr ih ⊢
    rw [spec_l2Rules_w1.s3, if_pos (by simp; omega)]
    obtain ⟨t, s1, e1, h, ht⟩ := l2When_ok (k := k' + 1) (by omega) h (by omega) hv0
    rw [e1]; simp only [Option.bind_some]
    refine for_post (m := vs.length) (l := fun q (u : (List Int × Int) × RU) i => spec_l2Rules_w1.l7 (k' + 1) n (m : Int) rs (j : Int) q u.1 vs u.2 i) (fun i u => (∃ c2, RdOk u.1 c2 ∧ c2 ≤ c' + 10 + 200 * i) ∧ u.2.1.length ≤ 41 ∧ u.2.2.1.length ≤ i ∧ u.2.2.2.length ≤ i ∧ ∀ x ∈ u.2.2.2, x.length ≤ 10) (fun x => ∃ rs s', x = some (rs, (s', vs)) ∧ RdOk s' (c + 4000) ∧ rs.length ≤ 4 ∧ ∀ r ∈ rs, RuB 4 r)
      (fun q u hU => ?_) (fun q i u hi hU ih2 => ?_) (s := (s1, (t, ([], [])))) (by omega) ⟨⟨_, h, by omega⟩, ht, by simp, by simp, fun x hx => by simp at hx⟩
    · obtain ⟨⟨c2, h, hc2⟩, u1, u2, u3, u4⟩ := hU
      simp (disch := omega) only [spec_l2Rules_w1.s7, gd_true, gd_t, List.length_singleton, w64_id]
      rw [if_neg (by simp)]
      refine ih (u.1, rs ++ [u.2]) ⟨⟨c2, h, by omega⟩, by simp; omega, fun r hr' => ?_⟩
      rcases List.mem_append.1 hr' with hr' | hr'
      · exact hr r hr'
      · rw [List.mem_singleton.1 hr']
        exact ⟨u1, by omega, by omega, u4⟩
    · obtain ⟨s, r⟩ := u
      obtain ⟨⟨c2, h, hc2⟩, u1, u2, u3, u4⟩ := hU
      simp only at h u1 u2 u3 u4 ih2 ⊢
      have j10 : ∀ (s : List Int × Int) (c3 : Nat) (b : Bool), RdOk s c3 → c3 ≤ c2 + 2 → ∃ rs' s', spec_l2Rules_w1.lj10 (k' + 1) n q (m : Int) (i : Int) vs rs (j : Int) r (k' + 1) s b = some (rs', (s', vs)) ∧ RdOk s' (c + 4000) ∧ rs'.length ≤ 4 ∧ ∀ r ∈ rs', RuB 4 r := by
        intro s c3 b h hc3
        rw [spec_l2Rules_w1.sj10]
        split
        · obtain ⟨t2, s2, e2, h, ht2⟩ := l2Value_ok (k := k' + 1) hk h (by omega) (by omega) hi
          rw [e2]
          simp (disch := omega) only [gd_true, gd_t, List.length_singleton, w64_id, Option.bind_some]
          refine ih2 (s2, (r.1, (r.2.1 ++ [(i : Int)], r.2.2 ++ [t2]))) ⟨⟨_, h, by omega⟩, u1, by simp; omega, by simp; omega, fun x hx => ?_⟩
          rcases List.mem_append.1 hx with hx | hx
          · exact u4 x hx
          · rw [List.mem_singleton.1 hx]; exact ht2
        · rw [w64_id (by omega) (by omega)]
          exact ih2 (s, r) ⟨⟨_, h, by omega⟩, u1, by simp only; omega, by simp only; omega, u4⟩
      rw [spec_l2Rules_w1.s7, if_pos (by simpa using hi)]
      obtain ⟨v1, e1, _⟩ := pick_ok (k := k' + 1) h (by omega) (w64 ((vs.length : Int) + 1))
      rw [e1]; simp only [Option.bind_some]
      have h := h.next
      split
      · exact j10 _ _ _ h (by omega)
      split
      · split
        · obtain ⟨v2, e2, _⟩ := pick_ok (k := k' + 1) h (by omega) 9
          rw [e2]; simp only [Option.bind_some]
          exact j10 _ _ _ h.next (by omega)
        · exact j10 _ _ _ h (by omega)
      · exact j10 _ _ _ h (by omega)
theorem l2System_ok {k : Nat} (hk : 100000 < k) {s : List Int × Int} {c : Nat} (h : RdOk s c) (hc : c < 100000) (p1 : Int) : ∃ y s', spec_l2System.f k s p1 = some (y, s') ∧ RdOk s' (c + 5000) ∧ y.1.length ≤ 4 ∧ y.1.length ≠ 0 ∧ y.2.length ≤ 4 ∧ ∀ r ∈ y.2, RuB 4 r := by
  rw [spec_l2System.s]
  obtain ⟨v1, e1, g0, g1, _⟩ := pick_ok (k := k) h (by omega) 3
  rw [e1]; simp only [Option.bind_some]
  have h := h.next
  have hv := g1 (by omega)
  obtain ⟨m, rfl⟩ := Int.eq_ofNat_of_zero_le g0
  rw [show w64 (1 + (m : Int)) = ((m + 1 : Nat) : Int) by rw [w64_id (by omega) (by omega)]; omega]
  have main : ∀ (d n : Nat) (s : List Int × Int) (vs : List VA) (z : Int) (c' : Nat), d < n → RdOk s c' → c' + 3 * d ≤ c + 100 → vs.length + d ≤ 3 → ∃ y s', spec_l2System.l4 k p1 n s (vs, []) z (d : Int) = some (y, s') ∧ RdOk s' (c + 5000) ∧ y.1.length ≤ 4 ∧ y.1.length ≠ 0 ∧ y.2.length ≤ 4 ∧ ∀ r ∈ y.2, RuB 4 r := by
    intro d
    induction d with
    | zero =>
      intro n s vs z c' hn h hc' hvs
      obtain ⟨n, rfl⟩ : ∃ m, n = m + 1 := ⟨n - 1, by omega⟩
      rw [spec_l2System.s4, if_neg (by simp)]
      have fin : ∀ vs' : List VA, vs'.length ≤ 4 → vs'.length ≠ 0 → ∃ y s', ((spec_l40Rd_num.f k s [1, 2, 3, 4, 2, 3, 0]).bind fun r5 => (spec_l2Rules_w1.f k r5.2 vs' r5.1).bind fun r6 => some ((r6.2.2, r6.1), r6.2.1)) = some (y, s') ∧ RdOk s' (c + 5000) ∧ y.1.length ≤ 4 ∧ y.1.length ≠ 0 ∧ y.2.length ≤ 4 ∧ ∀ r ∈ y.2, RuB 4 r := by
        intro vs' h4 h0
        obtain ⟨v2, e2, hv2⟩ := num_ok (k := k) h (by omega) (l := [1, 2, 3, 4, 2, 3, 0]) (by simp)
        rw [e2]; simp only [Option.bind_some]
        have h := h.next
        have hb : 0 ≤ v2 ∧ v2 ≤ 4 := by simp at hv2; omega
        obtain ⟨m2, rfl⟩ := Int.eq_ofNat_of_zero_le hb.1
        obtain ⟨rs, s3, e3, h, h5, h6⟩ := l2Rules_ok hk h (by omega) h4 h0 (m := m2) (by omega)
        rw [e3]
        exact ⟨_, _, rfl, h.weak (by omega), h4, h0, h5, h6⟩
      split
      · simp (disch := omega) only [gd_true, gd_t, List.length_singleton]
        exact fin (vs ++ [(0, (1, 0))]) (by simp; omega) (by simp)
      · rename_i h0
        exact fin vs (by omega) (fun e => h0 (by simp [e]))
    | succ d ih =>
      intro n s vs z c' hn h hc' hvs
      obtain ⟨n, rfl⟩ : ∃ m, n = m + 1 := ⟨n - 1, by omega⟩
      have hw : w64 (((d + 1 : Nat) : Int) - 1) = (d : Int) := by rw [w64_id (by omega) (by omega)]; omega
      rw [spec_l2System.s4, if_pos (by simp)]
      obtain ⟨v2, e2, _⟩ := num_ok (k := k) h (by omega) (l := [2, 3, 2, 4, 5]) (by simp)
      rw [e2]; simp only [Option.bind_some]
      have h := h.next
      rw [hw]
      split
      · obtain ⟨v3, e3, _⟩ := num_ok (k := k) h (by omega) (l := [0, 0, 0, -1, 2]) (by simp)
        rw [e3]; simp only [Option.bind_some]
        have h := h.next
        obtain ⟨v4, e4, _⟩ := pick_ok (k := k) h (by omega) v2
        rw [e4]; simp only [Option.bind_some]
        have h := h.next
        simp (disch := omega) only [gd_true, gd_t, List.length_singleton]
        exact ih n _ _ _ _ (by omega) h (by omega) (by simp; omega)
      · exact ih n _ _ _ _ (by omega) h (by omega) (by omega)
  exact main (m + 1) k _ [] 1 _ (by omega) h (by omega) (by simp; omega)
structure DrS (s : SY) : Prop where
  vars : s.1.length ≤ 4
  rules : s.2.length ≤ 4
  rule : ∀ r ∈ s.2, RuB 5 r
theorem DrS.sm {s : SY} (h : DrS s) : SmS s := ⟨by have := h.vars; omega, by have := h.rules; omega, fun r hr => by
  obtain ⟨h1, h2, h3, h4⟩ := h.rule r hr
  exact ⟨by omega, by omega, by omega, fun x hx => by have := h4 x hx; omega⟩⟩
theorem DrS.big {s : SY} (h : DrS s) : BigS s := ⟨by have := h.vars; omega, by have := h.rules; omega, fun r hr => by
  obtain ⟨h1, h2, h3, h4⟩ := h.rule r hr
  exact ⟨by omega, by omega, by omega, fun x hx => by have := h4 x hx; omega⟩⟩
theorem mem_set_or {α : Type} {l : List α} {i : Nat} {a x : α} (h : x ∈ l.set i a) : x ∈ l ∨ x = a := List.mem_or_eq_of_mem_set h
theorem getD_mem0 {l : List RU} (h : 0 < l.length) : l.getD (Int.toNat 0) ([], ([], [])) ∈ l := by
  show l.getD 0 _ ∈ l
  rw [getD_get h]; exact List.getElem_mem h
theorem l2Any_ok {k : Nat} (hk : 100000 < k) {s : List Int × Int} {c : Nat} (h : RdOk s c) (hc : c < 100000) (p1 : Int) : ∃ y s', spec_l2Any.f k s p1 = some (y, s') ∧ RdOk s' (c + 6000) ∧ DrS y := by
  obtain ⟨k', rfl⟩ : ∃ m, k = m + 1 := ⟨k - 1, by omega⟩
  rw [spec_l2Any.s]
  obtain ⟨y, s1, e1, h, y1, y2, y3, y4⟩ := l2System_ok hk h hc p1
  rw [e1]; simp only [Option.bind_some]
  obtain ⟨v2, e2, _⟩ := pick_ok (k := k' + 1) h (by omega) 14
  rw [e2]; simp only [Option.bind_some]
  have h := h.next
  have hy : DrS y := ⟨y1, y3, fun r hr => (y4 r hr).weak (by omega)⟩
  have j11 : ∀ (s : List Int × Int) (z : Int) (b : Bool) (c' : Nat), RdOk s c' → c' ≤ c + 5900 → (b = true → 0 < y.2.length) → ∃ y' s', spec_l2Any.lj11 (k' + 1) (k' + 1) s y z b = some (y', s') ∧ RdOk s' (c + 6000) ∧ DrS y' := by
    intro s z b c' h hc' hb
    rw [spec_l2Any.sj11]
    split
    · rename_i hbt
      have h0 := hb hbt
      have hm := y4 _ (getD_mem0 h0)
      have hm1 := hm.2.1
      simp (disch := omega) only [gd_true, gd_t, List.length_singleton]
      refine ⟨_, _, rfl, h.weak (by omega), ⟨y1, by simp only [List.length_set]; exact y3, fun r hr => ?_⟩⟩
      rcases mem_set_or hr with hr | rfl
      · exact hy.rule r hr
      · exact ⟨hm.1, by simp only [List.length_append, List.length_singleton]; omega, by have := hm.2.2.1; simp only; omega, hm.2.2.2⟩
    split
    · exact ⟨_, _, rfl, h.weak (by omega), ⟨by simp, y3, hy.rule⟩⟩
    split
    · rename_i h0
      have h0 : 0 < y.2.length := by simpa using h0
      have hm := y4 _ (getD_mem0 h0)
      have hm1 := hm.2.2.1
      rw [spec_l2Const.s]
      simp (disch := omega) only [gd_true, gd_t, List.length_singleton, Option.bind_some]
      refine ⟨_, _, rfl, h.weak (by omega), ⟨y1, by simp only [List.length_set]; exact y3, fun r hr => ?_⟩⟩
      rcases mem_set_or hr with hr | rfl
      · exact hy.rule r hr
      · refine ⟨hm.1, by have := hm.2.1; simp only; omega, by simp only [List.length_append, List.length_singleton]; omega, fun x hx => ?_⟩
        rcases List.mem_append.1 hx with hx | hx
        · exact hm.2.2.2 x hx
        · rw [List.mem_singleton.1 hx]; simp
    · exact ⟨_, _, rfl, h.weak (by omega), hy⟩
  split
  · obtain ⟨v3, e3, _⟩ := pick_ok (k := k' + 1) h (by omega) 6
    rw [e3]; simp only [Option.bind_some]
    have h := h.next
    split
    · simp (disch := omega) only [gd_true, gd_t]
      exact ⟨_, _, rfl, h.weak (by omega), ⟨by simp only [List.length_set]; exact y1, y3, hy.rule⟩⟩
    split
    · obtain ⟨v4, e4, _⟩ := num_ok (k := k' + 1) h (by omega) (l := [-1, 20, 19]) (by simp)
      simp (disch := omega) only [gd_true, gd_t]
      rw [e4]
      simp (disch := omega) only [gd_true, gd_t, Option.bind_some]
      exact ⟨_, _, rfl, h.next.weak (by omega), ⟨by simp only [List.length_set]; exact y1, y3, hy.rule⟩⟩
    split
    · split
      · rename_i h0
        have h0 : 0 < y.2.length := by simpa using h0
        have hm := y4 _ (getD_mem0 h0)
        rw [spec_l2Const.s]
        simp (disch := omega) only [gd_true, gd_t, Option.bind_some]
        refine ⟨_, _, rfl, h.weak (by omega), ⟨y1, by simp only [List.length_set]; exact y3, fun r hr => ?_⟩⟩
        rcases mem_set_or hr with hr | rfl
        · exact hy.rule r hr
        · exact ⟨by simp, by have := hm.2.1; simp only; omega, by have := hm.2.2.1; simp only; omega, hm.2.2.2⟩
      · split
        · exact j11 _ _ _ _ h (by omega) (fun e => by simpa using e)
        · exact j11 _ _ _ _ h (by omega) (fun e => by cases e)
    · split
      · exact j11 _ _ _ _ h (by omega) (fun e => by simpa using e)
      · exact j11 _ _ _ _ h (by omega) (fun e => by cases e)
  · exact ⟨_, _, rfl, h.weak (by omega), hy⟩
end Go.Ev

namespace Go.Ev
theorem size_ex {k : Nat} (hk : 1048576 < k) {s : SY} (h : DrS s) : ∃ z : Nat, z ≤ 400 ∧ spec_SizeOf.f k s = some ((z : Int), ()) := by
  rcases sys_env hk s h.big h.sm with E | ⟨_, _, e⟩
  · exact ⟨_, E.S.sz, E.hz⟩
  · exact ⟨0, by omega, e⟩
theorem l28Draw_ok {k : Nat} (hk : 1048577 < k) {b : List Int} (hb : ∀ x ∈ b, 0 ≤ x ∧ x ≤ 255) : ∃ r s x, spec_l28Draw.f k b = some ((r, (s, x)), ()) ∧ RdOk r 20000 ∧ DrS s ∧ x.length ≤ 400 := by
  rw [spec_l28Draw.s]
  obtain ⟨r, e1, h⟩ := l40Open_ok (k := k) hb
  rw [e1]; simp only [Option.bind_some]
  obtain ⟨s, r2, e2, h, hs⟩ := l2Any_ok (k := k) (by omega) h (by omega) 24
  rw [e2]; simp only [Option.bind_some]
  obtain ⟨v3, e3, _⟩ := num_ok (k := k) h (by omega) (l := [2, 3, 5, 1]) (by simp)
  rw [e3]; simp only [Option.bind_some]
  have h := h.next
  obtain ⟨z, hz, ez⟩ := size_ex (k := k) (by omega) hs
  refine for_post (m := z) (l := fun n (q : (List Int × Int) × List (List Int)) j => spec_l28Draw.l6 k n q.1 s q.2 v3 j) (fun j q => (∃ c, RdOk q.1 c ∧ c ≤ 7000 + j) ∧ q.2.length = j ∧ ∀ y ∈ q.2, y.length ≤ 1) (fun x => ∃ r s x', x = some ((r, (s, x')), ()) ∧ RdOk r 20000 ∧ DrS s ∧ x'.length ≤ 400) (fun n q hI => ?_) (fun n j q hj hI ih => ?_) (s := (_, [])) (by omega) ⟨⟨_, h, by omega⟩, rfl, fun y hy => by simp at hy⟩
  · obtain ⟨⟨c, h, hc⟩, hl, hr⟩ := hI
    rw [spec_l28Draw.s6, ez]
    simp only [Option.bind_some]
    rw [if_neg (by simp), l28Rows_eq q.2 (fun y hy => by have := hr y hy; omega) (by omega) (by omega)]
    simp only [Option.bind_some]
    have hfl := firsts_length q.2
    split
    · rename_i h0
      have h0 : 0 < (firsts q.2).length := by simpa using h0
      obtain ⟨v4, e4, _⟩ := pick_ok (k := k) h (by omega) 14
      rw [e4]; simp only [Option.bind_some]
      have h := h.next
      split
      · rw [twice_eq]
        obtain ⟨v5, e5, g0, g1, _⟩ := pick_ok (k := k) h (by omega) ((firsts q.2).length : Int)
        rw [e5]; simp only [Option.bind_some]
        have h := h.next
        obtain ⟨v6, e6, _⟩ := num_ok (k := k) h (by omega) (l := [((firsts q.2).length : Int), -1, 1]) (by simp)
        rw [e6]; simp only [Option.bind_some]
        rw [gd_t g0, gd_t (g1 (by omega))]
        exact ⟨_, _, _, rfl, h.next.weak (by omega), hs, by rw [List.length_set]; omega⟩
      · exact ⟨_, _, _, rfl, h.weak (by omega), hs, by omega⟩
    · exact ⟨_, _, _, rfl, h.weak (by omega), hs, by omega⟩
  · obtain ⟨q1, q2⟩ := q
    obtain ⟨⟨c, h, hc⟩, hl, hr⟩ := hI
    simp only at h hl hr ih ⊢
    rw [spec_l28Draw.s6, ez]
    simp only [Option.bind_some]
    rw [if_pos (by simp; omega)]
    obtain ⟨v4, e4, _⟩ := pick_ok (k := k) h (by omega) v3
    rw [e4]; simp only [Option.bind_some]
    have h := h.next
    rw [gd_t (by simp; omega), w64_id (by omega) (by omega)]
    refine ih (_, q2 ++ [[v4]]) ⟨⟨_, h, by omega⟩, by simp; omega, fun y hy => ?_⟩
    rcases List.mem_append.1 hy with hy | hy
    · exact hr y hy
    · rw [List.mem_singleton.1 hy]; simp
end Go.Ev

namespace Go.Ev
theorem without_nil {k : Nat} (hk : 1048577 < k) {a c : List Int} (ha : Asc a) (hc : Asc c) (ha' : ∀ x ∈ a, 0 ≤ x ∧ x < 400) (hc' : ∀ x ∈ c, 0 ≤ x ∧ x < 400) (hal : a.length ≤ 1048576) (hcl : c.length ≤ 1048576) (hs : ∀ x ∈ a, x ∈ c) : impl_SetWithout.f k a c = some ([], ()) := by
  rw [impl_SetWithout.s, impl_setOf.s]
  obtain ⟨g, g1, g2⟩ := setOk_l (k := k) a 400 (by omega) hal (by omega)
  obtain ⟨g', g1', g2'⟩ := setOk_l (k := k) c 400 (by omega) hcl (by omega)
  have e1 := g2.2 ⟨rfl, asc_SetAt ha 400 ha'⟩
  have e2 := g2'.2 ⟨rfl, asc_SetAt hc 400 hc'⟩
  have m1 := marks_eq (k := k) a 400 (by omega) hal (by omega) (asc_SetAt ha 400 ha')
  have m2 := marks_eq (k := k) c 400 (by omega) hcl (by omega) (asc_SetAt hc 400 hc')
  rw [show ((400 : Nat) : Int) = 400 from rfl] at m1 m2
  rw [g1, e1]
  simp only [Option.bind_some]
  rw [if_neg (by simp), g1', e2]
  simp only [Option.bind_some]
  rw [if_neg (by simp), m1]
  simp only [Option.bind_some]
  rw [m2]
  simp only [Option.bind_some]
  rw [gd_t (by omega), gd_t (by omega), gd_t (by omega)]
  have l1 := marksOf_length a 400
  have l2 := marksOf_length c 400
  have key : impl_setOf.l6 k (fun p => (impl_SetWithout_1.f k p.1 p.2.1).bind fun r => some r.1) k (marksOf a 400) (marksOf c 400) (List.replicate ((400 : Int)).toNat false) 0 = some ([], ()) := by
    refine for_post (m := 400) (l := fun n v j => impl_setOf.l6 k (fun p => (impl_SetWithout_1.f k p.1 p.2.1).bind fun r => some r.1) n (marksOf a 400) (marksOf c 400) v j) (fun j v => v = List.replicate 400 false) (fun x => x = some ([], ())) (fun n v hI => ?_) (fun n j v hj hI ih => ?_) (by omega) rfl
    · have hvl : v.length = 400 := by rw [hI]; exact List.length_replicate
      rw [impl_setOf.s6, if_neg (by simp only [List.length_replicate, decide_eq_true_eq]; omega), listOf_eq _ (by omega) (by omega)]
      have : listT v = [] := by
        rw [List.eq_nil_iff_forall_not_mem]
        intro x hx
        obtain ⟨i, hi, hb, _⟩ := mem_listT.1 hx
        rw [getD_get hi] at hb
        have hb' : v[i] = false := by
          have h2 : v[i] ∈ v := List.getElem_mem hi
          have h3 : ∀ y ∈ v, y = false := fun y hy => by rw [hI] at hy; exact (List.mem_replicate.1 hy).2
          exact h3 _ h2
        rw [hb'] at hb; cases hb
      rw [this]; rfl
    · have hvl : v.length = 400 := by rw [hI]; exact List.length_replicate
      have hw : ((marksOf a 400).getD j false = true → (marksOf c 400).getD j false = true) := fun h => (marksOf_getD hj).2 (hs _ ((marksOf_getD hj).1 h))
      rw [impl_setOf.s6, if_pos (by simp only [List.length_replicate, decide_eq_true_eq]; omega), gd_t (by omega), gd_t (by omega), gd_t (by omega), gd_t (by omega), toNat_nat, impl_SetWithout_1.s]
      have e : (if (marksOf a 400).getD j false = true then some (!(marksOf c 400).getD j false, ()) else some (false, ())) = some (false, ()) := by
        split
        · rename_i h; rw [hw h]; rfl
        · rfl
      simp only
      rw [e]
      simp only [Option.bind_some]
      rw [gd_t (by omega), gd_t (by omega), w64_id (by omega) (by omega)]
      refine ih _ ?_
      rw [hI]; exact List.set_replicate_self
  rw [key]; rfl
end Go.Ev

namespace Go.Ev
theorem wcInts_l (k : Nat) (p q : List Int) (hq : q.length = p.length) (hp : p.length < 4611686018427387904) : ∀ (d n j : Nat), j + d = p.length → d < n → laws_wcInts.l4 k p q n (j : Int) = some (decide (p.drop j = q.drop j), ())
  | 0, n + 1, j, h, hn => by
    rw [laws_wcInts.s4]
    rw [if_neg (by simp; omega), List.drop_eq_nil_of_le (by omega), List.drop_eq_nil_of_le (by omega)]
    simp
  | d + 1, n + 1, j, h, hn => by
    have hj : j < p.length := by omega
    have hj' : j < q.length := by omega
    simp only [laws_wcInts.s4, toNat_nat, w64_nat (j := j) (by omega)]
    rw [if_pos (by simp; omega), gd_t (by omega), gd_t (by omega), gd_t (by omega), gd_t (by omega), getD_get hj, getD_get hj']
    have key : p.drop j = q.drop j ↔ p[j] = q[j] ∧ p.drop (j + 1) = q.drop (j + 1) := by
      rw [drop_get hj, drop_get hj', List.cons.injEq]
    by_cases e : p[j] = q[j]
    · rw [if_neg (by simp [e]), wcInts_l k p q hq hp d n (j + 1) (by omega) (by omega)]
      simp only [key, e, true_and]
    · rw [if_pos (by simp; exact fun h => e h.symm)]
      simp only [key, e, false_and, decide_false]
theorem wcInts_eq {k : Nat} {p q : List Int} (hp : p.length < 4611686018427387904) (hk : p.length < k) : laws_wcInts.f k p q = some (decide (p = q), ()) := by
  rw [laws_wcInts.s]
  by_cases h : q.length = p.length
  · rw [if_neg (by simp [h])]
    have := wcInts_l k p q h hp p.length k 0 (by omega) hk
    simpa using this
  · rw [if_pos (by simp; omega), decide_eq_false (fun e => h (by rw [e]))]
end Go.Ev

namespace Go.Ev
theorem stepsT_tab {s : SY} (hS : SysP s) : TabP (stepsT s) := fun r hr x hx => by
  obtain ⟨j, hj, rfl⟩ := List.mem_iff_getElem.1 hr
  rw [stepsT_length] at hj
  rw [steps_get] at hx
  rw [stepsT_length]
  exact rowT_mem hx hS
theorem stepsT_rows {s : SY} (hS : SysP s) : ∀ r ∈ stepsT s, r.length ≤ 1000 := fun r hr => by
  obtain ⟨j, hj, rfl⟩ := List.mem_iff_getElem.1 hr
  rw [steps_get]
  have h1 := rowT_len s j
  have h2 := hS.r8
  omega
noncomputable def rsT (s : SY) : List Bool := rchT (stepsT s) (marksOf [((n0 s : Nat) : Int)] (prodW s.1))
theorem rsT_length (s : SY) : (rsT s).length = prodW s.1 := by unfold rsT; rw [rchT_length, stepsT_length]
theorem ReachOf_eq {k : Nat} (hk : 3000000 < k) {s : SY} (E : Env k s) : impl_ReachOf.f k s = some (listT (rsT s), ()) := by
  have hS := E.S
  have hsz := hS.sz
  have hn := n0_lt hS
  have htl := stepsT_length s
  rw [impl_ReachOf.s, E.iv]
  simp only [Option.bind_some]
  rw [if_neg (by simp), impl_reachOf.s, nexts_eq hS E.iz (by omega)]
  simp only [Option.bind_some]
  rw [first_eq hS (by omega)]
  simp only [Option.bind_some]
  rw [number_eq hS (firstT_StP hS) (by omega)]
  simp only [Option.bind_some]
  rw [show noOf s.1 (firstT s) = n0 s from rfl, reach_eq (stepsT_tab hS) (by omega) (fun r hr => by have := stepsT_rows hS r hr; omega) (fun x hx => by rw [mem_one] at hx; omega) (by simp) hk]
  simp only [Option.bind_some]
  rw [htl, listOf_eq _ (by rw [rchT_length]; omega) (by omega)]
  rfl
end Go.Ev
