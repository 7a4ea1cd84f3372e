/- Plain mathematics on what the functions compute. -/
import Derived.Test.YtfhhagbbfiiiiaaGreatP2
import Derived.Test.YtfhhagbbfiiiiaaGreatEv4
import Derived.IntWalk
import Derived.Lib.SlicesCompact
namespace Go.Ev
theorem l1TermsG_ok {k : Nat} (hk : 100000 < k) {s : List Int × Int} {c : Nat} (h : RdOk s c) (hc : c < 800000) {vars p2 : Int} (hv0 : 0 ≤ vars) (hv1 : vars ≤ 1000) : ∃ t s', spec_l1Terms.f k s vars p2 12 = some (t, s') ∧ RdOk s' (c + 300) ∧ t.length ≤ 20 ∧ t.length ≠ 0 := by
  obtain ⟨k', rfl⟩ : ∃ m, k = m + 1 := ⟨k - 1, by omega⟩
  rw [spec_l1Terms.s]
  obtain ⟨v1, e1, g0, g1, _⟩ := pick_ok (k := k' + 1) h (by omega) 12
  rw [e1]; simp only [Option.bind_some]
  have h := h.next
  have hv := g1 (by omega)
  obtain ⟨m, rfl⟩ := Int.eq_ofNat_of_zero_le g0
  rw [show w64 (2 + (m : Int)) = ((m + 2 : Nat) : Int) by rw [w64_id (by omega) (by omega)]; omega]
  have fin28 : ∀ (s : List Int × Int) (t : List TM) (ks : List Int) (c' : Nat) (b : Bool), RdOk s c' → c' ≤ c + 250 → t.length ≤ 16 → ks.length = t.length → t.length ≠ 0 → ∃ t' s', spec_l1Terms.lj28 (k' + 1) p2 s ks t (k' + 1) b = some (t', s') ∧ RdOk s' (c + 300) ∧ t'.length ≤ 20 ∧ t'.length ≠ 0 := by
    intro s t ks c' b h hc' ht hks ht0
    rw [spec_l1Terms.sj28]
    split
    · obtain ⟨v3, e3, _⟩ := num_ok (k := k' + 1) h (by omega) (l := [5, 6]) (by simp)
      rw [e3]; simp only [Option.bind_some]
      have h := h.next
      obtain ⟨v4, s4, e4, h⟩ := l1Pick_ok (k := k' + 1) h (by omega) (p := ks) (by omega) (by omega) 1
      rw [e4]; simp only [Option.bind_some]
      rw [gd_t (by simp; omega)]
      exact ⟨_, _, rfl, h.weak (by omega), by simp; omega, by simp⟩
    split
    · rw [w64_id (by omega) (by omega), gd_t (by omega), gd_t (by omega)]
      split
      · obtain ⟨v2, s2, e2, h⟩ := l1Pick_ok (k := k' + 1) h (by omega) (p := ks) (by omega) (by omega) 1
        rw [e2]; simp only [Option.bind_some]
        obtain ⟨v3, e3, _⟩ := num_ok (k := k' + 1) h (by omega) (l := [2, 3]) (by simp)
        rw [e3]; simp only [Option.bind_some]
        have h := h.next
        obtain ⟨v4, s4, e4, h⟩ := l1Pick_ok (k := k' + 1) h (by omega) (p := ks) (by omega) (by omega) 1
        rw [e4]; simp only [Option.bind_some]
        rw [gd_t (by simp; omega)]
        exact ⟨_, _, rfl, h.weak (by omega), by simp; omega, by simp⟩
      · exact ⟨_, _, rfl, h.weak (by omega), by omega, ht0⟩
    · exact ⟨_, _, rfl, h.weak (by omega), by omega, ht0⟩
  have fin : ∀ (s : List Int × Int) (t : List TM) (ks : List Int) (c' : Nat), RdOk s c' → c' ≤ c + 250 → t.length ≤ 16 → ks.length = t.length → t.length ≠ 0 → ∃ t' s', spec_l1Terms.lj26 (k' + 1) p2 s (k' + 1) t ks = some (t', s') ∧ RdOk s' (c + 300) ∧ t'.length ≤ 20 ∧ t'.length ≠ 0 := by
    intro s t ks c' h hc' ht hks ht0
    rw [spec_l1Terms.sj26]
    split
    · rw [w64_id (by omega) (by omega), gd_t (by omega), gd_t (by omega)]
      exact fin28 _ _ _ _ _ h hc' ht hks ht0
    · exact fin28 _ _ _ _ _ h hc' ht hks ht0
  have main : ∀ (d n : Nat) (s : List Int × Int) (t : List TM) (ks : List Int) (c' : Nat), d < n → RdOk s c' → c' + 10 * d ≤ c + 240 → t.length + d ≤ 15 → ks.length = t.length → ∃ t' s', spec_l1Terms.l4 (k' + 1) vars p2 n s t ks (d : Int) = some (t', s') ∧ RdOk s' (c + 300) ∧ t'.length ≤ 20 ∧ t'.length ≠ 0 := by
    intro d
    induction d with
    | zero =>
      intro n s t ks c' hn h hc' ht hks
      obtain ⟨n, rfl⟩ : ∃ m, n = m + 1 := ⟨n - 1, by omega⟩
      rw [spec_l1Terms.s4, if_neg (by simp)]
      by_cases h0 : t.length = 0
      · rw [if_pos (by simp [h0]), gd_t (by simp; omega), gd_t (by simp; omega)]
        exact fin _ _ _ c' h (by omega) (by simp; omega) (by simp; omega) (by simp)
      · rw [if_neg (by simp; intro e; exact h0 (by rw [e]; rfl))]
        exact fin _ _ _ c' h (by omega) (by omega) hks h0
    | succ d ih =>
      intro n s t ks c' hn h hc' ht hks
      obtain ⟨n, rfl⟩ : ∃ m, n = m + 1 := ⟨n - 1, by omega⟩
      have hw : w64 (((d + 1 : Nat) : Int) - 1) = (d : Int) := by rw [w64_id (by omega) (by omega)]; omega
      have j19 : ∀ (s : List Int × Int) (c2 : Nat) (x : TM), RdOk s c2 → c2 + 10 * d ≤ c + 240 → ∃ t' s', spec_l1Terms.lj19 (k' + 1) n vars p2 ((d + 1 : Nat) : Int) t (k' + 1) s ks x = some (t', s') ∧ RdOk s' (c + 300) ∧ t'.length ≤ 20 ∧ t'.length ≠ 0 := by
        intro s c2 x h hc2
        rw [spec_l1Terms.sj19, l1Kind_eq (by omega) x ks vars (by omega) ⟨hv0, hv1⟩, hw]
        simp only [Option.bind_some]
        split
        · rw [gd_t (by simp; omega), gd_t (by simp; omega)]
          exact ih n s _ _ c2 (by omega) h hc2 (by simp; omega) (by simp; omega)
        · exact ih n s _ _ c2 (by omega) h hc2 (by omega) hks
      have j15 : ∀ (s : List Int × Int) (c2 : Nat) (o q : Int) (x : TM), RdOk s c2 → c2 + 2 + 10 * d ≤ c + 240 → ∃ t' s', spec_l1Terms.lj15 (k' + 1) n vars p2 s ks ((d + 1 : Nat) : Int) o x t (k' + 1) q = some (t', s') ∧ RdOk s' (c + 300) ∧ t'.length ≤ 20 ∧ t'.length ≠ 0 := by
        intro s c2 o q x h hc2
        rw [spec_l1Terms.sj15]
        obtain ⟨v2, s2, e2, h⟩ := l1Pickw_ok (k := k' + 1) h (by omega) (p := ks) (by omega) (by omega) q
        rw [e2]; simp only [Option.bind_some]
        obtain ⟨v3, s3, e3, h⟩ := l1Pickw_ok (k := k' + 1) h (by omega) (p := ks) (by omega) (by omega) q
        rw [e3]; simp only [Option.bind_some]
        rw [spec_l1One.s]
        simp only [Option.bind_some]
        split
        · exact j19 _ _ _ h (by omega)
        · exact j19 _ _ _ h (by omega)
      have j9 : ∀ (s : List Int × Int) (c2 : Nat) (o : Int) (x : TM) (b : Bool), RdOk s c2 → c2 + 8 + 10 * d ≤ c + 240 → ∃ t' s', spec_l1Terms.lj9 (k' + 1) n vars p2 ks ((d + 1 : Nat) : Int) t (k' + 1) s o x b = some (t', s') ∧ RdOk s' (c + 300) ∧ t'.length ≤ 20 ∧ t'.length ≠ 0 := by
        intro s c2 o x b h hc2
        rw [spec_l1Terms.sj9]
        split
        · obtain ⟨v2, s2, e2, h⟩ := l1Number_ok (k := k' + 1) h (by omega)
          rw [e2]; simp only [Option.bind_some]
          split
          · split
            · obtain ⟨v3, e3, _⟩ := pick_ok (k := k' + 1) h (by omega) vars
              rw [e3]; simp only [Option.bind_some]
              exact j19 _ _ _ h.next (by omega)
            · exact j19 _ _ _ h (by omega)
          · exact j19 _ _ _ h (by omega)
        · split
          · exact j15 _ _ _ _ _ h (by omega)
          · exact j15 _ _ _ _ _ h (by omega)
      rw [spec_l1Terms.s4, if_pos (by simp)]
      obtain ⟨v2, e2, _⟩ := num_ok (k := k' + 1) h (by omega) (l := [0, 1, 1, 2, 3, 4, 5, 6, 5, 6, 7, 8, 9]) (by simp)
      rw [e2]; simp only [Option.bind_some]
      have h := h.next
      split
      · exact j9 _ _ _ _ _ h (by omega)
      · exact j9 _ _ _ _ _ h (by omega)
  exact main (m + 2) (k' + 1) _ [] [] _ (by omega) h (by omega) (by simp; omega) rfl
theorem l1Any_ok {k : Nat} (hk : 100000 < k) {s : List Int × Int} {c : Nat} (h : RdOk s c) (hc : c < 700000) {vars : Int} (hv0 : 0 ≤ vars) (hv1 : vars ≤ 1000) : ∃ t s', spec_l1Any.f k s vars = some (t, s') ∧ RdOk s' (c + 400) ∧ t.length ≤ 20 := by
  rw [spec_l1Any.s]
  obtain ⟨v1, e1, _⟩ := pick_ok (k := k) h (by omega) 3
  rw [e1]; simp only [Option.bind_some]
  have h := h.next
  obtain ⟨t, s2, e2, h, ht, ht0⟩ := l1TermsG_ok hk h (by omega) (p2 := v1) hv0 hv1
  rw [e2]; simp only [Option.bind_some]
  obtain ⟨v3, e3, _⟩ := pick_ok (k := k) h (by omega) 12
  rw [e3]; simp only [Option.bind_some]
  have h := h.next
  split
  · obtain ⟨v4, e4, g0, g1, _⟩ := pick_ok (k := k) h (by omega) (t.length : Int)
    rw [e4]; simp only [Option.bind_some]
    have h := h.next
    have g1 := g1 (by omega)
    simp (disch := omega) only [gd_t]
    obtain ⟨v5, e5, _⟩ := pick_ok (k := k) h (by omega) 4
    rw [e5]; simp only [Option.bind_some]
    have h := h.next
    split
    · obtain ⟨v6, e6, _⟩ := num_ok (k := k) h (by omega) (l := [-1, 10, 7, 2, 0, 1]) (by simp)
      rw [e6]; simp only [Option.bind_some]
      exact ⟨_, _, rfl, h.next.weak (by omega), by rw [List.length_set]; exact ht⟩
    split
    · obtain ⟨v6, e6, _⟩ := num_ok (k := k) h (by omega) (l := [-1, vars, 10000, 1]) (by simp)
      rw [e6]; simp only [Option.bind_some]
      exact ⟨_, _, rfl, h.next.weak (by omega), by rw [List.length_set]; exact ht⟩
    obtain ⟨v6, e6, _⟩ := num_ok (k := k) h (by omega) (l := [-1, v4, (t.length : Int), 0]) (by simp)
    split
    · rw [e6]; simp only [Option.bind_some]
      exact ⟨_, _, rfl, h.next.weak (by omega), by rw [List.length_set]; exact ht⟩
    · rw [e6]; simp only [Option.bind_some]
      exact ⟨_, _, rfl, h.next.weak (by omega), by rw [List.length_set]; exact ht⟩
  · exact ⟨_, _, rfl, h.weak (by omega), ht⟩
theorem l2WhenS_ok {k : Nat} (hk : 1000 < k) {s : List Int × Int} {c : Nat} (h : RdOk s c) (hc : c < 900000) {vs : List VA} (hv : vs.length ≠ 0) : ∃ t s', spec_l2When.f k s vs = some (t, s') ∧ RdOk s' (c + 10) ∧ t.length ≤ 41 := by
  rw [spec_l2When.s]
  obtain ⟨v1, e1, g0, g1, _⟩ := pick_ok (k := k) h (by omega) (vs.length : Int)
  rw [e1]; simp only [Option.bind_some]
  have h := h.next
  rw [gd_t g0, gd_t (g1 (by omega))]
  obtain ⟨t, s1, e2, h, ht⟩ := l2Cond_ok (k := k) h (by omega) (vs.getD v1.toNat (0, (0, 0))) v1
  rw [e2]; simp only [Option.bind_some]
  obtain ⟨v3, e3, _⟩ := pick_ok (k := k) h (by omega) 2
  rw [e3]; simp only [Option.bind_some]
  have h := h.next
  by_cases h0 : v3 = 0
  · rw [if_pos (by simp [h0])]
    obtain ⟨v4, e4, g0, g1, _⟩ := pick_ok (k := k) h (by omega) (vs.length : Int)
    rw [e4]; simp only [Option.bind_some]
    have h := h.next
    rw [gd_t g0, gd_t (g1 (by omega))]
    obtain ⟨v5, e5, _⟩ := num_ok (k := k) h (by omega) (l := [8, 9, 8]) (by simp)
    rw [e5]; simp only [Option.bind_some]
    have h := h.next
    obtain ⟨t2, s2, e6, h, ht2⟩ := l2Cond_ok (k := k) h (by omega) (vs.getD v4.toNat (0, (0, 0))) v4
    rw [e6]; simp only [Option.bind_some]
    obtain ⟨t3, e7, ht3⟩ := Joined_ok (k := k) hk (o := v5) (p := t) (q := t2) (vars := (vs.length : Int)) (by omega) (by omega)
    rw [e7]; simp only [Option.bind_some]
    exact ⟨_, _, rfl, h.weak (by omega), ht3⟩
  · rw [if_neg (by simp [h0])]
    exact ⟨_, _, rfl, h.weak (by omega), by omega⟩
end Go.Ev

namespace Go.Ev
variable {T : List (List Int)} {v : List Bool}
theorem far_range {x : Nat} (h : x < T.length) : (farT T v).getD x 0 = -1 ∨ 0 ≤ (farT T v).getD x 0 ∧ (farT T v).getD x 0 ≤ (T.length : Int) := lv_range h T.length
theorem far_of {x d : Nat} (hx : x < T.length) (h : 0 ≤ (lv T v d).getD x 0) : (farT T v).getD x 0 = (lv T v d).getD x 0 := by
  have := lv_mono hx h T.length
  rw [← this, ← lv_end (T := T) (v := v) d, Nat.add_comm]
theorem far_first {x e : Nat} (hx : x < T.length) (h : (farT T v).getD x 0 = (e : Int)) : (lv T v e).getD x 0 = (e : Int) := lv_first hx T.length e h
theorem far_zero {x : Nat} (hx : x < T.length) : (farT T v).getD x 0 = 0 ↔ v.getD x false = true := by
  constructor
  · intro h
    have := far_first (e := 0) hx (by simpa using h)
    rw [lv_zero hx] at this
    by_cases hv : v.getD x false = true
    · exact hv
    · rw [if_neg hv] at this; omega
  · intro h
    have h0 : (lv T v 0).getD x 0 = 0 := by rw [lv_zero hx, if_pos h]
    rw [far_of hx (d := 0) (by omega), h0]
theorem far_step {m x : Nat} (hm : m < T.length) (hx : x < T.length) (h : 0 ≤ (farT T v).getD m 0) (hmem : (x : Int) ∈ T.getD m []) : 0 ≤ (farT T v).getD x 0 ∧ (farT T v).getD x 0 ≤ (farT T v).getD m 0 + 1 := by
  obtain ⟨e, he⟩ : ∃ e : Nat, (farT T v).getD m 0 = (e : Int) := ⟨((farT T v).getD m 0).toNat, by omega⟩
  have h1 := far_first hm he
  have h2 : 0 ≤ (lv T v (e + 1)).getD x 0 := by
    obtain ⟨g1, g2, g3⟩ := lv_succ (v := v) (d := e) hx
    by_cases h0 : 0 ≤ (lv T v e).getD x 0
    · rw [g1 h0]; exact h0
    · rw [g2 h0 ⟨m, hm, h1, hmem⟩]; omega
  have h3 := far_of hx h2
  rcases lv_range (v := v) hx (e + 1) with q | q <;> omega
theorem far_pred {x e : Nat} (hx : x < T.length) (h : (farT T v).getD x 0 = ((e + 1 : Nat) : Int)) : ∃ m, m < T.length ∧ (farT T v).getD m 0 = (e : Int) ∧ (x : Int) ∈ T.getD m [] := by
  have h1 := far_first hx h
  obtain ⟨g1, g2, g3⟩ := lv_succ (v := v) (d := e) hx
  have h0 : ¬ 0 ≤ (lv T v e).getD x 0 := fun h0 => by
    have := far_of hx h0
    rcases lv_range (v := v) hx e with q | q <;> omega
  by_cases hm : ∃ m, m < T.length ∧ (lv T v e).getD m 0 = (e : Int) ∧ (x : Int) ∈ T.getD m []
  · obtain ⟨m, m1, m2, m3⟩ := hm
    exact ⟨m, m1, by rw [far_of m1 (d := e) (by omega), m2], m3⟩
  · have := g3 h0 hm; omega
structure FarI (T : List (List Int)) (v : List Bool) (out : List Int) (A B : List Int) (D : Nat) (y : Option (Nat × List Int)) : Prop where
  len : out.length = T.length
  val : ∀ x, x < T.length → out.getD x 0 = -1 ∨ (0 ≤ out.getD x 0 ∧ out.getD x 0 = (farT T v).getD x 0)
  low : ∀ x, x < T.length → 0 ≤ (farT T v).getD x 0 → (farT T v).getD x 0 ≤ (D : Int) → 0 ≤ out.getD x 0
  inA : ∀ z ∈ A, 0 ≤ z ∧ z < (T.length : Int) ∧ out.getD z.toNat 0 = (D : Int)
  inB : ∀ z ∈ B, 0 ≤ z ∧ z < (T.length : Int) ∧ out.getD z.toNat 0 = (D : Int) + 1
  top : ∀ x, x < T.length → out.getD x 0 ≤ (D : Int) + 1 ∧ (out.getD x 0 = (D : Int) + 1 → (x : Int) ∈ B)
  cls : ∀ m x, m < T.length → x < T.length → out.getD m 0 = (D : Int) → (x : Int) ∈ T.getD m [] → (m : Int) ∈ A ∨ 0 ≤ out.getD x 0 ∨ (∃ z l, y = some (z, l) ∧ m = z ∧ (x : Int) ∉ l)
theorem FarI.done {out : List Int} {D : Nat} (I : FarI T v out [] [] D none) : out = farT T v := by
  refine lv_ext (T := T) I.len (farT_length) fun x hx => ?_
  rcases I.val x hx with h | h
  · rcases far_range (v := v) hx with q | q
    · omega
    · have hC := RchT.least (T := T) (v := v) (C := fun x => 0 ≤ out.getD x 0) (fun x hx hv => I.low x hx (by rw [(far_zero hx).2 hv]; omega) (by rw [(far_zero hx).2 hv]; omega)) (fun m x hm hx h1 h2 => ?_) x hx q.1
      · have hC : 0 ≤ out.getD x 0 := hC
        omega
      · have h1 : 0 ≤ out.getD m 0 := h1
        have ht := I.top m hm
        have hne : out.getD m 0 ≠ (D : Int) + 1 := fun e => by have := ht.2 e; simp at this
        have hf : out.getD m 0 = (farT T v).getD m 0 := by rcases I.val m hm with q | q <;> omega
        by_cases hD : out.getD m 0 = (D : Int)
        · rcases I.cls m x hm hx hD h2 with h | h | ⟨z, l, h, _⟩
          · simp at h
          · exact h
          · cases h
        · have := far_step (v := v) hm hx (by omega) h2
          exact I.low x hx this.1 (by omega)
  · exact h.2
end Go.Ev

namespace Go.Ev
variable {T : List (List Int)} {v : List Bool}
theorem exists_least {P : Nat → Prop} : ∀ n, P n → ∃ m, m ≤ n ∧ P m ∧ ∀ m', m' < m → ¬ P m' := by
  intro n
  induction n using Nat.strongRecOn with
  | _ n ih =>
    intro h
    by_cases hx : ∃ m, m < n ∧ P m
    · obtain ⟨m, h1, h2⟩ := hx
      obtain ⟨m', g1, g2, g3⟩ := ih m h1 h2
      exact ⟨m', by omega, g2, g3⟩
    · exact ⟨n, Nat.le_refl _, h, fun m' hm hp => hx ⟨m', hm, hp⟩⟩
structure BackP (T : List (List Int)) (v : List Bool) (n m : Nat) : Prop where
  lt : m < T.length
  far : (farT T v).getD m 0 = (farT T v).getD n 0 - 1
  mem : (n : Int) ∈ T.getD m []
  least : ∀ m', m' < m → ¬ ((farT T v).getD m' 0 = (farT T v).getD n 0 - 1 ∧ (n : Int) ∈ T.getD m' [])
theorem BackP.uniq {n m m' : Nat} (h : BackP T v n m) (h' : BackP T v n m') : m = m' := by
  rcases Nat.lt_trichotomy m m' with e | e | e
  · exact absurd ⟨h.far, h.mem⟩ (h'.least m e)
  · exact e
  · exact absurd ⟨h'.far, h'.mem⟩ (h.least m' e)
theorem back_ex {n : Nat} (hn : n < T.length) (h : 0 < (farT T v).getD n 0) : ∃ m, BackP T v n m := by
  obtain ⟨m, h1, h2, h3⟩ := far_pred (v := v) (e := ((farT T v).getD n 0).toNat - 1) hn (by omega)
  obtain ⟨m', g1, g2, g3⟩ := exists_least (P := fun m => (farT T v).getD m 0 = (farT T v).getD n 0 - 1 ∧ (n : Int) ∈ T.getD m []) m ⟨by omega, h3⟩
  exact ⟨m', by omega, g2.1, g2.2, g3⟩
noncomputable def backT (T : List (List Int)) (v : List Bool) (n : Nat) : Nat := by
  classical
  exact if h : ∃ m, BackP T v n m then h.choose else 0
theorem backT_spec {n : Nat} (hn : n < T.length) (h : 0 < (farT T v).getD n 0) : BackP T v n (backT T v n) := by
  unfold backT
  rw [dif_pos (back_ex hn h)]
  exact (back_ex hn h).choose_spec
noncomputable def pathT (T : List (List Int)) (v : List Bool) : Nat → Nat → List Int
  | 0, n => [(n : Int)]
  | d + 1, n => pathT T v d (backT T v n) ++ [(n : Int)]
theorem pathT_length : ∀ d n, (pathT T v d n).length = d + 1
  | 0, n => rfl
  | d + 1, n => by rw [pathT, List.length_append, pathT_length d]; rfl
theorem l5Back_eq {k : Nat} {n : Nat} (hN : T.length ≤ 1048576) (hr : ∀ r ∈ T, r.length ≤ 1048576) (hn : n < T.length) (h : 0 < (farT T v).getD n 0) (hk : 1048577 < k) : spec_l5Back.f k T (farT T v) (n : Int) = some (((backT T v n : Nat) : Int), ()) := by
  have hB := backT_spec hn h
  have hfl := farT_length (T := T) (v := v)
  have hfr := far_range (v := v) hn
  rw [spec_l5Back.s]
  refine for_post (m := T.length) (l := fun q (_ : Unit) j => spec_l5Back.l2 k T (farT T v) (n : Int) q j) (fun j _ => j ≤ backT T v n) (fun x => x = _) (fun q _ hI => ?_) (fun q j _ hj hI ih => ?_) (s := ()) (by omega) (Nat.zero_le _)
  · have := hB.lt; omega
  · have hrow : T.getD j [] = T[j] := getD_get hj
    have hrl := hr _ (List.getElem_mem hj)
    simp (disch := omega) only [spec_l5Back.s2, gd_t, toNat_nat, w64_id, hrow, l2Has_eq (p := T[j]) (show T[j].length < 4611686018427387904 by omega) (show T[j].length < k by omega), Option.bind_some]
    rw [if_pos (by simpa using hj)]
    by_cases e : (farT T v).getD j 0 = (farT T v).getD n 0 - 1
    · rw [if_pos (by simpa [-List.getD_eq_getElem?_getD] using e)]
      by_cases hm : (n : Int) ∈ T[j]
      · rw [if_pos (by simpa using hm)]
        have : j = backT T v n := by
          rcases Nat.lt_or_ge j (backT T v n) with h' | h'
          · exact absurd ⟨e, by rw [hrow]; exact hm⟩ (hB.least j h')
          · omega
        rw [this]
      · rw [if_neg (by simpa using hm)]
        refine ih () ?_
        rcases Nat.lt_or_ge j (backT T v n) with h' | h'
        · omega
        · have : j = backT T v n := by omega
          exact absurd (by rw [← hrow, this]; exact hB.mem) hm
    · rw [if_neg (by simpa [-List.getD_eq_getElem?_getD] using e)]
      refine ih () ?_
      rcases Nat.lt_or_ge j (backT T v n) with h' | h'
      · omega
      · have : j = backT T v n := by omega
        exact absurd (by rw [this]; exact hB.far) e
end Go.Ev

namespace Go.Ev
variable {T : List (List Int)} {v : List Bool}
def NearP (far : List Int) (S : Nat → Prop) (r : Int) : Prop :=
  (r = -1 ∧ ∀ x, S x → far.getD x 0 < 0) ∨ ∃ c : Nat, r = (c : Int) ∧ S c ∧ 0 ≤ far.getD c 0 ∧ ∀ x, S x → 0 ≤ far.getD x 0 → far.getD c 0 < far.getD x 0 ∨ (far.getD c 0 = far.getD x 0 ∧ c ≤ x)
theorem NearP.congr {far : List Int} {S S' : Nat → Prop} {r : Int} (h : NearP far S r) (e : ∀ x, S' x ↔ S x) : NearP far S' r := by
  rcases h with ⟨h1, h2⟩ | ⟨c, h1, h2, h3, h4⟩
  · exact .inl ⟨h1, fun x hx => h2 x ((e x).1 hx)⟩
  · exact .inr ⟨c, h1, (e c).2 h2, h3, fun x hx => h4 x ((e x).1 hx)⟩
theorem NearP.uniq {far : List Int} {S : Nat → Prop} {r r' : Int} (h : NearP far S r) (h' : NearP far S r') : r = r' := by
  rcases h with ⟨h1, h2⟩ | ⟨c, h1, h2, h3, h4⟩ <;> rcases h' with ⟨g1, g2⟩ | ⟨c', g1, g2, g3, g4⟩
  · omega
  · have := h2 _ g2; omega
  · have := g2 _ h2; omega
  · have := h4 _ g2 g3; have := g4 _ h2 h3; omega
theorem NearP.low {far : List Int} {S : Nat → Prop} {r : Int} (h : NearP far S r) {y : Nat} (hy : far.getD y 0 < 0) : NearP far (fun x => S x ∨ x = y) r := by
  rcases h with ⟨h1, h2⟩ | ⟨c, h1, h2, h3, h4⟩
  · exact .inl ⟨h1, fun x hx => hx.elim (h2 x) (fun e => by rw [e]; exact hy)⟩
  · exact .inr ⟨c, h1, .inl h2, h3, fun x hx h0 => hx.elim (fun h => h4 x h h0) (fun e => by subst e; omega)⟩
theorem NearP.new {far : List Int} {S : Nat → Prop} {r : Int} (h : NearP far S r) {y : Nat} (hy : 0 ≤ far.getD y 0) (hr : r < 0 ∨ far.getD y 0 < far.getD r.toNat 0 ∨ (far.getD y 0 = far.getD r.toNat 0 ∧ (y : Int) < r)) : NearP far (fun x => S x ∨ x = y) (y : Int) := by
  refine .inr ⟨y, rfl, .inr rfl, hy, fun x hx h0 => ?_⟩
  rcases hx with hx | rfl
  · rcases h with ⟨h1, h2⟩ | ⟨c, h1, h2, h3, h4⟩
    · have := h2 x hx; omega
    · subst h1
      rw [toNat_nat] at hr
      have := h4 x hx h0; omega
  · exact .inr ⟨rfl, Nat.le_refl _⟩
theorem NearP.old {far : List Int} {S : Nat → Prop} {r : Int} (h : NearP far S r) {y : Nat} (h0 : ¬ r < 0) (hr : far.getD r.toNat 0 < far.getD y 0 ∨ (far.getD r.toNat 0 = far.getD y 0 ∧ r ≤ (y : Int))) : NearP far (fun x => S x ∨ x = y) r := by
  rcases h with ⟨h1, h2⟩ | ⟨c, h1, h2, h3, h4⟩
  · omega
  · subst h1
    rw [toNat_nat] at hr
    refine .inr ⟨c, rfl, .inl h2, h3, fun x hx hx0 => ?_⟩
    rcases hx with hx | rfl
    · exact h4 x hx hx0
    · omega
theorem NearP.bd {far : List Int} {S : Nat → Prop} {r : Int} {n : Nat} (h : NearP far S r) (hS : ∀ x, S x → x < n) (h0 : ¬ r < 0) : r < (n : Int) := by
  rcases h with ⟨h1, h2⟩ | ⟨c, h1, h2, h3, h4⟩
  · omega
  · have := hS _ h2; omega
theorem l5Nearest_eq {k : Nat} {far : List Int} {is : List Bool} (hl : is.length = far.length) (hn : far.length ≤ 1048576) (hk : 1048577 < k) :
    ∃ r, spec_l5Nearest.f k far is = some (r, ()) ∧ NearP far (fun x => x < far.length ∧ is.getD x false = true) r := by
  rw [spec_l5Nearest.s]
  refine for_post (m := far.length) (l := fun n r j => spec_l5Nearest.l3 k far is n r j) (fun j r => NearP far (fun x => x < j ∧ is.getD x false = true) r) (fun x => ∃ r, x = some (r, ()) ∧ NearP far (fun x => x < far.length ∧ is.getD x false = true) r) (fun n r hI => ?_) (fun n j r hj hI ih => ?_) (by omega) (.inl ⟨rfl, fun x hx => by omega⟩)
  · rw [spec_l5Nearest.s3, if_neg (by simp)]
    exact ⟨r, rfl, hI⟩
  · have hS : ∀ x, (x < j ∧ is.getD x false = true) → x < j := fun x h => h.1
    have hb : ¬ r < 0 → r < (j : Int) := hI.bd hS
    simp (disch := omega) only [spec_l5Nearest.s3, gd_t, toNat_nat, w64_id]
    rw [if_pos (by simpa using hj)]
    by_cases hi : is.getD j false = true
    · have hc : ∀ x, (x < j + 1 ∧ is.getD x false = true) ↔ ((x < j ∧ is.getD x false = true) ∨ x = j) := fun x => by
        constructor
        · rintro ⟨h1, h2⟩
          by_cases e : x = j
          · exact .inr e
          · exact .inl ⟨by omega, h2⟩
        · rintro (⟨h1, h2⟩ | rfl)
          · exact ⟨by omega, h2⟩
          · exact ⟨by omega, hi⟩
      rw [if_pos hi]
      by_cases h0 : 0 ≤ far.getD j 0
      · rw [if_pos (by simpa [-List.getD_eq_getElem?_getD] using h0)]
        by_cases hr : r < 0
        · rw [if_pos (by simpa using hr)]
          exact ih _ ((hI.new h0 (.inl hr)).congr hc)
        · have := hb hr
          rw [if_neg (by simpa using hr), gd_t (by omega)]
          by_cases hd : far.getD j 0 < far.getD r.toNat 0
          · rw [if_pos (by simpa [-List.getD_eq_getElem?_getD] using hd)]
            exact ih _ ((hI.new h0 (.inr (.inl hd))).congr hc)
          · rw [if_neg (by simpa [-List.getD_eq_getElem?_getD] using hd)]
            exact ih _ ((hI.old hr (by omega)).congr hc)
      · rw [if_neg (by simpa [-List.getD_eq_getElem?_getD] using h0)]
        exact ih _ ((hI.low (by omega)).congr hc)
    · rw [if_neg hi]
      refine ih _ (hI.congr fun x => ?_)
      constructor
      · rintro ⟨h1, h2⟩
        exact ⟨(Nat.lt_or_ge x j).elim id fun h => absurd (by rw [show x = j by omega] at h2; exact h2) hi, h2⟩
      · rintro ⟨h1, h2⟩; exact ⟨by omega, h2⟩
theorem turned_l {k : Nat} {p : List Int} (hp : p.length ≤ 1048576) : ∀ (j n : Nat) (out : List Int), j ≤ p.length → j < n → out.length + j ≤ 1048576 → spec_l22Turned.l3 k p n out ((j : Int) - 1) = some (out ++ (p.take j).reverse, ())
  | 0, n + 1, out, hj, hn, ho => by
    rw [spec_l22Turned.s3, if_neg (by simp)]; simp
  | j + 1, n + 1, out, hj, hn, ho => by
    have hw : w64 (((j + 1 : Nat) : Int) - 1 - 1) = (j : Int) - 1 := by rw [w64_id (by omega) (by omega)]; omega
    have ht : ((j + 1 : Nat) : Int) - 1 = (j : Int) := by omega
    rw [spec_l22Turned.s3, if_pos (by simp), hw, ht, toNat_nat, gd_t (by omega), gd_t (by omega), gd_t (by simp only [List.length_singleton]; omega), turned_l hp j n _ (by omega) (by omega) (by simp only [List.length_append, List.length_singleton]; omega), getD_get (show j < p.length by omega), List.take_succ_eq_append_getElem (show j < p.length by omega), List.reverse_append]
    simp
theorem Turned_eq {k : Nat} {p : List Int} (hp : p.length ≤ 1048576) (hk : 1048577 < k) : spec_l22Turned.f k p = some (p.reverse, ()) := by
  rw [spec_l22Turned.s, w64_id (by omega) (by omega), turned_l hp p.length k [] (by omega) (by omega) (by simpa using hp), List.take_length, List.nil_append]
theorem specWay {k : Nat} (hN : T.length ≤ 1024) (hr : ∀ r ∈ T, r.length ≤ 4096) (hk : 1048577 < k) : ∀ (d n f : Nat) (pre : List Int), n < T.length → (farT T v).getD n 0 = (d : Int) → d < f → pre.length + d ≤ 1048000 →
    spec_BlockWay.l16 k f T (farT T v) (pre ++ [(n : Int)]) = some ((pathT T v d n ++ pre.reverse, true), ())
  | d, n, f + 1, pre, hn, hd, hf, hp => by
    have hfl := farT_length (T := T) (v := v)
    have hll : ((pre ++ [(n : Int)]).length : Int) = pre.length + 1 := by simp
    have hlast : (pre ++ [(n : Int)]).getD (w64 (((pre ++ [(n : Int)]).length : Int) - 1)).toNat 0 = (n : Int) := by
      rw [hll, w64_id (by omega) (by omega), show ((pre.length : Int) + 1 - 1).toNat = pre.length by omega]
      simp [List.getD_eq_getElem?_getD]
    have hw : w64 (((pre ++ [(n : Int)]).length : Int) - 1) = (pre.length : Int) := by rw [hll, w64_id (by omega) (by omega)]; omega
    rw [spec_BlockWay.s16]
    simp only [hlast, toNat_nat]
    rw [gd_t (by rw [hw]; omega), gd_t (by rw [hw, hll]; omega), gd_t (by omega), gd_t (by omega), hd]
    cases d with
    | zero =>
      rw [if_neg (by simp), Turned_eq (by simp only [List.length_append, List.length_singleton]; omega) hk]
      simp [pathT]
    | succ d =>
      rw [if_pos (by simp), gd_t (by rw [hw]; omega), gd_t (by rw [hw, hll]; omega), l5Back_eq (by omega) (fun r h => by have := hr r h; omega) hn (by omega) hk]
      have hB := backT_spec (v := v) hn (by omega)
      have hbf := hB.far
      simp only [Option.bind_some]
      rw [gd_t (by rw [hll]; simp only [List.length_singleton]; omega), specWay hN hr hk d _ f _ hB.lt (by omega) (by omega) (by simp only [List.length_append, List.length_singleton]; omega)]
      simp [pathT]
end Go.Ev

namespace Go.Ev
def evB (b : List Int) (w : List Bool) (n : Nat) (x : Nat) : Prop := ∃ m, m < n ∧ w.getD m false = false ∧ b.getD m 0 = (x : Int)
theorem evB_succ {b : List Int} {w : List Bool} {n y : Nat} (h : w.getD n false = false) (hy : b.getD n 0 = (y : Int)) (x : Nat) : evB b w (n + 1) x ↔ (evB b w n x ∨ x = y) := by
  constructor
  · rintro ⟨m, h1, h2, h3⟩
    by_cases e : m = n
    · subst e; right; omega
    · exact .inl ⟨m, by omega, h2, h3⟩
  · rintro (⟨m, h1, h2, h3⟩ | rfl)
    · exact ⟨m, by omega, h2, h3⟩
    · exact ⟨n, by omega, h, hy⟩
theorem evB_skip {b : List Int} {w : List Bool} {n : Nat} (h : w.getD n false = true) (x : Nat) : evB b w (n + 1) x ↔ evB b w n x := by
  constructor
  · rintro ⟨m, h1, h2, h3⟩
    by_cases e : m = n
    · subst e; rw [h] at h2; cases h2
    · exact ⟨m, by omega, h2, h3⟩
  · rintro ⟨m, h1, h2, h3⟩
    exact ⟨m, by omega, h2, h3⟩
noncomputable def wayT (s : SY) (b : List Int) (r : Int) : List Int := if r < 0 then [] else pathT (blkT s b) (marksOf [b.getD (n0 s) 0] (prodW s.1)) ((farT (blkT s b) (marksOf [b.getD (n0 s) 0] (prodW s.1))).getD r.toNat 0).toNat r.toNat
theorem blkB {n : Nat} {b : List Int} (hb : BlkP n b) {j : Nat} (hj : j < n) : 0 ≤ b.getD j 0 ∧ b.getD j 0 < (n : Int) := by
  have h1 := hb.len
  have := hb.low j (by omega)
  rw [getD_get (by omega)]; omega
theorem marks_listT {w : List Bool} {n : Nat} (hw : w.length = n) : marksOf (listT w) n = w :=
  list_ext_getD (d := false) (by simp [marksOf]) hw fun x hx => by
    rw [Bool.eq_iff_iff, marksOf_getD hx, mem_listT' (by omega)]
theorem l15Good_eq {k : Nat} {s : SY} {p : List TM} (E : Env k s) (hp : KindIs p s.1.length 2) (hi : spec_l2Is.f k p (s.1.length : Int) 2 = some (true, ())) (hk : 1048577 < k) : spec_l15Good.f k s p = some (whereT s p, ()) := by
  have hsz := E.S.sz
  have hwl := whereT_length s p
  rw [spec_l15Good.s, StatesWhere_eq E hp hi hk]
  simp only [Option.bind_some]
  rw [E.hz]
  simp only [Option.bind_some]
  rw [l4Marks_eq (listT_bd (by omega)) (by omega) (by have := listT_length (whereT s p); omega) hk, marks_listT hwl]
  rfl
theorem specBlockWay {k : Nat} {s : SY} {b : List Int} {w : List Bool} (E : Env k s) (hb : BlkP (prodW s.1) b) (hw : w.length = prodW s.1) (hk : 5000000 < k) :
    ∃ r, spec_BlockWay.l6 k s b k w (List.replicate (prodW s.1) false) 0 = some ((wayT s b r, !decide ((wayT s b r).length = 0)), ()) ∧ NearP (farT (blkT s b) (marksOf [b.getD (n0 s) 0] (prodW s.1))) (evB b w (prodW s.1)) r ∧ (wayT s b r).length ≤ 401 := by
  have hS := E.S
  have hsz := hS.sz
  have hT := blkT_tab hS hb
  have htl := blkT_length s b
  have hrl := blkT_rows hS (b := b)
  have hbl := hb.len
  have hfl := farT_length (T := blkT s b) (v := marksOf [b.getD (n0 s) 0] (prodW s.1))
  refine for_post (m := prodW s.1) (l := fun n is j => spec_BlockWay.l6 k s b n w is j) (fun j is => is.length = prodW s.1 ∧ ∀ x, x < prodW s.1 → (is.getD x false = true ↔ evB b w j x)) (fun x => ∃ r, x = some ((wayT s b r, !decide ((wayT s b r).length = 0)), ()) ∧ NearP (farT (blkT s b) (marksOf [b.getD (n0 s) 0] (prodW s.1))) (evB b w (prodW s.1)) r ∧ (wayT s b r).length ≤ 401) (fun n is hI => ?_) (fun n j is hj hI ih => ?_) (by omega) ⟨by simp, fun x hx => by simp [List.getD_eq_getElem?_getD, List.getElem?_replicate, hx, evB]⟩
  · obtain ⟨hl, hI⟩ := hI
    rw [spec_BlockWay.s6, if_neg (by simp [hbl]), l28Steps_eq E hb (by omega)]
    simp only [Option.bind_some]
    rw [l28First_eq E hb (by omega)]
    simp only [Option.bind_some]
    rw [l5Steps_eq hT (by rw [marksOf_length, htl]) (by omega) (fun r h => by have := hrl r h; omega) (by omega)]
    simp only [Option.bind_some]
    obtain ⟨r, e, hr⟩ := l5Nearest_eq (k := k) (far := farT (blkT s b) (marksOf [b.getD (n0 s) 0] (prodW s.1))) (is := is) (by omega) (by omega) (by omega)
    have hN : NearP (farT (blkT s b) (marksOf [b.getD (n0 s) 0] (prodW s.1))) (evB b w (prodW s.1)) r := hr.congr fun x => by
      constructor
      · intro hx
        have : x < prodW s.1 := by
          obtain ⟨m, m1, _, m3⟩ := hx
          have := blkB hb m1; omega
        exact ⟨by omega, (hI x this).2 hx⟩
      · rintro ⟨h1, h2⟩
        exact (hI x (by omega)).1 h2
    rw [e]
    simp only [Option.bind_some]
    refine ⟨r, ?_, hN, ?_⟩
    · rcases hN with ⟨h1, h2⟩ | ⟨c, rfl, ⟨m, m1, m2, m3⟩, h3, h4⟩
      · rw [if_pos (by simp; omega)]
        unfold wayT
        rw [if_pos (by omega)]
        rfl
      · have hc : c < prodW s.1 := by have := blkB hb m1; omega
        have hfr := far_range (T := blkT s b) (v := marksOf [b.getD (n0 s) 0] (prodW s.1)) (x := c) (by omega)
        rw [if_neg (by simp)]
        have := specWay (v := marksOf [b.getD (n0 s) 0] (prodW s.1)) (T := blkT s b) (k := k) (by omega) (fun r h => by have := hrl r h; omega) (by omega) ((farT (blkT s b) (marksOf [b.getD (n0 s) 0] (prodW s.1))).getD c 0).toNat c k [] (by omega) (by omega) (by omega) (by simp only [List.length_nil]; omega)
        rw [List.nil_append] at this
        rw [this]
        unfold wayT
        rw [if_neg (by omega), toNat_nat, List.reverse_nil, List.append_nil, pathT_length]
        simp
    · unfold wayT
      split
      · simp
      · have hc : r.toNat < prodW s.1 := by
          rcases hN with ⟨h1, h2⟩ | ⟨c, rfl, ⟨m, m1, m2, m3⟩, h3, h4⟩
          · omega
          · have := blkB hb m1; omega
        have hfr := far_range (T := blkT s b) (v := marksOf [b.getD (n0 s) 0] (prodW s.1)) (x := r.toNat) (by omega)
        rw [pathT_length]; omega
  · obtain ⟨hl, hI⟩ := hI
    have hbj := blkB hb hj
    obtain ⟨y, hy⟩ : ∃ y : Nat, b.getD j 0 = (y : Int) := ⟨(b.getD j 0).toNat, by omega⟩
    simp (disch := omega) only [spec_BlockWay.s6, gd_t, toNat_nat, w64_id, hy, hw]
    rw [if_pos (by simpa [hbl] using hj)]
    cases hi : w.getD j false with
    | false =>
      rw [if_pos (by rfl)]
      refine ih _ ⟨by rw [List.length_set]; exact hl, fun x hx => ?_⟩
      rw [getD_set' is y x _ _ (by omega), evB_succ hi hy, ← hI x hx]
      by_cases e : x = y
      · simp [e]
      · simp [e]
    | true =>
      rw [if_neg (by simp)]
      refine ih _ ⟨hl, fun x hx => ?_⟩
      rw [evB_skip hi]; exact hI x hx
end Go.Ev

namespace Go.Ev
theorem facts_one {k : Nat} (hk : 1048577 < k) {s : SY} (E : Env k s) {p : List TM} (hp : p.length ≤ 100) : ∃ b, spec_l20Facts.f k s [p] = some (b, ()) ∧ (b = true → KindIs p s.1.length 2) := by
  obtain ⟨k', rfl⟩ : ∃ m, k = m + 1 := ⟨k - 1, by omega⟩
  obtain ⟨k2, rfl⟩ : ∃ m, k' = m + 1 := ⟨k' - 1, by omega⟩
  obtain ⟨g, g1, g2, g3⟩ := isKind_eq (k := k2 + 1 + 1) (by omega) p (s.1.length : Int) 2 (by omega) (by omega)
  have h0 : ([p] : List (List TM)).getD (0 : Int).toNat [] = p := rfl
  rw [spec_l20Facts.s, spec_l20Facts.s2, if_pos (by simp), gd_t (by omega), gd_t (by simp), h0, g2]
  simp only [Option.bind_some]
  by_cases hg : g = 2
  · rw [show (g == 2) = true by simp [hg], if_neg (by simp), show w64 (0 + 1) = 1 from w64_id (by omega) (by omega), spec_l20Facts.s2, if_neg (by simp), E.hv]
    simp only [Option.bind_some]
    rw [if_pos trivial]
    exact ⟨_, rfl, fun _ => g3 hg⟩
  · rw [show (g == 2) = false by simp [hg], if_pos (by rfl)]
    exact ⟨false, rfl, fun h => by cases h⟩
theorem BlocksBy_one {k : Nat} (hk : 1048577 < k) {s : SY} (E : Env k s) {p : List TM} (hp : p.length ≤ 100) : ∃ r, spec_BlocksBy.f k s [p] = some (r, ()) ∧ r.1.length ≤ 400 := by
  have hS := E.S
  have hsz := hS.sz
  rw [spec_BlocksBy.s]
  obtain ⟨b, e1, hb⟩ := facts_one hk E hp
  rw [e1]; simp only [Option.bind_some]
  cases b with
  | false => exact ⟨_, rfl, by simp⟩
  | true =>
    have hK := hb rfl
    rw [if_neg (by simp)]
    refine for_post (m := prodW s.1) (l := fun n v j => spec_BlocksBy.l5 k s [p] n v j) (fun j v => v.length = j ∧ ∀ r ∈ v, r.length ≤ 1) (fun x => ∃ r, x = some (r, ()) ∧ r.1.length ≤ 400) (fun n v hI => ?_) (fun n j v hj hI ih => ?_) (by omega) ⟨rfl, fun r hr => by simp at hr⟩
    · rw [spec_BlocksBy.s5, E.hz]
      simp only [Option.bind_some]
      rw [if_neg (by simp), l28Rows_eq v (fun y hy => by have := hI.2 y hy; omega) (by omega) (by omega)]
      exact ⟨_, rfl, by rw [firsts_length]; omega⟩
    · have hl := hI.1
      rw [spec_BlocksBy.s5, E.hz]
      simp only [Option.bind_some]
      rw [if_pos (by simpa using hj), l4State_eq hS E.hv j (by omega) (by omega)]
      simp only [Option.bind_some]
      rw [l20Of_eq (vars := (s.1.length : Int)) (q := 2) (fun q hq => by rw [List.mem_singleton.1 hq]; exact hK) ((stOf_StP j hS.vp).range hS.vp) (by omega) (by simp)]
      simp only [Option.bind_some]
      rw [gd_t (by simp; omega), w64_id (by omega) (by omega)]
      refine ih _ ⟨by simp; omega, fun r hr => ?_⟩
      rcases List.mem_append.1 hr with hr | hr
      · exact hI.2 r hr
      · rw [List.mem_singleton.1 hr]; simp [lettersT]
theorem l28Ask_ok {k : Nat} (hk : 1048577 < k) {b : List Int} (hb : ∀ x ∈ b, 0 ≤ x ∧ x ≤ 255) : ∃ s x p, spec_l28Ask.f k b = some ((s, (x, p)), ()) ∧ DrS s ∧ x.length ≤ 400 ∧ p.length ≤ 41 := by
  rw [spec_l28Ask.s]
  obtain ⟨r, s, x, e1, h, hs, hx⟩ := l28Draw_ok hk hb
  rw [e1]; simp only [Option.bind_some]
  have hv4 := hs.vars
  have any : ∀ {r : List Int × Int} {c : Nat}, RdOk r c → c ≤ 20001 → ∃ s' x' p, ((spec_l1Any.f k r (s.1.length : Int)).bind fun r2 => some ((s, (x, r2.1)), ())) = some ((s', (x', p)), ()) ∧ DrS s' ∧ x'.length ≤ 400 ∧ p.length ≤ 41 := by
    intro r c h hc
    obtain ⟨t, r2, e2, _, ht⟩ := l1Any_ok (k := k) (by omega) h (by omega) (vars := (s.1.length : Int)) (by omega) (by omega)
    rw [e2]
    exact ⟨_, _, _, rfl, hs, hx, (by show t.length ≤ 41; omega)⟩
  split
  · exact any h (by omega)
  · rename_i h0
    have h0 : s.1.length ≠ 0 := fun e => h0 (by simp [e])
    rw [gd_t (by omega), gd_t (by omega)]
    obtain ⟨v, e2, _⟩ := l2Var_tot k (s.1.getD (Int.toNat 0) (0, (0, 0)))
    rw [e2]; simp only [Option.bind_some]
    split
    · exact any h (by omega)
    obtain ⟨v3, e3, _⟩ := pick_ok (k := k) h (by omega) 16
    rw [e3]; simp only [Option.bind_some]
    have h := h.next
    split
    · exact any h (by omega)
    rw [gd_t (by omega), gd_t (by omega), gd_t (by omega)]
    obtain ⟨t, r4, e4, h, ht⟩ := l2WhenS_ok (k := k) (by omega) h (by omega) (vs := (s.1.take (Int.toNat 1)).drop (Int.toNat 0)) (by
      show (List.drop 0 (List.take 1 s.1)).length ≠ 0
      rw [List.drop_zero, List.length_take]; omega)
    rw [e4]; simp only [Option.bind_some]
    rcases sys_env (k := k) (by omega) s hs.big hs.sm with E | ⟨e5, _, _⟩
    · rw [E.hv]; simp only [Option.bind_some]
      rw [if_pos trivial]
      obtain ⟨v6, e6, _⟩ := pick_ok (k := k) h (by omega) 2
      rw [e6]; simp only [Option.bind_some]
      split
      · obtain ⟨q, e7, hq⟩ := BlocksBy_one hk E (p := t) (by omega)
        rw [e7]
        exact ⟨_, _, _, rfl, hs, hq, ht⟩
      · exact ⟨_, _, _, rfl, hs, hx, ht⟩
    · rw [e5]
      exact ⟨_, _, _, rfl, hs, hx, ht⟩
theorem BlockWay_tot {k : Nat} (hk : 5000000 < k) {s : SY} (hs : DrS s) {b : List Int} (hb : b.length ≤ 400) {p : List TM} (hp : p.length ≤ 41) : ∃ r, spec_BlockWay.f k s b p = some (r, ()) ∧ r.1.length ≤ 401 := by
  rw [spec_BlockWay.s]
  obtain ⟨g, g1, g2, g3⟩ := isKind_eq (k := k) (by omega) p (s.1.length : Int) 2 (by omega) (by omega)
  rcases blocks_cases0 (k := k) (by omega) s b hs.big hs.sm (by omega) with ⟨e1, _⟩ | ⟨e1, _, E, hB⟩
  · rw [e1]; exact ⟨([], false), rfl, by simp⟩
  · rw [e1]; simp only [Option.bind_some]
    rw [if_neg (by simp), g2]; simp only [Option.bind_some]
    by_cases hg : g = 2
    · have hK := g3 hg
      have hi : spec_l2Is.f k p (s.1.length : Int) 2 = some (true, ()) := by rw [g2, hg]; rfl
      have hbl := hB.len
      have hsz := E.S.sz
      rw [show (g == 2) = true by simp [hg], if_neg (by simp), l15Good_eq E hK hi (by omega)]
      simp only [Option.bind_some]
      obtain ⟨r, q1, _, q3⟩ := specBlockWay E hB (whereT_length s p) hk
      rw [gd_t (by omega), gd_t (by omega), toNat_nat, hbl, q1]
      exact ⟨_, rfl, q3⟩
    · rw [show (g == 2) = false by simp [hg], if_pos (by rfl)]
      exact ⟨([], false), rfl, by simp⟩
theorem l29Draw_ok {k : Nat} (hk : 5000000 < k) {b : List Int} (hb : ∀ x ∈ b, 0 ≤ x ∧ x ≤ 255) : ∃ s x w p, spec_l29Draw.f k b = some ((s, (x, (w, p))), ()) ∧ DrS s ∧ x.length ≤ 400 ∧ w.length ≤ 401 := by
  obtain ⟨k', rfl⟩ : ∃ m, k = m + 1 := ⟨k - 1, by omega⟩
  rw [spec_l29Draw.s]
  obtain ⟨s, x, p, e1, hs, hx, hp⟩ := l28Ask_ok (k := k' + 1) (by omega) hb
  rw [e1]; simp only [Option.bind_some]
  obtain ⟨r, e2, h⟩ := l40Open_ok (k := k' + 1) hb
  rw [e2]; simp only [Option.bind_some]
  obtain ⟨w, e3, hw⟩ := BlockWay_tot hk hs hx hp
  rw [e3]; simp only [Option.bind_some]
  have loop : ∀ (d n : Nat) (r : List Int × Int) (c : Nat) (v : List Int), d < n → RdOk r c → c + 2 * d ≤ 100 → v.length + d ≤ 10 → ∃ s' x' w' p', spec_l29Draw.l7 (k' + 1) s x p n r v (d : Int) = some ((s', (x', (w', p'))), ()) ∧ DrS s' ∧ x'.length ≤ 400 ∧ w'.length ≤ 401 := by
    intro d
    induction d with
    | zero =>
      intro n r c v hn h hc hv
      obtain ⟨n, rfl⟩ : ∃ m, n = m + 1 := ⟨n - 1, by omega⟩
      rw [spec_l29Draw.s7, if_neg (by simp)]
      exact ⟨_, _, _, _, rfl, hs, hx, by omega⟩
    | succ d ih =>
      intro n r c v hn h hc hv
      obtain ⟨n, rfl⟩ : ∃ m, n = m + 1 := ⟨n - 1, by omega⟩
      have hw : w64 (((d + 1 : Nat) : Int) - 1) = (d : Int) := by rw [w64_id (by omega) (by omega)]; omega
      rw [spec_l29Draw.s7, if_pos (by simp), hw]
      split
      · rename_i h0
        have h0 : 0 < x.length := by simpa using h0
        obtain ⟨v4, e4, g0, g1, _⟩ := pick_ok (k := k' + 1) h (by omega) (x.length : Int)
        have g1 := g1 (by omega)
        rw [e4]; simp only [Option.bind_some]
        have h := h.next
        obtain ⟨q, eq⟩ : ∃ q, spec_BlocksValid.f (k' + 1) s x = some (q, ()) := by
          rcases blocks_cases0 (k := k' + 1) (by omega) s x hs.big hs.sm (by omega) with ⟨e, _⟩ | ⟨e, _⟩
          · exact ⟨_, e⟩
          · exact ⟨_, e⟩
        rw [eq]; simp only [Option.bind_some]
        split
        · obtain ⟨v5, e5, _⟩ := pick_ok (k := k' + 1) h (by omega) 16
          rw [e5]; simp only [Option.bind_some]
          have h := h.next
          split
          · rw [gd_t g0, gd_t g1, gd_t (by simp; omega)]
            exact ih n _ _ _ (by omega) h (by omega) (by simp; omega)
          · rw [gd_t (by simp; omega)]
            exact ih n _ _ _ (by omega) h (by omega) (by simp; omega)
        · rw [gd_t (by simp; omega)]
          exact ih n _ _ _ (by omega) h (by omega) (by simp; omega)
      · exact ⟨_, _, _, _, rfl, hs, hx, by omega⟩
  have j5 : ∀ (r : List Int × Int) (c : Nat) (q : Bool), RdOk r c → c ≤ 10 → ∃ s' x' w' p', spec_l29Draw.lj5 (k' + 1) (k' + 1) s x p r w.1 q = some ((s', (x', (w', p'))), ()) ∧ DrS s' ∧ x'.length ≤ 400 ∧ w'.length ≤ 401 := by
    intro r c q h hc
    rw [spec_l29Draw.sj5]
    split
    · obtain ⟨v4, e4, g0, g1, _⟩ := pick_ok (k := k' + 1) h (by omega) 4
      have g1 := g1 (by omega)
      rw [e4]; simp only [Option.bind_some]
      obtain ⟨m, rfl⟩ := Int.eq_ofNat_of_zero_le g0
      rw [show w64 (1 + (m : Int)) = ((m + 1 : Nat) : Int) by rw [w64_id (by omega) (by omega)]; omega]
      exact loop (m + 1) (k' + 1) _ _ [] (by omega) h.next (by omega) (by simp; omega)
    · exact ⟨_, _, _, _, rfl, hs, hx, hw⟩
  split
  · exact j5 _ _ _ h (by omega)
  · obtain ⟨v4, e4, _⟩ := pick_ok (k := k' + 1) h (by omega) 4
    rw [e4]; simp only [Option.bind_some]
    exact j5 _ _ _ h.next (by omega)
end Go.Ev

namespace Go.Ev
theorem NextNumbers_set {k : Nat} (hk : 1048577 < k) {s : SY} (E : Env k s) {p : List Int} (hp : SetN (prodW s.1) p) : impl_NextNumbers.f k s p = some (listT (behT (stepsT s) (marksOf p (prodW s.1))), ()) := by
  have hS := E.S
  have hsz := hS.sz
  have htl := stepsT_length s
  have hpl := hp.len
  obtain ⟨g, g1, g2⟩ := setOk_l (k := k) p ((prodW s.1 : Nat) : Int) (by omega) (by omega) (by omega)
  have e1 := g2.2 ⟨rfl, asc_SetAt hp.asc _ hp.bd⟩
  rw [impl_NextNumbers.s, impl_SetValid.s, E.iv]
  simp only [Option.bind_some]
  rw [if_pos trivial, E.iz]
  simp only [Option.bind_some]
  rw [g1, e1]
  simp only [Option.bind_some]
  rw [if_neg (by simp), nexts_eq hS E.iz (by omega)]
  simp only [Option.bind_some]
  rw [over_eq (stepsT_tab hS) (by omega) (fun r hr => by have := stepsT_rows hS r hr; omega) (fun x hx => by have := hp.bd x hx; omega) (by omega) (by omega), htl]
  rfl
theorem FollowBlocks_eq2 {k : Nat} (hk : 1048577 < k) (s : SY) (b way : List Int) (hb : BigS s) (hs : SmS s) (hbl : b.length ≤ 1048576) (hw : way.length ≤ 1048576) :
    (spec_FollowBlocks.f k s b way = some ([], ()) ∧ impl_FollowBlocks.f k s b way = some ([], ())) ∨
    (spec_FollowBlocks.f k s b way = some (folT (stepsT s) b way [(n0 s : Int)], ()) ∧ impl_FollowBlocks.f k s b way = some (folT (stepsT s) b way [(n0 s : Int)], ()) ∧ Env k s ∧ BlkP (prodW s.1) b) := by
  rw [spec_FollowBlocks.s, impl_FollowBlocks.s]
  rcases blocks_cases (k := k) (by omega) s b hb hs hbl with ⟨e1, e2⟩ | ⟨e1, e2, E, hB⟩
  · rw [spec_l29Way.s, e1, e2]
    exact .inl ⟨rfl, rfl⟩
  · obtain ⟨c, c1, c2⟩ := l29Way_eq s b way e1 hbl hw (by omega)
    obtain ⟨d, d1, d2⟩ := wayOk_eq (k := k) b way hbl hw (by omega)
    have hcd : c = d := by rw [Bool.eq_iff_iff, c2, d2]
    subst hcd
    rw [c1, e2, d1]
    simp only [Option.bind_some]
    cases c with
    | false => exact .inl ⟨rfl, rfl⟩
    | true =>
      have hW := c2.1 rfl
      have hsm := fol_sm E.S b way hW.1.2
      rw [l29Follow_eq E hB way hW.1.2 hk, followBlocks_eq E hB way hW.1.2 hk]
      simp only [Option.bind_some]
      refine .inr ⟨?_, rfl, E, hB⟩
      rw [if_neg (by simp)]
      obtain ⟨R, hR⟩ : ∃ R, R = folT (stepsT s) b way [(n0 s : Int)] := ⟨_, rfl⟩
      rw [← hR] at hsm ⊢
      have hl := hsm.1
      refine push_loop (l := fun n v j => spec_FollowBlocks.l6 k n v R j) (ys := R) (m := R.length) rfl (fun n j v hj hv => ?_) (fun n => ?_) (by omega)
      · simp (disch := omega) only [spec_FollowBlocks.s6, gd_t, toNat_nat, getD_get hj, w64_id, l3Copy_eq _ (hsm.2 _ (List.getElem_mem hj)) (show 1048576 < k by omega), Option.bind_some]
        rw [if_pos (by simpa using hj), gd_t (by simp; omega)]
      · rw [spec_FollowBlocks.s6, if_neg (by simp)]
theorem fol_at {T : List (List Int)} {b : List Int} : ∀ (ws now : List Int) (j : Nat), j < (folT T b ws now).length → j < ws.length ∧ ∃ now', (folT T b ws now).getD j [] = inB b (ws.getD j 0) now' ∧ (j = 0 → now' = now) ∧ (0 < j → now' = goT T ((folT T b ws now).getD (j - 1) []))
  | [], now, j, h => by simp [folT] at h
  | w :: ws, now, j, h => by
    unfold folT at h ⊢
    split at h
    · simp at h
    · rename_i hne
      rw [if_neg hne]
      cases j with
      | zero => exact ⟨by simp, now, by simp [List.getD_eq_getElem?_getD], fun _ => rfl, fun h => by omega⟩
      | succ j =>
        obtain ⟨h1, now', h2, h3, h4⟩ := fol_at (T := T) (b := b) ws (goT T (inB b w now)) j (by simp only [List.length_cons] at h; omega)
        refine ⟨by simp only [List.length_cons]; omega, now', by simpa [List.getD_eq_getElem?_getD] using h2, fun h => by omega, fun _ => ?_⟩
        cases j with
        | zero => rw [h3 rfl]; simp [List.getD_eq_getElem?_getD]
        | succ j => rw [h4 (by omega)]; simp [List.getD_eq_getElem?_getD]
theorem mem_goT {T : List (List Int)} {p : List Int} {x : Int} (h : x ∈ goT T p) : 0 ≤ x ∧ x < (T.length : Int) ∧ ∃ m : Nat, m < T.length ∧ (m : Int) ∈ p ∧ x ∈ T.getD m [] := by
  obtain ⟨i, hi, hib, rfl⟩ := mem_listT.1 h
  rw [behT_length] at hi
  obtain ⟨m, m1, m2, m3⟩ := (behT_getD hi).1 hib
  exact ⟨by omega, by omega, m, m1, (marksOf_getD m1).1 m2, m3⟩
theorem fol_reach {s : SY} (hS : SysP s) {b way : List Int} : ∀ (j : Nat), j < (folT (stepsT s) b way [(n0 s : Int)]).length → ∀ x ∈ (folT (stepsT s) b way [(n0 s : Int)]).getD j [], 0 ≤ x ∧ x < (prodW s.1 : Int) ∧ RchT (stepsT s) (marksOf [((n0 s : Nat) : Int)] (prodW s.1)) x.toNat
  | 0, hj, x, hx => by
    obtain ⟨_, now, h1, h2, _⟩ := fol_at way [(n0 s : Int)] 0 hj
    rw [h1, h2 rfl] at hx
    have := (mem_inB.1 hx).1
    rw [mem_one] at this
    subst this
    have hN := n0_lt hS
    exact ⟨by omega, by omega, RchT.start (by rw [stepsT_length, toNat_nat]; exact hN) (by rw [toNat_nat]; exact (marksOf_getD hN).2 (by rw [mem_one]))⟩
  | j + 1, hj, x, hx => by
    obtain ⟨_, now, h1, _, h3⟩ := fol_at way [(n0 s : Int)] (j + 1) hj
    rw [h1, h3 (by omega)] at hx
    obtain ⟨a1, a2, m, m1, m2, m3⟩ := mem_goT (mem_inB.1 hx).1
    rw [stepsT_length] at a2 m1
    obtain ⟨_, _, r⟩ := fol_reach hS (b := b) (way := way) j (by omega) (m : Int) m2
    rw [toNat_nat] at r
    exact ⟨a1, a2, r.step (by rw [stepsT_length]; exact m1) (by rw [stepsT_length]; omega) (by rw [show ((x.toNat : Nat) : Int) = x by omega]; exact m3)⟩
theorem FnFollowBlocks_true (code : List Int) (hw : Wf (.slice false (.int .u8)) code) : ∃ k, laws_FnFollowBlocks.f k code = some (true, ()) := by
  have hbt : ∀ x ∈ code, 0 ≤ x ∧ x ≤ 255 := fun x hx => hw.2 x hx
  refine ⟨5000001, ?_⟩
  generalize hk : 5000001 = k
  rw [laws_FnFollowBlocks.s]
  by_cases h1 : (code.length : Int) > 1048576
  · rw [if_pos (by simpa using h1)]
  rw [if_neg (by simpa using h1)]
  obtain ⟨s, b, way, q, e1, hs, hb, hwl⟩ := l29Draw_ok (k := k) (by omega) hbt
  rw [spec_DrawFollowBlocks.s, e1]; simp only [Option.bind_some]
  have wc : ∀ l : List Int, l.length ≤ 4000 → laws_wcInts.f k l l = some (true, ()) := fun l hl => by
    rw [wcInts_eq (by omega) (by omega)]; simp
  obtain ⟨g, g1, g2, _⟩ := BlocksValid_eq (k := k) (by omega) s b hs.big hs.sm (by omega)
  rcases FollowBlocks_eq2 (k := k) (by omega) s b way hs.big hs.sm (by omega) (by omega) with ⟨e2, e3⟩ | ⟨e2, e3, E, hB⟩
  · obtain ⟨k', rfl⟩ : ∃ m, k = m + 1 := ⟨k - 1, by omega⟩
    rw [e3, e2]; simp only [Option.bind_some]
    rw [if_neg (by simp), g2, g1]
    simp only [Option.bind_some]
    rw [if_neg (by simp), laws_FnFollowBlocks.s9, if_neg (by simp)]
    simp
  · have hS := E.S
    have hsz := hS.sz
    have hN := n0_lt hS
    have htl := stepsT_length s
    have hsets := folT_sets (T := stepsT s) (b := b) way [(n0 s : Int)] ⟨by simp [Asc], fun x hx => by rw [mem_one] at hx; omega⟩
    have hat := fol_at (T := stepsT s) (b := b) way [(n0 s : Int)]
    have hrch := fol_reach hS (b := b) (way := way)
    rw [e3, e2]; simp only [Option.bind_some]
    generalize folT (stepsT s) b way [(n0 s : Int)] = R at hsets hat hrch ⊢
    have hset : ∀ j, j < R.length → SetN (prodW s.1) (R.getD j []) := fun j hj => by
      rw [getD_get hj, ← htl]; exact (hsets.2 _ (List.getElem_mem hj)).1
    have r1 := rsT_length s
    have r2 := listT_length (rsT s)
    rw [if_neg (by simp), g2, g1]
    simp only [Option.bind_some]
    rw [if_neg (by simp)]
    have hRl := hsets.1
    refine for_post (m := R.length) (l := fun n (_ : Unit) j => laws_FnFollowBlocks.l9 k n s b way R R (R.length : Int) j) (fun j _ => True) (fun x => x = some (true, ())) (fun n _ hI => ?_) (fun n j _ hj hI ih => ?_) (s := ()) (by omega) trivial
    · rw [laws_FnFollowBlocks.s9, if_neg (by simp), decide_eq_true (by omega)]
    · have hSj := hset j hj
      have hSl := hSj.len
      obtain ⟨hjw, now, hn1, _, hn3⟩ := hat j hj
      have hall : ∀ y ∈ R.getD j [], b.getD y.toNat 0 = way.getD j 0 := fun y hy => by
        rw [hn1] at hy
        exact (mem_inB.1 hy).2
      have l16 : laws_FnFollowBlocks.l16 k n s (R.length : Int) (j : Int) b way R R k 0 = some (true, ()) := by
        refine for_post (m := (R.getD j []).length) (l := fun q (_ : Unit) i => laws_FnFollowBlocks.l16 k n s (R.length : Int) (j : Int) b way R R q i) (fun i _ => True) (fun x => x = some (true, ())) (fun q _ hI => ?_) (fun q i _ hi hI ih2 => ?_) (s := ()) (by omega) trivial
        · rw [laws_FnFollowBlocks.s16, toNat_nat, if_neg (by simp), w64_id (by omega) (by omega)]
          exact ih () trivial
        · have hbd := hSj.bd _ (List.getElem_mem hi)
          have hbl := hB.len
          have hv : b.getD (R.getD j [])[i].toNat 0 = way.getD j 0 := hall _ (List.getElem_mem hi)
          simp only [laws_FnFollowBlocks.s16, toNat_nat]
          rw [if_pos (by simpa [-List.getD_eq_getElem?_getD] using hi), getD_get hi, gd_t (by omega), gd_t (by omega), gd_t (by omega), gd_t (by omega), gd_t (by omega), gd_t (by omega), hv, if_neg (by simp), w64_id (by omega) (by omega)]
          exact ih2 () trivial
      rw [laws_FnFollowBlocks.s9, if_pos (by simpa using hj), gd_t (by omega), gd_t (by omega), gd_t (by omega), gd_t (by omega), toNat_nat, wc _ (by omega)]
      simp only [Option.bind_some]
      rw [if_neg (by simp), ReachOf_eq (by omega) E]
      simp only [Option.bind_some]
      have b400 : ∀ {p : List Int}, SetN (prodW s.1) p → ∀ x ∈ p, 0 ≤ x ∧ x < 400 := fun hp x hx => by have := hp.bd x hx; omega
      rw [without_nil (k := k) (by omega) hSj.asc (listT_asc _) (b400 hSj) (listT_bd (n := 400) (by omega)) (by omega) (by omega) (fun x hx => by
        obtain ⟨x0, x1, hr⟩ := hrch j hj x hx
        have e : ((x.toNat : Nat) : Int) = x := by omega
        rw [← e]
        exact (mem_listT' (by omega)).2 ((rchT_get (by omega)).2 hr))]
      simp only [Option.bind_some]
      rw [if_neg (by simp)]
      by_cases h0 : 0 < j
      · have hSp := hset (j - 1) (by omega)
        have hSpl := hSp.len
        have hw1 : w64 ((j : Int) - 1) = ((j - 1 : Nat) : Int) := by rw [w64_id (by omega) (by omega)]; omega
        have bl := behT_length (stepsT s) (marksOf (R.getD (j - 1) []) (prodW s.1))
        have bt := listT_length (behT (stepsT s) (marksOf (R.getD (j - 1) []) (prodW s.1)))
        rw [if_pos (by simp; omega), hw1, gd_t (by omega), gd_t (by omega), toNat_nat, NextNumbers_set (by omega) E hSp]
        simp only [Option.bind_some]
        rw [without_nil (k := k) (by omega) hSj.asc (listT_asc _) (b400 hSj) (listT_bd (n := 400) (by omega)) (by omega) (by omega) (fun x hx => by
          rw [hn1, hn3 h0] at hx
          have := (mem_inB.1 hx).1
          unfold goT at this
          rw [htl] at this
          exact this)]
        simp only [Option.bind_some]
        rw [if_neg (by simp)]
        exact l16
      · rw [if_neg (by simp; omega)]
        exact l16
end Go.Ev
