/- Plain mathematics on what the functions compute. -/
import Derived.Test.YtphlehimeekgoaaGreatP1
import Derived.Test.YtphlehimeekgoaaGreatEv4
import Derived.IntWalk
import Derived.Lib.SlicesCompact
set_option linter.unusedVariables false
set_option linter.unusedSimpArgs false
namespace Go.Ev

theorem half_eq {a b : Nat} (h : a + b ≤ 1099511627776) : w64 ((IntKind.u64.wrap (w64 ((a : Int) + (b : Int)))).fdiv (2 ^ (min (Int.toNat 1) IntKind.u64.bits))) = (((a + b) / 2 : Nat) : Int) := by
  have e1 : w64 ((a : Int) + b) = ((a + b : Nat) : Int) := by rw [w64_id (by omega) (by omega)]; omega
  have e2 : IntKind.u64.wrap ((a + b : Nat) : Int) = ((a + b : Nat) : Int) := by
    have : IntKind.u64.wrap ((a + b : Nat) : Int) = ((a + b : Nat) : Int) % 18446744073709551616 := rfl
    rw [this]; omega
  have e3 : (2 : Int) ^ (min (Int.toNat 1) IntKind.u64.bits) = 2 := by decide
  rw [e1, e2, e3]
  have e4 : ((a + b : Nat) : Int).fdiv 2 = (((a + b) / 2 : Nat) : Int) := by
    rw [Int.fdiv_eq_ediv_of_nonneg _ (by decide)]; omega
  rw [e4, w64_id (by omega) (by omega)]
/-- The program looks for a list among lists in order. -/
theorem BinarySearch_eq {k : Nat} (p : List (List Int)) (x : List Int) (f : List Int × List Int × Unit → Option Int) (hf : ∀ y ∈ p, f (y, x, ()) = some (cmpL y x)) (hp : SortedL p) (hl : p.length ≤ 1048576) (hk : 1048576 < k) :
    ∃ i : Nat, i ≤ p.length ∧ slices_BinarySearchFunc_int_int_int.f k p x f = some (((i : Int), decide (x ∈ p)), ()) ∧ (∀ y ∈ p.take i, cmpL y x < 0) ∧ (∀ y ∈ p.drop i, 0 ≤ cmpL y x) := by
  rw [slices_BinarySearchFunc_int_int_int.s]
  have hs : ∀ i j (hi : i < p.length) (hj : j < p.length), i < j → cmpL p[i] p[j] < 0 := fun i j hi hj h => List.pairwise_iff_getElem.1 hp i j hi hj h
  refine while_post (l := fun n (s : Nat × Nat) => slices_BinarySearchFunc_int_int_int.l3 k p x f n (s.1 : Int) (s.2 : Int)) (μ := fun s => s.2 - s.1)
    (I := fun s => s.1 ≤ s.2 ∧ s.2 ≤ p.length ∧ (∀ j (h : j < p.length), j < s.1 → cmpL p[j] x < 0) ∧ (∀ j (h : j < p.length), s.2 ≤ j → 0 ≤ cmpL p[j] x))
    (Q := fun r => ∃ i : Nat, i ≤ p.length ∧ r = some (((i : Int), decide (x ∈ p)), ()) ∧ (∀ y ∈ p.take i, cmpL y x < 0) ∧ (∀ y ∈ p.drop i, 0 ≤ cmpL y x)) (fun n s hI ih => ?_) (s := (0, p.length)) (by simp; omega) ⟨by simp, by simp, fun j _ h => by simp at h, fun j h h' => by simp at h'; omega⟩
  obtain ⟨lo, hi⟩ := s
  obtain ⟨h1, h2, h3, h4⟩ := hI
  dsimp only at h1 h2 h3 h4 ih ⊢
  rw [slices_BinarySearchFunc_int_int_int.s3]
  by_cases hlt : lo < hi
  · have hm : (lo + hi) / 2 < p.length := by omega
    rw [if_pos (by simpa using hlt), half_eq (by omega)]
    simp (disch := omega) only [gd_t, toNat_nat, getD_get hm, hf _ (List.getElem_mem hm), Option.bind_some]
    by_cases hc : cmpL p[(lo + hi) / 2] x < 0
    · rw [if_pos (by simpa using hc)]
      have := ih ((lo + hi) / 2 + 1, hi) ⟨by dsimp only; omega, h2, fun j hj h => ?_, h4⟩ (by dsimp only; omega)
      · dsimp only at this
        rwa [show w64 ((((lo + hi) / 2 : Nat) : Int) + 1) = (((lo + hi) / 2 + 1 : Nat) : Int) by rw [w64_id (by omega) (by omega)]; omega]
      · dsimp only at h
        by_cases e : j = (lo + hi) / 2
        · subst e; exact hc
        · exact cmpL_trans (hs j _ hj hm (by omega)) hc
    · rw [if_neg (by simpa using hc)]
      have := ih (lo, (lo + hi) / 2) ⟨by dsimp only; omega, by dsimp only; omega, h3, fun j hj h => ?_⟩ (by dsimp only; omega)
      · exact this
      · dsimp only at h
        by_cases e : j = (lo + hi) / 2
        · subst e; omega
        · have := hs _ j hm hj (by omega)
          rcases (by omega : cmpL p[j] x < 0 ∨ 0 ≤ cmpL p[j] x) with g | g
          · exact absurd (cmpL_trans this g) hc
          · exact g
  · have e : lo = hi := by omega
    subst e
    rw [if_neg (by simp)]
    have ht : ∀ y ∈ p.take lo, cmpL y x < 0 := fun y hy => by
      obtain ⟨i, hi, rfl⟩ := List.mem_take_iff_getElem.1 hy
      exact h3 i (by omega) (by omega)
    have hd : ∀ y ∈ p.drop lo, 0 ≤ cmpL y x := fun y hy => by
      obtain ⟨i, hi, rfl⟩ := List.mem_drop_iff_getElem.1 hy
      exact h4 _ _ (by omega)
    have hnot : (∀ y ∈ p.drop lo, cmpL y x ≠ 0) → x ∉ p := fun h hx => by
      rw [← List.take_append_drop lo p] at hx
      rcases List.mem_append.1 hx with hx | hx
      · have := ht x hx
        have h0 : cmpL x x = 0 := cmpL_zero.2 rfl
        omega
      · exact h x hx (cmpL_zero.2 rfl)
    by_cases hlen : lo < p.length
    · rw [if_pos (by simpa using hlen)]
      simp (disch := omega) only [gd_t, toNat_nat, getD_get hlen, hf _ (List.getElem_mem hlen), Option.bind_some]
      refine ⟨lo, h2, ?_, ht, hd⟩
      by_cases hz : cmpL p[lo] x = 0
      · have : x ∈ p := by rw [← cmpL_zero.1 hz]; exact List.getElem_mem hlen
        simp [hz, this]
      · have : x ∉ p := hnot fun y hy => by
          obtain ⟨i, hi, rfl⟩ := List.mem_drop_iff_getElem.1 hy
          by_cases e : i = 0
          · subst e; simpa using hz
          · have g1 := h4 lo hlen (Nat.le_refl _)
            have g2 := hs lo (lo + i) hlen (by omega) (by omega)
            intro h0
            have := cmpL_zero.1 h0
            rw [this] at g2
            have := cmpL_range p[lo] x
            omega
        simp [this, beq_false_of_ne hz]
    · rw [if_neg (by simpa using hlen)]
      have : x ∉ p := hnot fun y hy => by rw [List.drop_eq_nil_of_le (by omega)] at hy; simp at hy
      exact ⟨lo, h2, by simp [this], ht, hd⟩
/-- To put in at the place found is to put in in order. -/
theorem insert_putL {p : List (List Int)} {x : List Int} {i : Nat} (h1 : ∀ y ∈ p.take i, cmpL y x < 0) (h2 : ∀ y ∈ p.drop i, 0 ≤ cmpL y x) (hx : x ∉ p) : p.take i ++ [x] ++ p.drop i = putL x p := by
  conv => rhs; rw [← List.take_append_drop i p]
  rw [putL_prefix fun y hy => by have := h1 y hy; rw [cmpL_swap]; omega, List.append_assoc]
  congr 1
  cases hd : p.drop i with
  | nil => rfl
  | cons y ys =>
    have h := h2 y (by rw [hd]; simp)
    have hne : cmpL y x ≠ 0 := fun e => hx (by
      rw [← cmpL_zero.1 e]
      exact List.mem_of_mem_drop (i := i) (by rw [hd]; simp))
    have hs := cmpL_swap y x
    rw [putL, if_neg (by omega), if_pos (by omega)]
    rfl
theorem putL_mem {p : List (List Int)} {x : List Int} (hp : SortedL p) (hx : x ∈ p) : putL x p = p := by
  induction p with
  | nil => cases hx
  | cons y ys ih =>
    have hc : (∀ z ∈ ys, cmpL y z < 0) ∧ SortedL ys := List.pairwise_cons.1 hp
    rw [putL]
    rcases List.mem_cons.1 hx with rfl | hx
    · rw [if_pos (cmpL_zero.2 rfl)]
    · have := hc.1 x hx
      have hs := cmpL_swap y x
      rw [if_neg (by omega), if_neg (by omega), ih hc.2 hx]
end Go.Ev


set_option linter.unusedVariables false
set_option linter.unusedSimpArgs false
namespace Go.Ev

/-! ### steps -/
def InB (vs : List VA) (st : List Int) (i : Nat) : Prop := ∃ (h : i < vs.length) (h' : i < st.length), vs[i].1 ≤ st[i] ∧ st[i] ≤ vs[i].2.1
theorem StP_InB {vs : List VA} {st : List Int} (hl : st.length = vs.length) : StP vs st ↔ ∀ i, i < vs.length → InB vs st i := by
  rw [StP_iff]
  exact ⟨fun h i hi => ⟨hi, by omega, h.2 i hi (by omega)⟩, fun h => ⟨hl, fun i hi hi' => by obtain ⟨_, _, h⟩ := h i hi; exact h⟩⟩
open Classical in
theorem l2In_eq {k : Nat} (s : SY) (st : List Int) (hv : s.1.length ≤ 1048576) (hst : st.length ≤ 1048576) (hk : 1048576 < k) : spec_l2In.f k s st = some (decide (StP s.1 st), ()) := by
  rw [spec_l2In.s]
  by_cases hl : st.length = s.1.length
  · rw [if_neg (by simp [hl])]
    have := check_loop (l := fun n j => spec_l2In.l4 k s st n j) (m := st.length) (b0 := true) (r := ()) (InB s.1 st) (fun n j hj hI => ?_) (fun n hI => ?_) (k := k) (by omega)
    · obtain ⟨b, h1, h2⟩ := this
      refine h1.trans ?_
      have : b = decide (StP s.1 st) := by
        rw [Bool.eq_iff_iff, h2, decide_eq_true_iff, StP_InB hl, ← hl]; simp
      rw [this]
    · have hj' : j < s.1.length := by omega
      simp (disch := omega) only [spec_l2In.s4, getD_get hj, getD_get hj', w64_id, toNat_nat, gd_t, spec_in_eq, Option.bind_some]
      rw [if_pos (by simpa using hj)]
      by_cases h : s.1[j].1 ≤ st[j] ∧ st[j] ≤ s.1[j].2.1
      · exact .inl ⟨⟨hj', hj, h⟩, by rw [if_neg (by simp; omega)]⟩
      · exact .inr ⟨fun ⟨_, _, h'⟩ => h h', by rw [if_pos (by simp; omega)]⟩
    · simp [spec_l2In.s4]
  · rw [if_pos (by simp; omega)]
    have : ¬ StP s.1 st := fun h => hl h.length
    simp [this]
open Classical in
theorem inRange_eq {k : Nat} (s : SY) (st : List Int) (hv : s.1.length ≤ 1048576) (hst : st.length ≤ 1048576) (hk : 1048576 < k) : impl_inRange.f k s st = some (decide (StP s.1 st), ()) := by
  rw [impl_inRange.s]
  by_cases hl : st.length = s.1.length
  · rw [if_neg (by simp [hl])]
    have := check_loop (l := fun n j => impl_inRange.l4 k s st n j) (m := s.1.length) (b0 := true) (r := ()) (InB s.1 st) (fun n j hj hI => ?_) (fun n hI => ?_) (k := k) (by omega)
    · obtain ⟨b, h1, h2⟩ := this
      refine h1.trans ?_
      have : b = decide (StP s.1 st) := by
        rw [Bool.eq_iff_iff, h2, decide_eq_true_iff, StP_InB hl]; simp
      rw [this]
    · have hj' : j < st.length := by omega
      simp (disch := omega) only [impl_inRange.s4, getD_get hj, getD_get hj', w64_id, toNat_nat, gd_t, impl_in_eq, Option.bind_some]
      rw [if_pos (by simpa using hj)]
      by_cases h : s.1[j].1 ≤ st[j] ∧ st[j] ≤ s.1[j].2.1
      · exact .inl ⟨⟨hj, hj', h⟩, by rw [if_neg (by simp; omega)]⟩
      · exact .inr ⟨fun ⟨_, _, h'⟩ => h h', by rw [if_pos (by simp; omega)]⟩
    · simp [impl_inRange.s4]
  · rw [if_pos (by simp; omega)]
    have : ¬ StP s.1 st := fun h => hl h.length
    simp [this]
/-- What a rule makes of a state, range or not. -/
def setsT (r : RU) (st : List Int) (n : Nat) : List Int := (List.range n).foldl (fun out i => out.set ((r.2.1.getD i 0).toNat) (evalT (r.2.2.getD i []) st)) st
theorem setsT_succ (r : RU) (st : List Int) (n : Nat) : setsT r st (n + 1) = (setsT r st n).set ((r.2.1.getD n 0).toNat) (evalT (r.2.2.getD n []) st) := by simp [setsT, List.range_succ, List.foldl_append]
theorem setsT_length (r : RU) (st : List Int) : ∀ n, (setsT r st n).length = st.length
  | 0 => by simp [setsT]
  | n + 1 => by rw [setsT_succ, List.length_set, setsT_length r st n]
open Classical in
noncomputable def useT (s : SY) (st : List Int) (r : RU) : Option (List Int) := if evalT r.1 st = 0 then none else if StP s.1 (setsT r st r.2.1.length) then some (setsT r st r.2.1.length) else none
theorem useT_StP {s : SY} {st x : List Int} {r : RU} (h : useT s st r = some x) : StP s.1 x := by
  unfold useT at h
  split at h
  · cases h
  · split at h
    · rename_i h1; injection h with h; rw [← h]; exact h1
    · cases h
theorem use_facts {s : SY} {st : List Int} (hS : SysP s) (hst : StP s.1 st) {r : RU} (hr : RuleP r s.1.length) : StR st s.1.length ∧ KindIs r.1 s.1.length 2 ∧ r.2.1.length = r.2.2.length ∧ r.2.1.length ≤ 5 ∧
    (∀ j (h : j < r.2.1.length) (h' : j < r.2.2.length), 0 ≤ r.2.1[j] ∧ r.2.1[j].toNat < st.length ∧ KindIs r.2.2[j] s.1.length 1) := by
  obtain ⟨h1, h2, h3⟩ := hr
  have hl := hst.length
  have hf := h3.few (by omega)
  have := hS.v5
  exact ⟨hst.range hS.vp, h1, h2, by omega, fun j h h' => by
    have := h3 j h (by omega)
    exact ⟨this.1.1, by omega, this.2.2 h'⟩⟩
open Classical in
theorem l2Use_eq {k : Nat} {s : SY} {st : List Int} (hS : SysP s) (hst : StP s.1 st) (hk : 1048576 < k) (j : Nat) (hj : j < s.2.length) : spec_l2Use.f k s st j = some ((useT s st s.2[j]).getD [], ()) := by
  have h8 := hS.r8
  have h5 := hS.v5
  have hl := hst.length
  obtain ⟨g1, g2, g3, g4, g5⟩ := use_facts hS hst (hS.rp _ (List.getElem_mem hj))
  rw [spec_l2Use.s]
  simp (disch := omega) only [gd_t, toNat_nat, getD_get hj, l2Last_eq g2 g1 (show 1000 < k by omega), Option.bind_some]
  unfold useT
  by_cases h0 : evalT s.2[j].1 st = 0
  · rw [if_pos (by simpa using h0), if_pos h0]; rfl
  · rw [if_neg (by simpa using h0), if_neg h0]
    refine push_loop (l := fun n v i => spec_l2Use.l6 k s st j n v i) (ys := st) (m := st.length) rfl (fun n i v hi hv => ?_) (fun n => ?_) (by omega)
    · simp (disch := omega) only [spec_l2Use.s6, getD_get, w64_id, toNat_nat, gd_t]
      rw [if_pos (by simpa using hi), gd_t (by simp; omega)]
    · simp only [spec_l2Use.s6]
      rw [if_neg (by simp)]
      refine for_post (m := s.2[j].2.1.length) (l := fun n v i => spec_l2Use.l10 k s st j n v i) (fun i v => v = setsT s.2[j] st i) (fun x => x = _) (fun n v hI => ?_) (fun n i v hi hI ih => ?_) (by omega) (by simp [setsT])
      · simp only [spec_l2Use.s10, toNat_nat, getD_get hj]
        have hvl : v.length = st.length := by rw [hI, setsT_length]
        rw [if_neg (by simp), l2In_eq s v (by omega) (by omega) hk, hI]
        simp only [Option.bind_some]
        by_cases hP : StP s.1 (setsT s.2[j] st s.2[j].2.1.length)
        · simp [hP]
        · simp [hP]
      · have hi' : i < s.2[j].2.2.length := by omega
        obtain ⟨q1, q2, q3⟩ := g5 i hi hi'
        have hvl : v.length = st.length := by rw [hI, setsT_length]
        simp only [spec_l2Use.s10, toNat_nat, getD_get hj]
        simp (disch := omega) only [gd_t, toNat_nat, getD_get hi, getD_get hi', l2Last_eq q3 g1 (show 1000 < k by omega), Option.bind_some, w64_id]
        rw [if_pos (by simpa using hi)]
        exact ih _ (by rw [setsT_succ, hI, getD_get hi, getD_get hi'])
open Classical in
theorem use_eq {k : Nat} {s : SY} {st : List Int} (hS : SysP s) (hst : StP s.1 st) (hk : 1048576 < k) (j : Nat) (hj : j < s.2.length) : impl_use.f k s st j = some (((useT s st s.2[j]).getD [], (useT s st s.2[j]).isSome), ()) := by
  have h8 := hS.r8
  have h5 := hS.v5
  have hl := hst.length
  obtain ⟨g1, g2, g3, g4, g5⟩ := use_facts hS hst (hS.rp _ (List.getElem_mem hj))
  rw [impl_use.s]
  simp (disch := omega) only [gd_t, toNat_nat, getD_get hj, eval_eq g2 g1 (show 1000 < k by omega), clone_int_eq (p := st) (by omega), Option.bind_some]
  unfold useT
  by_cases h0 : evalT s.2[j].1 st = 0
  · rw [if_pos (by simpa using h0), if_pos h0]; rfl
  · rw [if_neg (by simpa using h0), if_neg h0]
    refine for_post (m := s.2[j].2.1.length) (l := fun n v i => impl_use.l6 k s st j n v i) (fun i v => v = setsT s.2[j] st i) (fun x => x = _) (fun n v hI => ?_) (fun n i v hi hI ih => ?_) (by omega) (by simp [setsT])
    · simp only [impl_use.s6, toNat_nat, getD_get hj]
      have hvl : v.length = st.length := by rw [hI, setsT_length]
      rw [if_neg (by simp), inRange_eq s v (by omega) (by omega) hk, hI]
      simp only [Option.bind_some]
      by_cases hP : StP s.1 (setsT s.2[j] st s.2[j].2.1.length)
      · simp [hP]
      · simp [hP]
    · have hi' : i < s.2[j].2.2.length := by omega
      obtain ⟨q1, q2, q3⟩ := g5 i hi hi'
      have hvl : v.length = st.length := by rw [hI, setsT_length]
      simp only [impl_use.s6, toNat_nat, getD_get hj]
      simp (disch := omega) only [gd_t, toNat_nat, getD_get hi, getD_get hi', eval_eq q3 g1 (show 1000 < k by omega), Option.bind_some, w64_id]
      rw [if_pos (by simpa using hi)]
      exact ih _ (by rw [setsT_succ, hI, getD_get hi, getD_get hi'])
end Go.Ev


set_option linter.unusedVariables false
set_option linter.unusedSimpArgs false
namespace Go.Ev

/-- The states that come next, in order. -/
noncomputable def nextOf (s : SY) (st : List Int) (j : Nat) : List (List Int) := (s.2.take j).foldl (fun l r => match useT s st r with | some x => putL x l | none => l) []
noncomputable def nextT (s : SY) (st : List Int) : List (List Int) := nextOf s st s.2.length
theorem nextOf_succ (s : SY) (st : List Int) {j : Nat} (h : j < s.2.length) : nextOf s st (j + 1) = match useT s st s.2[j] with | some x => putL x (nextOf s st j) | none => nextOf s st j := by
  unfold nextOf
  rw [List.take_succ_eq_append_getElem h, List.foldl_append]
  rfl
theorem nextOf_facts (s : SY) (st : List Int) : ∀ j, j ≤ s.2.length → SortedL (nextOf s st j) ∧ (∀ x ∈ nextOf s st j, StP s.1 x) ∧ (nextOf s st j).length ≤ j
  | 0, _ => by simp [nextOf, SortedL]
  | j + 1, h => by
    obtain ⟨h1, h2, h3⟩ := nextOf_facts s st j (by omega)
    rw [nextOf_succ s st (by omega)]
    split
    · rename_i x hx
      refine ⟨h1.put, fun y hy => ?_, ?_⟩
      · rcases mem_putL.1 hy with rfl | hy
        · exact useT_StP hx
        · exact h2 y hy
      · have := putL_length (x := x) (nextOf s st j); omega
    · exact ⟨h1, h2, by omega⟩
theorem useT_ne {s : SY} {st x : List Int} {r : RU} (hS : SysP s) (h : useT s st r = some x) : 0 < x.length := by
  have := (useT_StP h).length
  have := hS.v1
  omega
theorem l2Next_eq {k : Nat} {s : SY} {st : List Int} (hS : SysP s) (hst : StP s.1 st) (hk : 1048577 < k) : spec_l2Next.f k s st = some (nextT s st, ()) := by
  have h8 := hS.r8
  have h5 := hS.v5
  rw [spec_l2Next.s]
  refine for_post (m := s.2.length) (l := fun n v j => spec_l2Next.l3 k s st n v j) (fun j v => v = nextOf s st j) (fun x => x = _) (fun n v hI => ?_) (fun n j v hj hI ih => ?_) (by omega) (by simp [nextOf])
  · rw [hI]
    simp [spec_l2Next.s3, nextT]
  · obtain ⟨g1, g2, g3⟩ := nextOf_facts s st j (by omega)
    simp (disch := omega) only [spec_l2Next.s3, l2Use_eq hS hst (show 1048576 < k by omega) j hj, Option.bind_some, w64_id]
    rw [if_pos (by simpa using hj)]
    have e := nextOf_succ s st hj
    cases hu : useT s st s.2[j] with
    | none =>
      rw [hu] at e
      simp only [Option.getD_none, List.length_nil]
      rw [if_neg (by simp)]
      exact ih _ (by rw [e, hI])
    | some x =>
      rw [hu] at e
      have hx := (useT_StP hu).length
      simp only [Option.getD_some]
      rw [if_pos (by simpa using useT_ne hS hu), l2Put_eq v x (by omega) (fun y hy => by rw [hI] at hy; have := (g2 y hy).length; omega) (by rw [hI]; omega) hk]
      exact ih _ (by rw [e, hI])
theorem cloneL_eq {k : Nat} (p : List (List Int)) (hp : p.length ≤ 1048576) : impl_clone_Lint.f k p = some (p, ()) := by
  rw [impl_clone_Lint.s]
  by_cases h : p.length = 0
  · rw [if_pos (by simpa using h)]
    have : p = [] := List.length_eq_zero_iff.1 h
    rw [this]
  · rw [if_neg (by simpa using h), gd_t (by omega), gd_t (by omega)]
    simp
theorem nextStates_eq {k : Nat} {s : SY} {st : List Int} (hS : SysP s) (hst : StP s.1 st) (hk : 1048577 < k) : impl_nextStates.f k s st = some (nextT s st, ()) := by
  have h8 := hS.r8
  have h5 := hS.v5
  rw [impl_nextStates.s]
  refine for_post (m := s.2.length) (l := fun n v j => impl_nextStates.l3 k s st n v j) (fun j v => v = nextOf s st j) (fun x => x = _) (fun n v hI => ?_) (fun n j v hj hI ih => ?_) (by omega) (by simp [nextOf])
  · obtain ⟨g1, g2, g3⟩ := nextOf_facts s st s.2.length (Nat.le_refl _)
    rw [hI]
    simp only [impl_nextStates.s3]
    rw [if_neg (by simp), cloneL_eq _ (by omega)]
    rfl
  · obtain ⟨g1, g2, g3⟩ := nextOf_facts s st j (by omega)
    rw [← hI] at g1 g2 g3
    simp (disch := omega) only [impl_nextStates.s3, use_eq hS hst (show 1048576 < k by omega) j hj, Option.bind_some, w64_id]
    rw [if_pos (by simpa using hj)]
    have e := nextOf_succ s st hj
    rw [← hI] at e
    cases hu : useT s st s.2[j] with
    | none =>
      rw [hu] at e
      simp only [Option.isSome_none, Bool.false_eq_true, if_false]
      exact ih _ e.symm
    | some x =>
      rw [hu] at e
      have hx := (useT_StP hu).length
      obtain ⟨i, i1, i2, i3, i4⟩ := BinarySearch_eq (k := k) v x (fun p => (slices_Compare_int_int.f k p.1 p.2.1).bind fun r => some r.1) (fun y hy => by
        dsimp only
        rw [Compare_eq y x (by have := (g2 y hy).length; omega) (by omega) (by omega)]; rfl) g1 (by omega) (by omega)
      simp only [Option.getD_some, Option.isSome_some, if_true, i2, Option.bind_some]
      by_cases hm : x ∈ v
      · rw [if_neg (by simp [hm])]
        exact ih _ (by rw [e]; exact (putL_mem g1 hm).symm)
      · rw [if_pos (by simp [hm]), slices_Insert_int_int.s, gd_t (by omega), gd_t (by omega), gd_t (by simp), gd_t (by unfold LIM; simp; omega)]
        simp only [Option.bind_some]
        exact ih _ (by rw [e]; exact insert_putL i3 i4 hm)

/-! ### the number of a state -/
/-- What the numbers are, counted from the left. -/
def preNo (vs : List VA) (st : List Int) : Nat → Nat
  | 0 => 0
  | j + 1 => preNo vs st j * wid (vs.getD j (0, 0, 0)) + (st.getD j 0 - (vs.getD j (0, 0, 0)).1).toNat
theorem preNo_spec {vs : List VA} {st : List Int} (hl : st.length = vs.length) : ∀ j, j ≤ vs.length → noOf vs st = preNo vs st j * prodW (vs.drop j) + noOf (vs.drop j) (st.drop j)
  | 0, _ => by simp [preNo]
  | j + 1, h => by
    have hj : j < vs.length := by omega
    have hj' : j < st.length := by omega
    rw [preNo_spec hl j (by omega), preNo, drop_cons_get hj, drop_cons_get hj', prodW, noOf, getD_get hj, getD_get hj', Nat.add_mul, Nat.mul_assoc, Nat.add_assoc]
theorem preNo_lt {vs : List VA} {st : List Int} (h : StP vs st) (hv : ∀ v ∈ vs, VarP v) {j : Nat} (hj : j ≤ vs.length) : preNo vs st j ≤ noOf vs st := by
  have e := preNo_spec h.length j hj
  have hp : 0 < prodW (vs.drop j) := prodW_pos fun v hm => hv v (List.mem_of_mem_drop hm)
  have := Nat.le_mul_of_pos_right (preNo vs st j) hp
  omega
theorem no_step {vs : List VA} {st : List Int} (h : StP vs st) (hv : ∀ v ∈ vs, VarP v) (hsz : prodW vs ≤ 400) {j : Nat} (hj : j < vs.length) (hj' : j < st.length) :
    w64 (w64 (w64 ((preNo vs st j : Int) * w64 (w64 (vs[j].2.1 - vs[j].1) + 1)) + st[j]) - vs[j].1) = ((preNo vs st (j + 1) : Nat) : Int) := by
  have hp := hv _ (List.getElem_mem hj)
  have hb := hp
  unfold VarP at hb
  have hst := (StP_iff.1 h).2 j hj hj'
  have h1 := preNo_lt h hv (j := j + 1) (by omega)
  have h2 := noOf_lt h hv
  have e : preNo vs st (j + 1) = preNo vs st j * wid vs[j] + (st[j] - vs[j].1).toNat := by rw [preNo, getD_get hj, getD_get hj']
  have e2 : (preNo vs st j : Int) * (wid vs[j] : Int) = ((preNo vs st j * wid vs[j] : Nat) : Int) := by simp
  rw [wid_w64 hp, e2, e]
  rw [e] at h1
  generalize preNo vs st j * wid vs[j] = m at h1 ⊢
  rw [w64_id (x := (m : Int)) (by omega) (by omega), w64_id (x := (m : Int) + st[j]) (by omega) (by omega), w64_id (by omega) (by omega)]
  omega
theorem number_eq {k : Nat} {s : SY} {st : List Int} (hS : SysP s) (hst : StP s.1 st) (hk : 1000 < k) : impl_number.f k s st = some (((noOf s.1 st : Nat) : Int), ()) := by
  have h5 := hS.v5
  have hl := hst.length
  rw [impl_number.s]
  refine for_post (m := s.1.length) (l := fun n (v : Int) j => impl_number.l3 k s st n v j) (fun j v => v = ((preNo s.1 st j : Nat) : Int)) (fun x => x = _) (fun n v hI => ?_) (fun n j v hj hI ih => ?_) (by omega) (by simp [preNo])
  · have := preNo_spec hl s.1.length (Nat.le_refl _)
    rw [List.drop_eq_nil_of_le (Nat.le_refl _), List.drop_eq_nil_of_le (by omega)] at this
    simp [prodW, noOf] at this
    simp [impl_number.s3, hI, this]
  · have hj' : j < st.length := by omega
    simp (disch := omega) only [impl_number.s3, gd_t, toNat_nat, getD_get hj, getD_get hj', hI, no_step hst hS.vp hS.sz hj hj']
    rw [if_pos (by simpa using hj), w64_id (x := (j : Int) + 1) (by omega) (by omega)]
    exact ih _ rfl
theorem l4Number_eq {k : Nat} {s : SY} {st : List Int} (hS : SysP s) (hst : StP s.1 st) (hk : 1000 < k) : spec_l4Number.f k s st = some (((noOf s.1 st : Nat) : Int), ()) := by
  have h5 := hS.v5
  have hl := hst.length
  rw [spec_l4Number.s]
  refine for_post (m := s.1.length) (l := fun n (v : Int) j => spec_l4Number.l3 k s st n v j) (fun j v => v = ((preNo s.1 st j : Nat) : Int)) (fun x => x = _) (fun n v hI => ?_) (fun n j v hj hI ih => ?_) (by omega) (by simp [preNo])
  · have := preNo_spec hl s.1.length (Nat.le_refl _)
    rw [List.drop_eq_nil_of_le (Nat.le_refl _), List.drop_eq_nil_of_le (by omega)] at this
    simp [prodW, noOf] at this
    simp [spec_l4Number.s3, hI, this, hl]
  · have hj' : j < st.length := by omega
    simp (disch := omega) only [spec_l4Number.s3, gd_t, toNat_nat, getD_get hj, getD_get hj', hI, no_step hst hS.vp hS.sz hj hj']
    rw [if_pos (by simpa using hj'), w64_id (x := (j : Int) + 1) (by omega) (by omega)]
    exact ih _ rfl
theorem set_getD_self {α : Type} (v : List α) (j : Nat) (d : α) : v.set j (v.getD j d) = v := by
  by_cases h : j < v.length
  · rw [getD_get h]; simp
  · rw [List.set_eq_of_length_le (by omega)]
/-- The table of steps: the numbers that come next, for each number. -/
noncomputable def rowT (s : SY) (n : Nat) : List Int := (nextT s (stOf s.1 n)).map fun x => ((noOf s.1 x : Nat) : Int)
noncomputable def stepsT (s : SY) : List (List Int) := (List.range (prodW s.1)).map (rowT s)
theorem stepsT_length (s : SY) : (stepsT s).length = prodW s.1 := by simp [stepsT]
theorem nextT_facts (s : SY) (st : List Int) : SortedL (nextT s st) ∧ (∀ x ∈ nextT s st, StP s.1 x) ∧ (nextT s st).length ≤ s.2.length := nextOf_facts s st _ (Nat.le_refl _)
theorem l4Steps_eq {k : Nat} {s : SY} (hS : SysP s) (hv : spec_SystemValid.f k s = some (true, ())) (hz : spec_SizeOf.f k s = some (((prodW s.1 : Nat) : Int), ())) (hk : 1048577 < k) : spec_l4Steps.f k s = some (stepsT s, ()) := by
  have hsz := hS.sz
  have h8 := hS.r8
  rw [spec_l4Steps.s]
  refine push_loop (l := fun n v j => spec_l4Steps.l3 k s n v j) (ys := stepsT s) (m := prodW s.1) (stepsT_length s) (fun n j v hj hv' => ?_) (fun n => ?_) (by omega)
  · have hst := stOf_StP j hS.vp
    obtain ⟨g1, g2, g3⟩ := nextT_facts s (stOf s.1 j)
    simp (disch := omega) only [spec_l4Steps.s3, hz, Option.bind_some, l4State_eq hS hv j (by omega) (show 1048576 < k by omega), l2Next_eq hS hst hk]
    rw [if_pos (by simpa using hj)]
    refine push_loop (l := fun q v i => spec_l4Steps.l8 k n s _ (j : Int) q (nextT s (stOf s.1 j)) v i) (ys := rowT s j) (m := (nextT s (stOf s.1 j)).length) (by simp [rowT]) (fun q i u hi hu => ?_) (fun q => ?_) (by omega)
    · simp (disch := omega) only [spec_l4Steps.s8, gd_t, toNat_nat, getD_get hi, l4Number_eq hS (g2 _ (List.getElem_mem hi)) (show 1000 < k by omega), Option.bind_some, w64_id]
      rw [if_pos (by simpa using hi), gd_t (by simp; omega)]
      simp [rowT]
    · simp (disch := omega) only [spec_l4Steps.s8, w64_id]
      rw [if_neg (by simp), gd_t (by simp; omega)]
      simp [stepsT]
  · simp only [spec_l4Steps.s3, hz, Option.bind_some]
    rw [if_neg (by simp)]
theorem nexts_eq {k : Nat} {s : SY} (hS : SysP s) (hz : impl_size.f k s.1 = some (((prodW s.1 : Nat) : Int), ())) (hk : 1048577 < k) : impl_nexts.f k s = some (stepsT s, ()) := by
  have hsz := hS.sz
  have h8 := hS.r8
  rw [impl_nexts.s, hz]
  simp only [Option.bind_some]
  rw [gd_t (by omega), gd_t (by omega)]
  simp only [List.length_replicate, toNat_nat]
  refine for_post (m := prodW s.1) (l := fun n v j => impl_nexts.l3 k s n v ((prodW s.1 : Nat) : Int) j) (fun j v => v = (stepsT s).take j ++ List.replicate (prodW s.1 - j) []) (fun x => x = _) (fun n v hI => ?_) (fun n j v hj hI ih => ?_) (by omega) (by simp)
  · rw [hI, List.take_of_length_le (by rw [stepsT_length]; omega)]
    simp [impl_nexts.s3]
  · have hst := stOf_StP j hS.vp
    obtain ⟨g1, g2, g3⟩ := nextT_facts s (stOf s.1 j)
    simp (disch := omega) only [impl_nexts.s3, stateAt_eq hS j (by omega) (show 1000 < k by omega), nextStates_eq hS hst hk, Option.bind_some]
    rw [if_pos (by simpa using hj)]
    have hvl : v.length = prodW s.1 := by rw [hI]; simp [stepsT_length]; omega
    have hvj : v.getD j [] = [] := by
      rw [hI, List.getD_eq_getElem?_getD, List.getElem?_append_right (by simp [stepsT_length]; omega)]
      simp [stepsT_length]
      cases h : (prodW s.1 - j) with
      | zero => rfl
      | succ q => simp [List.replicate_succ, show j - min j (prodW s.1) = 0 by omega]
    refine for_post (m := (nextT s (stOf s.1 j)).length) (l := fun q u i => impl_nexts.l6 k n s ((prodW s.1 : Nat) : Int) (j : Int) q u (nextT s (stOf s.1 j)) ((nextT s (stOf s.1 j)).length : Int) i) (fun i u => u = v.set j ((rowT s j).take i)) (fun x => x = _) (fun q u hu => ?_) (fun q i u hi hu ih2 => ?_) (by omega) (by
      simp only [List.take_zero]
      rw [← hvj]; exact (set_getD_self v j []).symm)
    · simp (disch := omega) only [impl_nexts.s6, w64_id]
      rw [if_neg (by simp)]
      refine ih _ ?_
      rw [hu, List.take_of_length_le (by simp [rowT]), hI, List.set_append_right _ _ (by simp [stepsT_length]; omega), List.take_succ_eq_append_getElem (by rw [stepsT_length]; exact hj)]
      have e : prodW s.1 - j = (prodW s.1 - (j + 1)) + 1 := by omega
      rw [e, List.replicate_succ]
      simp [stepsT_length, stepsT, show j - min j (prodW s.1) = 0 by omega]
    · have hul : u.length = prodW s.1 := by rw [hu]; simp [hvl]
      have hrl : (rowT s j).length = (nextT s (stOf s.1 j)).length := by simp [rowT]
      have huj : u.getD j [] = (rowT s j).take i := by rw [hu]; exact getD_set_self (by omega)
      simp (disch := omega) only [impl_nexts.s6, gd_t, toNat_nat, getD_get hi, number_eq hS (g2 _ (List.getElem_mem hi)) (show 1000 < k by omega), Option.bind_some, w64_id, huj]
      rw [if_pos (by simpa using hi), gd_t (by simp; omega)]
      simp only [gd_true]
      refine ih2 _ ?_
      rw [hu, List.set_set, List.take_succ_eq_append_getElem (by omega)]
      simp [rowT]
end Go.Ev


set_option linter.unusedVariables false
set_option linter.unusedSimpArgs false
namespace Go.Ev

/-! ### ascending lists of numbers -/
def Asc (l : List Int) : Prop := l.Pairwise (· < ·)
theorem asc_ext : ∀ {a b : List Int}, Asc a → Asc b → (∀ x, x ∈ a ↔ x ∈ b) → a = b
  | [], [], _, _, _ => rfl
  | [], y :: b, _, _, h => by have := (h y).2 (by simp); simp at this
  | x :: a, [], _, _, h => by have := (h x).1 (by simp); simp at this
  | x :: a, y :: b, ha, hb, h => by
    obtain ⟨a1, a2⟩ := List.pairwise_cons.1 ha
    obtain ⟨b1, b2⟩ := List.pairwise_cons.1 hb
    have hxy : x = y := by
      have h1 := (h x).1 (by simp)
      have h2 := (h y).2 (by simp)
      rcases List.mem_cons.1 h1 with e | h1
      · exact e
      · rcases List.mem_cons.1 h2 with e | h2
        · exact e.symm
        · have := a1 y h2
          have := b1 x h1
          omega
    subst hxy
    rw [asc_ext a2 b2 fun z => ?_]
    constructor
    · intro hz
      rcases List.mem_cons.1 ((h z).1 (by simp [hz])) with e | hz'
      · have := a1 z hz; omega
      · exact hz'
    · intro hz
      rcases List.mem_cons.1 ((h z).2 (by simp [hz])) with e | hz'
      · have := b1 z hz; omega
      · exact hz'
/-- The numbers marked. -/
def listT (v : List Bool) : List Int := ((List.range v.length).filter fun i => v.getD i false).map fun (i : Nat) => (i : Int)
theorem listT_asc (v : List Bool) : Asc (listT v) := by
  unfold Asc listT
  rw [List.pairwise_map]
  exact (List.Pairwise.filter _ List.pairwise_lt_range).imp fun h => by omega
theorem mem_listT {v : List Bool} {x : Int} : x ∈ listT v ↔ ∃ i : Nat, i < v.length ∧ v.getD i false = true ∧ (i : Int) = x := by
  simp only [listT, List.mem_map, List.mem_filter, List.mem_range, and_assoc]
theorem l4List_eq {k : Nat} (v : List Bool) (hv : v.length ≤ 1048576) (hk : 1048576 < k) : spec_l4List.f k v = some (listT v, ()) := by
  rw [spec_l4List.s]
  refine for_post (m := v.length) (l := fun n l j => spec_l4List.l3 k v n l j) (fun j l => l = ((List.range j).filter fun i => v.getD i false).map (fun (i : Nat) => (i : Int)) ∧ l.length ≤ j) (fun x => x = some (listT v, ())) (fun n l hI => ?_) (fun n j l hj hI ih => ?_) (by omega) (by simp)
  · rw [hI.1]; simp [spec_l4List.s3, listT]
  · simp (disch := omega) only [spec_l4List.s3, gd_t, toNat_nat, w64_id]
    rw [if_pos (by simpa using hj)]
    by_cases hb : v.getD j false = true
    · rw [if_pos hb, gd_t (by have := hI.2; simp; omega)]
      exact ih _ ⟨by rw [hI.1, List.range_succ, List.filter_append]; simp [hb, -List.getD_eq_getElem?_getD], by have := hI.2; simp; omega⟩
    · rw [if_neg hb]
      exact ih _ ⟨by rw [hI.1, List.range_succ, List.filter_append]; simp [hb, -List.getD_eq_getElem?_getD], by omega⟩
end Go.Ev


set_option linter.unusedVariables false
set_option linter.unusedSimpArgs false
namespace Go.Ev

/-! ### a state with its variables exchanged -/
theorem rowT_mem {s : SY} {n : Nat} {x : Int} (h : x ∈ rowT s n) (hS : SysP s) : 0 ≤ x ∧ x < (prodW s.1 : Int) := by
  simp only [rowT, List.mem_map] at h
  obtain ⟨y, hy, rfl⟩ := h
  have := noOf_lt ((nextT_facts s _).2.1 y hy) hS.vp
  omega
end Go.Ev


set_option linter.unusedVariables false
set_option linter.unusedSimpArgs false
namespace Go.Ev
/-- A loop over the numbers from a on, below m. -/
theorem for_from {σ R : Type} {l : Nat → σ → Int → R} {a m : Nat} (ha : a ≤ m) (I : Nat → σ → Prop) (Q : R → Prop)
    (stop : ∀ n s, I m s → Q (l (n + 1) s (m : Int)))
    (step : ∀ n j s, a ≤ j → j < m → I j s → (∀ s', I (j + 1) s' → Q (l n s' ((j : Int) + 1))) → Q (l (n + 1) s (j : Int))) :
    ∀ {k s}, m < k → I a s → Q (l k s (a : Int)) := by
  have key : ∀ d n j s, a ≤ j → j + d = m → d < n → I j s → Q (l n s (j : Int)) := by
    intro d
    induction d with
    | zero =>
      intro n j s haj h hn hI
      obtain ⟨n, rfl⟩ : ∃ q, n = q + 1 := ⟨n - 1, by omega⟩
      have : j = m := by omega
      subst this
      exact stop n s hI
    | succ d ih =>
      intro n j s haj h hn hI
      obtain ⟨n, rfl⟩ : ∃ q, n = q + 1 := ⟨n - 1, by omega⟩
      refine step n j s haj (by omega) hI fun s' h' => ?_
      have := ih n (j + 1) s' (by omega) (by omega) (by omega) h'
      simpa using this
  intro k s hk hI
  exact key (m - a) k a s (Nat.le_refl _) (by omega) (by omega) hI
theorem filter_lt {α : Type} {p q : α → Bool} (h : ∀ x, p x = true → q x = true) : ∀ {l : List α}, (l.filter p).length ≤ (l.filter q).length ∧ ((∃ x ∈ l, q x = true ∧ p x = false) → (l.filter p).length < (l.filter q).length)
  | [] => ⟨Nat.le_refl _, fun ⟨x, hx, _⟩ => by simp at hx⟩
  | y :: l => by
    obtain ⟨h1, h2⟩ := filter_lt h (l := l)
    cases hp : p y with
    | true =>
      have hq := h y hp
      simp only [List.filter_cons, hp, hq, if_true, List.length_cons]
      refine ⟨by omega, fun ⟨x, hx, e1, e2⟩ => ?_⟩
      rcases List.mem_cons.1 hx with e | hx
      · rw [e, hp] at e2; cases e2
      · have := h2 ⟨x, hx, e1, e2⟩; omega
    | false =>
      cases hq : q y with
      | true =>
        simp only [List.filter_cons, hp, hq, if_true, List.length_cons]
        refine ⟨by simp; omega, fun _ => by simp; omega⟩
      | false =>
        simp only [List.filter_cons, hp, hq]
        refine ⟨by simpa using h1, fun ⟨x, hx, e1, e2⟩ => ?_⟩
        rcases List.mem_cons.1 hx with e | hx
        · rw [e, hq] at e1; cases e1
        · simpa using h2 ⟨x, hx, e1, e2⟩

/-! ### how far it is over a table -/
/-- A table whose numbers are below its length. -/
def TabP (T : List (List Int)) : Prop := ∀ r ∈ T, ∀ x ∈ r, 0 ≤ x ∧ x < (T.length : Int)
/-- How far it is to each number, as far as that is at most d. -/
noncomputable def lv (T : List (List Int)) (v : List Bool) : Nat → List Int
  | 0 => (List.range T.length).map fun x => if v.getD x false = true then 0 else -1
  | d + 1 => by
    classical
    exact (List.range T.length).map fun x => if 0 ≤ (lv T v d).getD x 0 then (lv T v d).getD x 0 else if ∃ m, m < T.length ∧ (lv T v d).getD m 0 = (d : Int) ∧ (x : Int) ∈ T.getD m [] then ((d + 1 : Nat) : Int) else -1
variable {T : List (List Int)} {v : List Bool}
theorem lv_length : ∀ d, (lv T v d).length = T.length
  | 0 => by simp [lv]
  | d + 1 => by simp [lv]
theorem lv_zero {x : Nat} (h : x < T.length) : (lv T v 0).getD x 0 = if v.getD x false = true then 0 else -1 := by
  rw [List.getD_eq_getElem?_getD]; simp [lv, h]
theorem lv_succ {d x : Nat} (h : x < T.length) : (0 ≤ (lv T v d).getD x 0 → (lv T v (d + 1)).getD x 0 = (lv T v d).getD x 0) ∧
    (¬ 0 ≤ (lv T v d).getD x 0 → (∃ m, m < T.length ∧ (lv T v d).getD m 0 = (d : Int) ∧ (x : Int) ∈ T.getD m []) → (lv T v (d + 1)).getD x 0 = ((d + 1 : Nat) : Int)) ∧
    (¬ 0 ≤ (lv T v d).getD x 0 → ¬ (∃ m, m < T.length ∧ (lv T v d).getD m 0 = (d : Int) ∧ (x : Int) ∈ T.getD m []) → (lv T v (d + 1)).getD x 0 = -1) := by
  have e : (lv T v (d + 1)).getD x 0 = @ite _ (0 ≤ (lv T v d).getD x 0) (Classical.propDecidable _) ((lv T v d).getD x 0) (@ite _ (∃ m, m < T.length ∧ (lv T v d).getD m 0 = (d : Int) ∧ (x : Int) ∈ T.getD m []) (Classical.propDecidable _) ((d + 1 : Nat) : Int) (-1)) := by
    rw [List.getD_eq_getElem?_getD]; simp [lv, h]
  refine ⟨fun h1 => ?_, fun h1 h2 => ?_, fun h1 h2 => ?_⟩
  · rw [e, if_pos h1]
  · rw [e, if_neg h1, if_pos h2]
  · rw [e, if_neg h1, if_neg h2]
theorem lv_range {x : Nat} (h : x < T.length) : ∀ d, (lv T v d).getD x 0 = -1 ∨ 0 ≤ (lv T v d).getD x 0 ∧ (lv T v d).getD x 0 ≤ (d : Int)
  | 0 => by rw [lv_zero h]; split <;> simp
  | d + 1 => by
    obtain ⟨h1, h2, h3⟩ := lv_succ (v := v) (d := d) h
    rcases lv_range h d with e | ⟨e1, e2⟩
    · by_cases hx : ∃ m, m < T.length ∧ (lv T v d).getD m 0 = (d : Int) ∧ (x : Int) ∈ T.getD m []
      · rw [h2 (by omega) hx]; right; omega
      · rw [h3 (by omega) hx]; left; rfl
    · rw [h1 e1]; right; omega
theorem lv_ext {a b : List Int} (ha : a.length = T.length) (hb : b.length = T.length) (h : ∀ x, x < T.length → a.getD x 0 = b.getD x 0) : a = b := by
  apply List.ext_getElem (by omega)
  intro i h1 h2
  have := h i (by omega)
  rwa [getD_get h1, getD_get h2] at this
theorem lv_mono {x d : Nat} (h : x < T.length) (h0 : 0 ≤ (lv T v d).getD x 0) : ∀ e, (lv T v (d + e)).getD x 0 = (lv T v d).getD x 0
  | 0 => rfl
  | e + 1 => by
    have ih := lv_mono h h0 e
    rw [← Nat.add_assoc, (lv_succ (v := v) (d := d + e) h).1 (by omega), ih]
theorem lv_same {d : Nat} (h : lv T v (d + 1) = lv T v d) : ∀ e, lv T v (d + e) = lv T v d
  | 0 => rfl
  | e + 1 => by
    have ih := lv_same h e
    rw [← Nat.add_assoc]
    rw [← ih]
    refine lv_ext (T := T) (lv_length _) (lv_length _) fun x hx => ?_
    obtain ⟨h1, h2, h3⟩ := lv_succ (v := v) (d := d + e) hx
    by_cases h0 : 0 ≤ (lv T v (d + e)).getD x 0
    · exact h1 h0
    · have hm : (lv T v (d + e)).getD x 0 = -1 := by
        rcases lv_range (v := v) hx (d + e) with q | q
        · exact q
        · omega
      rw [hm]
      by_cases hx2 : ∃ m, m < T.length ∧ (lv T v (d + e)).getD m 0 = ((d + e : Nat) : Int) ∧ (x : Int) ∈ T.getD m []
      · exfalso
        rcases Nat.eq_zero_or_pos e with he | he
        · subst he
          have q1 := (lv_succ (v := v) (d := d) hx).2.1 (by simpa using h0) hx2
          have q2 : (lv T v (d + 1)).getD x 0 = (lv T v d).getD x 0 := by rw [h]
          have : ¬ 0 ≤ (lv T v d).getD x 0 := h0
          omega
        · obtain ⟨m, hm1, hm2, _⟩ := hx2
          rw [ih] at hm2
          rcases lv_range (v := v) hm1 d with q | q <;> omega
      · exact h3 h0 hx2
/-- How many are told. -/
noncomputable def cnt (l : List Int) (n : Nat) : Nat := ((List.range n).filter fun x => decide (0 ≤ l.getD x 0)).length
theorem cnt_le (l : List Int) (n : Nat) : cnt l n ≤ n := by
  have := List.length_filter_le (fun x => decide (0 ≤ l.getD x 0)) (List.range n)
  simpa [cnt] using this
theorem cnt_lt {d : Nat} (h : lv T v (d + 1) ≠ lv T v d) : cnt (lv T v d) T.length < cnt (lv T v (d + 1)) T.length := by
  have hx : ∃ x, x < T.length ∧ (lv T v (d + 1)).getD x 0 ≠ (lv T v d).getD x 0 := by
    apply Classical.byContradiction
    intro hn
    exact h (lv_ext (T := T) (lv_length _) (lv_length _) fun x hx => Classical.byContradiction fun hne => hn ⟨x, hx, hne⟩)
  obtain ⟨x, hx, hne⟩ := hx
  have mono : ∀ y, y < T.length → 0 ≤ (lv T v d).getD y 0 → 0 ≤ (lv T v (d + 1)).getD y 0 := fun y hy h0 => by
    rw [(lv_succ (v := v) (d := d) hy).1 h0]; exact h0
  have e : ∀ l : List Int, cnt l T.length = ((List.range T.length).filter fun x => decide (x < T.length ∧ 0 ≤ l.getD x 0)).length := fun l => by
    unfold cnt
    congr 1
    apply List.filter_congr
    intro y hy
    have := List.mem_range.1 hy
    simp [this]
  rw [e, e]
  refine (filter_lt (fun y hy => ?_)).2 ⟨x, List.mem_range.2 hx, ?_, ?_⟩
  · simp only [decide_eq_true_eq] at hy ⊢
    exact ⟨hy.1, mono y hy.1 hy.2⟩
  · simp only [decide_eq_true_eq]
    refine ⟨hx, ?_⟩
    obtain ⟨h1, h2, h3⟩ := lv_succ (v := v) (d := d) hx
    by_cases h0 : 0 ≤ (lv T v d).getD x 0
    · exact absurd (h1 h0) hne
    · by_cases hx2 : ∃ m, m < T.length ∧ (lv T v d).getD m 0 = (d : Int) ∧ (x : Int) ∈ T.getD m []
      · rw [h2 h0 hx2]; omega
      · rcases lv_range (v := v) hx d with q | q
        · exact absurd ((h3 h0 hx2).trans q.symm) hne
        · omega
  · simp only [decide_eq_false_iff_not]
    rintro ⟨_, h0⟩
    exact hne ((lv_succ (v := v) (d := d) hx).1 h0)
theorem lv_stop : ∀ d, (∃ e, e < d ∧ lv T v (e + 1) = lv T v e) ∨ d ≤ cnt (lv T v d) T.length
  | 0 => .inr (Nat.zero_le _)
  | d + 1 => by
    rcases lv_stop d with ⟨e, h1, h2⟩ | h
    · exact .inl ⟨e, by omega, h2⟩
    · by_cases hs : lv T v (d + 1) = lv T v d
      · exact .inl ⟨d, by omega, hs⟩
      · have := cnt_lt hs
        exact .inr (by omega)
/-- How far it is to each number; -1 where one never comes. -/
noncomputable def farT (T : List (List Int)) (v : List Bool) : List Int := lv T v T.length
theorem farT_length : (farT T v).length = T.length := lv_length _
theorem lv_end : ∀ e, lv T v (T.length + e) = farT T v := by
  rcases lv_stop (T := T) (v := v) (T.length + 1) with ⟨d, h1, h2⟩ | h
  · intro e
    have q1 := lv_same h2 (T.length + e - d)
    have q2 := lv_same h2 (T.length - d)
    rw [show d + (T.length + e - d) = T.length + e by omega] at q1
    rw [show d + (T.length - d) = T.length by omega] at q2
    unfold farT
    rw [q1, q2]
  · have := cnt_le (lv T v (T.length + 1)) T.length
    omega
/-- One comes there. -/
def RchT (T : List (List Int)) (v : List Bool) (x : Nat) : Prop := 0 ≤ (farT T v).getD x 0
theorem RchT.start {x : Nat} (hx : x < T.length) (h : v.getD x false = true) : RchT T v x := by
  have h0 : (lv T v 0).getD x 0 = 0 := by rw [lv_zero hx, if_pos h]
  have := lv_mono hx (v := v) (d := 0) (by omega) T.length
  unfold RchT farT
  rw [Nat.zero_add] at this
  rw [this, h0]; omega
theorem lv_first {x : Nat} (hx : x < T.length) : ∀ d e : Nat, (lv T v d).getD x 0 = (e : Int) → (lv T v e).getD x 0 = (e : Int)
  | 0, e, h => by
    rcases lv_range (v := v) hx 0 with q | q
    · omega
    · have : e = 0 := by omega
      subst this; exact h
  | d + 1, e, h => by
    by_cases h0 : 0 ≤ (lv T v d).getD x 0
    · rw [(lv_succ (v := v) (d := d) hx).1 h0] at h
      exact lv_first hx d e h
    · by_cases hx2 : ∃ m, m < T.length ∧ (lv T v d).getD m 0 = (d : Int) ∧ (x : Int) ∈ T.getD m []
      · have := (lv_succ (v := v) (d := d) hx).2.1 h0 hx2
        have : e = d + 1 := by omega
        subst this; exact h
      · have := (lv_succ (v := v) (d := d) hx).2.2 h0 hx2
        omega
theorem RchT.step {m x : Nat} (hm : m < T.length) (hx : x < T.length) (h : RchT T v m) (hmem : (x : Int) ∈ T.getD m []) : RchT T v x := by
  obtain ⟨e, he⟩ : ∃ e : Nat, (farT T v).getD m 0 = (e : Int) := ⟨((farT T v).getD m 0).toNat, by unfold RchT at h; omega⟩
  have h1 := lv_first (v := v) hm T.length e he
  have h2 : 0 ≤ (lv T v (e + 1)).getD x 0 := by
    obtain ⟨g1, g2, g3⟩ := lv_succ (v := v) (d := e) hx
    by_cases h0 : 0 ≤ (lv T v e).getD x 0
    · rw [g1 h0]; exact h0
    · rw [g2 h0 ⟨m, hm, h1, hmem⟩]; omega
  have h3 := lv_mono hx (v := v) h2 T.length
  unfold RchT
  rw [← lv_end (T := T) (v := v) (e + 1), Nat.add_comm, h3]
  exact h2
theorem RchT.least {C : Nat → Prop} (h0 : ∀ x, x < T.length → v.getD x false = true → C x) (h1 : ∀ m x, m < T.length → x < T.length → C m → (x : Int) ∈ T.getD m [] → C x) : ∀ x, x < T.length → RchT T v x → C x := by
  have key : ∀ d x, x < T.length → 0 ≤ (lv T v d).getD x 0 → C x := by
    intro d
    induction d with
    | zero =>
      intro x hx h
      rw [lv_zero hx] at h
      by_cases hv : v.getD x false = true
      · exact h0 x hx hv
      · rw [if_neg hv] at h; omega
    | succ d ih =>
      intro x hx h
      by_cases h2 : 0 ≤ (lv T v d).getD x 0
      · exact ih x hx h2
      · by_cases hx2 : ∃ m, m < T.length ∧ (lv T v d).getD m 0 = (d : Int) ∧ (x : Int) ∈ T.getD m []
        · obtain ⟨m, hm, e, hmem⟩ := hx2
          exact h1 m x hm hx (ih m hm (by omega)) hmem
        · have := (lv_succ (v := v) (d := d) hx).2.2 h2 hx2
          omega
  exact fun x hx h => key T.length x hx h
end Go.Ev

set_option linter.unusedVariables false
set_option linter.unusedSimpArgs false
namespace Go.Ev

/-! ### what a valid system gives, and valid blocks -/
structure Env (k : Nat) (s : SY) : Prop where
  S : SysP s
  hv : spec_SystemValid.f k s = some (true, ())
  iv : impl_SystemValid.f k s = some (true, ())
  hz : spec_SizeOf.f k s = some (((prodW s.1 : Nat) : Int), ())
  iz : impl_size.f k s.1 = some (((prodW s.1 : Nat) : Int), ())
theorem sys_env {k : Nat} (hk : 1048576 < k) (s : SY) (hb : BigS s) (hs : SmS s) : Env k s ∨ (spec_SystemValid.f k s = some (false, ()) ∧ impl_SystemValid.f k s = some (false, ()) ∧ spec_SizeOf.f k s = some (0, ())) := by
  obtain ⟨V, z, m1, m2, m3, m4, m5⟩ := sys_eq (k := k) (by omega) s hb hs
  cases V with
  | false => exact .inr ⟨m1, m2, by rw [m5]; rfl⟩
  | true =>
    obtain ⟨_, hz, hS⟩ := m4 rfl
    rw [if_pos rfl] at m5
    rw [hz] at m3 m5
    exact .inl ⟨hS, m1, m2, m5, m3⟩
structure BlkP (n : Nat) (b : List Int) : Prop where
  len : b.length = n
  low : ∀ j (h : j < b.length), 0 ≤ b[j] ∧ b[j] ≤ (j : Int)
  fix : ∀ j (h : j < b.length), b.getD b[j].toNat 0 = b[j]
theorem blocks_v (k : Nat) (p : List Int) (hp : p.length < 4611686018427387904) : ∀ (d n j : Nat), j + d = p.length → d < n → impl_blocksOk.l4 k p n (j : Int) = some (true, ()) →
    ∀ i (h : i < p.length), j ≤ i → 0 ≤ p[i] ∧ p[i] ≤ (i : Int) ∧ p.getD p[i].toNat 0 = p[i]
  | 0, n + 1, j, hd, hn, h, i, hi, hji => by omega
  | d + 1, n + 1, j, hd, hn, h, i, hi, hji => by
    have hj : j < p.length := by omega
    simp (disch := omega) only [impl_blocksOk.s4, gd_t, toNat_nat, getD_get hj, impl_in_eq, Option.bind_some, w64_id] at h
    rw [if_pos (by simpa using hj)] at h
    by_cases hin : 0 ≤ p[j] ∧ p[j] ≤ (j : Int)
    · simp (disch := omega) only [decide_eq_true hin, gd_t] at h
      by_cases he : p.getD p[j].toNat 0 = p[j]
      · rw [if_neg (by simp), if_neg (by simp [he, -List.getD_eq_getElem?_getD])] at h
        rcases Nat.lt_or_ge j i with hlt | hge
        · exact blocks_v k p hp d n (j + 1) (by omega) (by omega) (by simpa using h) i hi (by omega)
        · have : i = j := by omega
          subst this
          exact ⟨hin.1, hin.2, he⟩
      · rw [if_neg (by simp), if_pos (by simpa [-List.getD_eq_getElem?_getD] using he)] at h
        cases h
    · simp only [decide_eq_false hin] at h
      cases h
theorem blocks_ok {k : Nat} (hk : 1048576 < k) {s : SY} (E : Env k s) (p : List Int) (hp : p.length ≤ 1048576) : ∃ c, spec_BlocksValid.f k s p = some (c, ()) ∧ impl_blocksOk.f k s p = some (c, ()) ∧ (c = true → BlkP (prodW s.1) p) := by
  have hpos := prodW_pos E.S.vp
  rw [spec_BlocksValid.s, impl_blocksOk.s, E.hz, E.iz]
  simp only [Option.bind_some]
  obtain ⟨b, h1, h2⟩ := blocks_l k p (by omega) p.length k k 0 (by omega) (by omega) (by omega)
  have h1 : spec_BlocksValid.l4 k p k 0 = some (b, ()) := h1
  have h2 : impl_blocksOk.l4 k p k 0 = some (b, ()) := h2
  rw [h1, h2]
  by_cases hl : p.length = prodW s.1
  · rw [if_neg (c := ((p.length : Int) != ((prodW s.1 : Nat) : Int)) = true) (by simp [hl]), if_neg (c := ((p.length : Int) == 0) = true) (by simp only [beq_iff_eq]; omega), if_neg (c := ((p.length : Int) != ((prodW s.1 : Nat) : Int)) = true) (by simp [hl])]
    refine ⟨b, rfl, rfl, fun hb => ?_⟩
    subst hb
    have := blocks_v k p (by omega) p.length k 0 (by omega) (by omega) h2
    exact ⟨hl, fun j hj => ⟨(this j hj (by omega)).1, (this j hj (by omega)).2.1⟩, fun j hj => (this j hj (by omega)).2.2⟩
  · rw [if_pos (c := ((p.length : Int) != ((prodW s.1 : Nat) : Int)) = true) (by simp; omega), if_pos (c := ((p.length : Int) != ((prodW s.1 : Nat) : Int)) = true) (by simp; omega)]
    exact ⟨false, rfl, rfl, fun h => by cases h⟩
theorem blocks_no {k : Nat} {s : SY} (h : spec_SizeOf.f k s = some (0, ())) (p : List Int) : spec_BlocksValid.f k s p = some (false, ()) := by
  rw [spec_BlocksValid.s, h]
  simp only [Option.bind_some]
  by_cases h0 : p.length = 0
  · simp [h0]
  · rw [if_pos (by simp only [bne_iff_ne, ne_eq]; omega)]
/-! ### steps between blocks -/
theorem rowT_len (s : SY) (n : Nat) : (rowT s n).length ≤ s.2.length := by
  have := (nextT_facts s (stOf s.1 n)).2.2
  simpa [rowT] using this
theorem getD_set' {α : Type} (v : List α) (y x : Nat) (a e : α) (hy : y < v.length) : (v.set y a).getD x e = if x = y then a else v.getD x e := by
  rw [List.getD_eq_getElem?_getD, List.getD_eq_getElem?_getD, List.getElem?_set]
  by_cases h : y = x
  · subst h; simp [hy]
  · rw [if_neg h, if_neg (fun h' => h h'.symm)]
theorem list_ext_getD {α : Type} {a b : List α} {n : Nat} {d : α} (ha : a.length = n) (hb : b.length = n) (h : ∀ x, x < n → a.getD x d = b.getD x d) : a = b := by
  apply List.ext_getElem (by omega)
  intro i h1 h2
  have := h i (by omega)
  rwa [getD_get h1, getD_get h2] at this
end Go.Ev

set_option linter.unusedVariables false
set_option linter.unusedSimpArgs false
namespace Go.Ev

/-! ### rows of rows of numbers, as the laws look at them -/
/-! ### BlockSteps -/
theorem clone_mv_eq {k : Nat} (p : List (List Int)) (hp : p.length ≤ 1048576) : impl_clone_Lint_mv.f k p = some (p, ()) := by
  rw [impl_clone_Lint_mv.s]
  by_cases h : p.length = 0
  · rw [if_pos (by simp [h]), List.length_eq_zero_iff.1 h]
  · rw [if_neg (by simpa using h), gd_t (by omega), gd_t (by omega), gd_t (by simp)]
end Go.Ev

set_option linter.unusedVariables false
set_option linter.unusedSimpArgs false
namespace Go.Ev

/-! ### one level of the search -/
structure Up (N : Nat) (old : List Int) (d : Nat) (R : Nat → Prop) (u : List Int) (sm : Bool) : Prop where
  len : u.length = N
  keep : ∀ x, x < N → 0 ≤ old.getD x 0 → u.getD x 0 = old.getD x 0
  new : ∀ x, x < N → ¬ 0 ≤ old.getD x 0 → R x → u.getD x 0 = ((d + 1 : Nat) : Int)
  non : ∀ x, x < N → ¬ 0 ≤ old.getD x 0 → ¬ R x → u.getD x 0 = -1
  some : sm = true ↔ ∃ x, x < N ∧ ¬ 0 ≤ old.getD x 0 ∧ R x
theorem Up.imp {N : Nat} {old u : List Int} {d : Nat} {R R' : Nat → Prop} {sm : Bool} (U : Up N old d R u sm) (h : ∀ x, x < N → (R x ↔ R' x)) : Up N old d R' u sm :=
  ⟨U.len, U.keep, fun x hx h0 hr => U.new x hx h0 ((h x hx).2 hr), fun x hx h0 hr => U.non x hx h0 fun hr' => hr ((h x hx).1 hr'),
    U.some.trans ⟨fun ⟨x, hx, h0, hr⟩ => ⟨x, hx, h0, (h x hx).1 hr⟩, fun ⟨x, hx, h0, hr⟩ => ⟨x, hx, h0, (h x hx).2 hr⟩⟩⟩
theorem getD_set {α : Type} (v : List α) (y x : Nat) (a e : α) : (v.set y a).getD x e = if x = y ∧ y < v.length then a else v.getD x e := by
  rw [List.getD_eq_getElem?_getD, List.getD_eq_getElem?_getD, List.getElem?_set]
  by_cases h : y = x
  · subst h
    by_cases h2 : y < v.length
    · simp [h2]
    · simp [h2]
  · rw [if_neg h, if_neg (fun h' => h h'.1.symm)]
theorem Up.set {N : Nat} {old u : List Int} {d : Nat} {R : Nat → Prop} {sm : Bool} (U : Up N old d R u sm) {y : Nat} (hy : y < N) (h0 : u.getD y 0 < 0) : Up N old d (fun x => R x ∨ x = y) (u.set y ((d + 1 : Nat) : Int)) true := by
  have ho : ¬ 0 ≤ old.getD y 0 := fun h => by rw [U.keep y hy h] at h0; omega
  refine ⟨by rw [List.length_set]; exact U.len, fun x hx h => ?_, fun x hx h hr => ?_, fun x hx h hr => ?_, ⟨fun _ => ⟨y, hy, ho, .inr rfl⟩, fun _ => rfl⟩⟩
  · rw [getD_set, if_neg (fun e => ho (by rw [← e.1]; exact h))]; exact U.keep x hx h
  · rw [getD_set]
    by_cases e : x = y
    · rw [if_pos ⟨e, by rw [U.len]; exact hy⟩]
    · rw [if_neg (fun h' => e h'.1)]
      exact U.new x hx h (hr.resolve_right e)
  · rw [getD_set, if_neg (fun h' => hr (.inr h'.1))]
    exact U.non x hx h fun h' => hr (.inl h')
variable {T : List (List Int)} {v : List Bool}
theorem TabP.row (hT : TabP T) {j : Nat} (hj : j < T.length) {i : Nat} (hi : i < T[j].length) : 0 ≤ T[j][i] ∧ T[j][i] < (T.length : Int) := hT _ (List.getElem_mem hj) _ (List.getElem_mem hi)
end Go.Ev

set_option linter.unusedVariables false
set_option linter.unusedSimpArgs false
namespace Go.Ev

/-! ### where one comes, with a row of those still to be looked at -/
noncomputable def rchT (T : List (List Int)) (v : List Bool) : List Bool := (farT T v).map fun x => decide (0 ≤ x)
theorem rchT_length (T : List (List Int)) (v : List Bool) : (rchT T v).length = T.length := by simp [rchT, farT_length]
theorem rchT_get {T : List (List Int)} {v : List Bool} {x : Nat} (h : x < T.length) : ((rchT T v).getD x false = true ↔ RchT T v x) := by
  rw [getD_get (by rw [rchT_length]; exact h)]
  simp only [rchT, List.getElem_map, decide_eq_true_eq]
  unfold RchT
  rw [getD_get (by rw [farT_length]; exact h)]
structure BfsI (T : List (List Int)) (v : List Bool) (is : List Bool) (row : List Int) (D : Nat → Nat → Prop) : Prop where
  len : is.length = T.length
  rows : ∀ y ∈ row, 0 ≤ y ∧ y < (T.length : Int) ∧ is.getD y.toNat false = true
  snd : ∀ x, x < T.length → is.getD x false = true → RchT T v x
  start : ∀ x, x < T.length → v.getD x false = true → is.getD x false = true
  cls : ∀ m x, m < T.length → x < T.length → is.getD m false = true → (x : Int) ∈ T.getD m [] → D m x → is.getD x false = true ∨ (m : Int) ∈ row
variable {T : List (List Int)} {v : List Bool}
theorem BfsI.done {is : List Bool} (I : BfsI T v is [] fun _ _ => True) : is = rchT T v := by
  refine list_ext_getD (d := false) I.len (rchT_length T v) fun x hx => ?_
  rw [Bool.eq_iff_iff, rchT_get hx]
  refine ⟨I.snd x hx, RchT.least (C := fun x => is.getD x false = true) I.start (fun m x hm hx h1 h2 => ?_) x hx⟩
  rcases I.cls m x hm hx h1 h2 trivial with h | h
  · exact h
  · simp at h
/-- Which numbers are in a list. -/
theorem marks_set (p : List Int) (n : Nat) {j : Nat} (hj : j < p.length) (h0 : 0 ≤ p[j]) (h1 : p[j] < (n : Int)) : (marksOf (p.take j) n).set p[j].toNat true = marksOf (p.take (j + 1)) n := by
  refine list_ext_getD (d := false) (n := n) (by simp [marksOf]) (by simp [marksOf]) fun x hx => ?_
  rw [getD_set' _ _ x _ _ (by simp [marksOf]; omega), getD_get (by simpa [marksOf] using hx), getD_get (by simpa [marksOf] using hx), marksOf_get _ _ hx, marksOf_get _ _ hx]
  by_cases e : x = p[j].toNat
  · rw [if_pos e]
    have : (x : Int) ∈ p.take (j + 1) := by rw [mem_take1 hj]; right; omega
    rw [decide_eq_true this]
  · rw [if_neg e]
    have : (x : Int) ≠ p[j] := by omega
    congr 1
    rw [mem_take1 hj]
    simp [this]
theorem marksOf_nil (n : Nat) : marksOf [] n = List.replicate n false := by
  apply List.ext_getElem
  · simp [marksOf]
  · intro i h1 h2; simp [marksOf]
theorem marksOf_getD {p : List Int} {n x : Nat} (h : x < n) : ((marksOf p n).getD x false = true ↔ (x : Int) ∈ p) := by
  rw [getD_get (by rw [marksOf_length]; exact h), marksOf_get _ _ h, decide_eq_true_iff]
theorem l4Marks_eq {k : Nat} {p : List Int} {n : Nat} (h : ∀ x ∈ p, 0 ≤ x ∧ x < (n : Int)) (hn : n ≤ 1048576) (hp : p.length ≤ 1048576) (hk : 1048577 < k) : spec_l4Marks.f k p (n : Int) = some (marksOf p n, ()) := by
  rw [spec_l4Marks.s, gd_t (by omega), gd_t (by omega)]
  refine for_post (m := p.length) (l := fun q u j => spec_l4Marks.l3 k p q u j) (fun j u => u = marksOf (p.take j) n) (fun x => x = some (marksOf p n, ())) (fun q u hI => ?_) (fun q j u hj hI ih => ?_) (by omega) (by simp [marksOf_nil])
  · rw [spec_l4Marks.s3, if_neg (by simp), hI, List.take_length]
  · obtain ⟨h0, h1⟩ := h _ (List.getElem_mem hj)
    have hul : u.length = n := by rw [hI, marksOf_length]
    simp (disch := omega) only [spec_l4Marks.s3, gd_t, toNat_nat, getD_get hj, w64_id]
    rw [if_pos (by simpa using hj)]
    exact ih _ (by rw [hI, marks_set p n hj h0 h1])
end Go.Ev

set_option linter.unusedVariables false
set_option linter.unusedSimpArgs false
namespace Go.Ev

/-! ### BlockReach -/
theorem firstT_StP {s : SY} (hS : SysP s) : StP s.1 (firstT s) := by
  rw [StP_iff]
  refine ⟨firstT_length s, fun i h h' => ?_⟩
  have := hS.vp _ (List.getElem_mem h)
  simp only [firstT, List.getElem_map]
  exact ⟨this.2.2.2.2.1, this.2.2.2.2.2⟩
noncomputable def n0 (s : SY) : Nat := noOf s.1 (firstT s)
theorem n0_lt {s : SY} (hS : SysP s) : n0 s < prodW s.1 := noOf_lt (firstT_StP hS) hS.vp
theorem first_eq {k : Nat} {s : SY} (hS : SysP s) (hk : 1000 < k) : impl_first.f k s = some (firstT s, ()) := by
  have h5 := hS.v5
  rw [impl_first.s]
  refine push_loop (l := fun n v j => impl_first.l3 k s n v j) (ys := firstT s) (m := s.1.length) (firstT_length s) (fun n j v hj hv' => ?_) (fun n => ?_) (by omega)
  · simp (disch := omega) only [impl_first.s3, getD_get, w64_id, toNat_nat, gd_t]
    rw [if_pos (by simpa using hj), gd_t (by simp; omega)]
    simp [firstT]
  · rw [impl_first.s3, if_neg (by simp), clone_int_eq (k := k) (p := firstT s) (by rw [firstT_length]; omega)]
    rfl
theorem mem_one {x y : Int} : x ∈ [y] ↔ x = y := by simp
theorem listOf_eq {k : Nat} (v : List Bool) (hv : v.length ≤ 1048576) (hk : 1048576 < k) : impl_listOf.f k v = some (listT v, ()) := by
  rw [impl_listOf.s]
  refine for_post (m := v.length) (l := fun n l j => impl_listOf.l3 k v n l j) (fun j l => l = ((List.range j).filter fun i => v.getD i false).map (fun (i : Nat) => (i : Int)) ∧ l.length ≤ j) (fun x => x = some (listT v, ())) (fun n l hI => ?_) (fun n j l hj hI ih => ?_) (by omega) (by simp)
  · have hl := hI.2
    rw [impl_listOf.s3, if_neg (by simp), clone_int_eq (by omega), hI.1]
    simp [listT]
  · simp (disch := omega) only [impl_listOf.s3, gd_t, toNat_nat, w64_id]
    rw [if_pos (by simpa using hj)]
    by_cases hb : v.getD j false = true
    · rw [if_pos hb, gd_t (by have := hI.2; simp; omega)]
      exact ih _ ⟨by rw [hI.1, List.range_succ, List.filter_append]; simp [hb, -List.getD_eq_getElem?_getD], by have := hI.2; simp; omega⟩
    · rw [if_neg hb]
      exact ih _ ⟨by rw [hI.1, List.range_succ, List.filter_append]; simp [hb, -List.getD_eq_getElem?_getD], by omega⟩
theorem listT_length (v : List Bool) : (listT v).length ≤ v.length := by
  have := List.length_filter_le (fun i => v.getD i false) (List.range v.length)
  simpa [listT] using this
end Go.Ev

set_option linter.unusedVariables false
set_option linter.unusedSimpArgs false
namespace Go.Ev

/-! ### where an expression is true -/
noncomputable def whereT (s : SY) (p : List TM) : List Bool := (List.range (prodW s.1)).map fun n => evalT p (stOf s.1 n) == 1
theorem whereT_length (s : SY) (p : List TM) : (whereT s p).length = prodW s.1 := by simp [whereT]
theorem whereT_getD {s : SY} {p : List TM} {n : Nat} (h : n < prodW s.1) : (whereT s p).getD n false = (evalT p (stOf s.1 n) == 1) := by
  rw [getD_get (by rw [whereT_length]; exact h)]; simp [whereT]
theorem where_eq {k : Nat} {s : SY} {p : List TM} (E : Env k s) (hp : KindIs p s.1.length 2) (hk : 1048577 < k) : impl_where.f k s p = some (whereT s p, ()) := by
  have hS := E.S
  have hsz := hS.sz
  rw [impl_where.s, E.iz]
  simp only [Option.bind_some]
  rw [gd_t (by omega), gd_t (by omega)]
  simp only [toNat_nat, List.length_replicate]
  refine for_post (m := prodW s.1) (l := fun n u j => impl_where.l3 k s p n u ((prodW s.1 : Nat) : Int) j) (fun j u => u.length = prodW s.1 ∧ ∀ x, x < j → u.getD x false = (whereT s p).getD x false) (fun x => x = some (whereT s p, ())) (fun n u hI => ?_) (fun n j u hj hI ih => ?_) (by omega) ⟨by simp, fun x hx => by omega⟩
  · rw [impl_where.s3, if_neg (by simp), list_ext_getD (d := false) hI.1 (whereT_length s p) hI.2]
  · have hul := hI.1
    have hst := (stOf_StP j hS.vp).range hS.vp
    simp only [impl_where.s3]
    rw [if_pos (by simpa using hj), stateAt_eq hS j (by omega) (by omega)]
    simp only [Option.bind_some]
    rw [eval_eq hp hst (by omega)]
    simp (disch := omega) only [Option.bind_some, gd_t, toNat_nat, w64_id]
    refine ih _ ⟨by rw [List.length_set]; exact hul, fun x hx => ?_⟩
    rw [getD_set' u j x _ false (by omega)]
    by_cases e : x = j
    · rw [if_pos e, e, whereT_getD hj]
    · rw [if_neg e]; exact hI.2 x (by omega)
theorem StatesWhere_eq {k : Nat} {s : SY} {p : List TM} (E : Env k s) (hp : KindIs p s.1.length 2) (hi : spec_l2Is.f k p (s.1.length : Int) 2 = some (true, ())) (hk : 1048577 < k) : spec_StatesWhere.f k s p = some (listT (whereT s p), ()) := by
  have hS := E.S
  have hsz := hS.sz
  rw [spec_StatesWhere.s, E.hv]
  simp only [Option.bind_some]
  rw [if_neg (by simp), hi]
  simp only [Option.bind_some]
  rw [if_neg (by simp)]
  refine for_post (m := prodW s.1) (l := fun n l j => spec_StatesWhere.l5 k s p n l j) (fun j l => l = ((List.range j).filter fun i => (whereT s p).getD i false).map (fun (i : Nat) => (i : Int)) ∧ l.length ≤ j) (fun x => x = some (listT (whereT s p), ())) (fun n l hI => ?_) (fun n j l hj hI ih => ?_) (by omega) (by simp)
  · rw [spec_StatesWhere.s5, E.hz]
    simp only [Option.bind_some]
    rw [if_neg (by simp), hI.1]
    simp [listT, whereT_length]
  · have hst := (stOf_StP j hS.vp).range hS.vp
    rw [spec_StatesWhere.s5, E.hz]
    simp only [Option.bind_some]
    rw [if_pos (by simpa using hj), l4State_eq hS E.hv j (by omega) (by omega)]
    simp only [Option.bind_some]
    rw [l2Last_eq hp hst (by omega)]
    simp (disch := omega) only [Option.bind_some, w64_id]
    rw [← whereT_getD hj]
    by_cases hb : (whereT s p).getD j false = true
    · rw [if_pos hb, gd_t (by have := hI.2; simp; omega)]
      exact ih _ ⟨by rw [hI.1, List.range_succ, List.filter_append]; simp [hb, -List.getD_eq_getElem?_getD], by have := hI.2; simp; omega⟩
    · rw [if_neg hb]
      exact ih _ ⟨by rw [hI.1, List.range_succ, List.filter_append]; simp [hb, -List.getD_eq_getElem?_getD], by omega⟩
/-! ### sets without others -/
theorem asc_SetAt {p : List Int} (ha : Asc p) (n : Int) (hb : ∀ x ∈ p, 0 ≤ x ∧ x < n) : ∀ i, i < p.length → SetAt p n i := by
  intro i hi
  have := hb _ (List.getElem_mem hi)
  exact ⟨hi, ⟨by omega, by omega⟩, fun h0 => List.pairwise_iff_getElem.1 ha (i - 1) i (by omega) hi (by omega)⟩
theorem l4Set_eq {k : Nat} {p : List Int} (ha : Asc p) (hb : ∀ x ∈ p, 0 ≤ x ∧ x < 400) (hp : p.length ≤ 1048576) (hk : 1048576 < k) : spec_l4Set.f k p = some (true, ()) := by
  rw [spec_l4Set.s]
  refine for_post (m := p.length) (l := fun n (_ : Unit) j => spec_l4Set.l2 k p n j) (fun _ _ => True) (fun x => x = some (true, ())) (fun n _ _ => ?_) (fun n j _ hj _ ih => ?_) (s := ()) (by omega) trivial
  · simp [spec_l4Set.s2]
  · obtain ⟨h1, h2, h3⟩ := asc_SetAt ha 400 hb j hj
    simp (disch := omega) only [spec_l4Set.s2, gd_t, toNat_nat, getD_get hj, spec_in_eq, Option.bind_some, w64_id]
    rw [if_pos (by simpa using hj), decide_eq_true (show 0 ≤ p[j] ∧ p[j] ≤ 399 by omega), if_neg (by simp)]
    by_cases h0 : 0 < j
    · have h4 := h3 h0
      have hc : ((j : Int) - 1) = ((j - 1 : Nat) : Int) := by omega
      rw [if_pos (by simpa using h0)]
      simp (disch := omega) only [hc, gd_t, toNat_nat, getD_get (show j - 1 < p.length by omega)]
      rw [if_neg (by simp; omega)]
      exact ih () trivial
    · rw [if_neg (by simpa using h0)]
      exact ih () trivial
theorem SetWithout_eq {k : Nat} {a b : List Int} (ha : Asc a) (hb : Asc b) (ha' : ∀ x ∈ a, 0 ≤ x ∧ x < 400) (hb' : ∀ x ∈ b, 0 ≤ x ∧ x < 400) (hal : a.length ≤ 1048576) (hbl : b.length ≤ 1048576) (hk : 1048577 < k) :
    ∃ r, spec_SetWithout.f k a b = some (r, ()) ∧ Asc r ∧ ∀ x, x ∈ r ↔ x ∈ a ∧ x ∉ b := by
  rw [spec_SetWithout.s, spec_l4Mix.s, l4Set_eq ha ha' hal (by omega), l4Set_eq hb hb' hbl (by omega)]
  simp only [Option.bind_some]
  rw [if_neg (by simp), if_neg (by simp)]
  have m1 := l4Marks_eq (k := k) (p := a) (n := 400) ha' (by omega) hal hk
  have m2 := l4Marks_eq (k := k) (p := b) (n := 400) hb' (by omega) hbl hk
  rw [show ((400 : Nat) : Int) = 400 from rfl] at m1 m2
  rw [m1, m2]
  simp only [Option.bind_some]
  have l1 := marksOf_length a 400
  have l2 := marksOf_length b 400
  have key : spec_l4Mix.l7 k 2 k [] (marksOf a 400) (marksOf b 400) 0 = some (((List.range 400).filter fun i => (marksOf a 400).getD i false && !(marksOf b 400).getD i false).map (fun (i : Nat) => (i : Int)), ()) := by
    refine for_post (m := 400) (l := fun n l j => spec_l4Mix.l7 k 2 n l (marksOf a 400) (marksOf b 400) j) (fun j l => l = ((List.range j).filter fun i => (marksOf a 400).getD i false && !(marksOf b 400).getD i false).map (fun (i : Nat) => (i : Int)) ∧ l.length ≤ j) (fun x => x = _) (fun n l hI => ?_) (fun n j l hj hI ih => ?_) (by omega) (by simp)
    · rw [spec_l4Mix.s7, if_neg (by simp), hI.1]
    · rw [spec_l4Mix.s7, if_pos (by simp; omega), if_neg (c := ((2 : Int) == 0) = true) (by simp), if_neg (c := ((2 : Int) == 1) = true) (by simp), if_pos (c := ((2 : Int) == 2) = true) (by simp)]
      simp (disch := omega) only [gd_t, toNat_nat, w64_id]
      cases h1 : (marksOf a 400).getD j false with
      | false =>
        simp only [Bool.false_eq_true, if_false]
        exact ih _ ⟨by rw [hI.1, List.range_succ, List.filter_append]; simp [h1, -List.getD_eq_getElem?_getD], by omega⟩
      | true =>
        cases h2 : (marksOf b 400).getD j false with
        | true =>
          simp only [Bool.not_true, Bool.false_eq_true, if_false, if_true]
          exact ih _ ⟨by rw [hI.1, List.range_succ, List.filter_append]; simp [h1, h2, -List.getD_eq_getElem?_getD], by omega⟩
        | false =>
          simp only [Bool.not_false, if_true]
          rw [gd_t (by have := hI.2; simp; omega)]
          exact ih _ ⟨by rw [hI.1, List.range_succ, List.filter_append]; simp [h1, h2, -List.getD_eq_getElem?_getD], by have := hI.2; simp; omega⟩
  rw [key]
  refine ⟨_, rfl, ?_, fun x => ?_⟩
  · unfold Asc
    rw [List.pairwise_map]
    exact (List.Pairwise.filter _ List.pairwise_lt_range).imp fun h => by omega
  · simp only [List.mem_map, List.mem_filter, List.mem_range, Bool.and_eq_true, Bool.not_eq_true']
    constructor
    · rintro ⟨i, ⟨hi, h1, h2⟩, rfl⟩
      refine ⟨(marksOf_getD hi).1 h1, fun h => ?_⟩
      rw [(marksOf_getD hi).2 h] at h2; cases h2
    · rintro ⟨h1, h2⟩
      have hx := ha' x h1
      have e : ((x.toNat : Nat) : Int) = x := by omega
      refine ⟨x.toNat, ⟨by omega, (marksOf_getD (by omega)).2 (by rw [e]; exact h1), ?_⟩, e⟩
      cases h : (marksOf b 400).getD x.toNat false with
      | false => rfl
      | true => rw [marksOf_getD (by omega), e] at h; exact absurd h h2
theorem listT_bd {v : List Bool} {n : Nat} (h : v.length ≤ n) : ∀ x ∈ listT v, 0 ≤ x ∧ x < (n : Int) := by
  intro x hx
  obtain ⟨i, hi, _, rfl⟩ := mem_listT.1 hx
  omega
theorem mem_listT' {v : List Bool} {n : Nat} (hn : n < v.length) : ((n : Int) ∈ listT v ↔ v.getD n false = true) := by
  rw [mem_listT]
  constructor
  · rintro ⟨i, _, h, e⟩
    have : i = n := by omega
    subst this; exact h
  · exact fun h => ⟨n, hn, h, rfl⟩

/-! ### AlwaysByBlocks -/
end Go.Ev

set_option linter.unusedVariables false
set_option linter.unusedSimpArgs false
namespace Go.Ev

/-! ### functions of the library that take a test -/
theorem IndexFunc_eq {k : Nat} {p : List Int} {f : Int → Option Bool} {b : Int → Bool} (hf : ∀ x ∈ p, f x = some (b x)) (hp : p.length ≤ 1048576) (hk : 1048576 < k) :
    slices_IndexFunc_int_int.f k p f = some (if p.findIdx b < p.length then ((p.findIdx b : Nat) : Int) else -1, ()) := by
  rw [slices_IndexFunc_int_int.s]
  refine for_post (m := p.length) (l := fun n (_ : Unit) j => slices_IndexFunc_int_int.l2 k p f n j) (fun j _ => ∀ i (h : i < p.length), i < j → b p[i] = false) (fun x => x = _) (fun n _ hI => ?_) (fun n j _ hj hI ih => ?_) (s := ()) (by omega) (fun i h hi => by omega)
  · have : ¬ p.findIdx b < p.length := fun h => by
      have h1 := hI _ h h
      have h2 := List.findIdx_getElem (p := b) (xs := p) (w := h)
      rw [h1] at h2; cases h2
    rw [slices_IndexFunc_int_int.s2, if_neg (by simp), if_neg this]
  · simp (disch := omega) only [slices_IndexFunc_int_int.s2, gd_t, toNat_nat, getD_get hj, hf _ (List.getElem_mem hj), Option.bind_some, w64_id]
    rw [if_pos (by simpa using hj)]
    cases hb : b p[j] with
    | true =>
      have hidx : p.findIdx b = j := (List.findIdx_eq hj).2 ⟨hb, fun i hi => hI i (by omega) hi⟩
      rw [if_pos rfl, hidx, if_pos hj]
    | false =>
      rw [if_neg (by simp)]
      exact ih () fun i h hi => by
        by_cases e : i = j
        · subst e; exact hb
        · exact hI i h (by omega)
theorem ContainsFunc_eq {k : Nat} {p : List Int} {f : Int → Option Bool} {b : Int → Bool} (hf : ∀ x ∈ p, f x = some (b x)) (hp : p.length ≤ 1048576) (hk : 1048576 < k) : slices_ContainsFunc_int_int.f k p f = some (p.any b, ()) := by
  rw [slices_ContainsFunc_int_int.s, IndexFunc_eq hf hp hk, Option.bind_some]
  congr 2
  rw [Bool.eq_iff_iff, decide_eq_true_iff, List.any_eq_true]
  constructor
  · intro h
    split at h
    · rename_i hi
      exact ⟨_, List.getElem_mem hi, List.findIdx_getElem (w := hi)⟩
    · omega
  · rintro ⟨x, hx, hb⟩
    have := List.findIdx_lt_length_of_exists ⟨x, hx, hb⟩
    rw [if_pos this]; omega
theorem DeleteFunc_eq {k : Nat} {p : List Int} {f : Int → Option Bool} {b : Int → Bool} (hf : ∀ x ∈ p, f x = some (b x)) (hp : p.length ≤ 1048576) (hk : 1048577 < k) : slices_DeleteFunc_int_int.f k p f = some (p.filter fun x => !b x, ()) := by
  rw [slices_DeleteFunc_int_int.s, IndexFunc_eq hf hp (by omega), Option.bind_some]
  by_cases hi : p.findIdx b < p.length
  · have hbefore : ∀ j, j ≤ p.findIdx b → (p.take j).filter (fun x => !b x) = p.take j := fun j hj => by
      rw [List.filter_eq_self]
      intro x hx
      obtain ⟨i, hi', rfl⟩ := List.mem_iff_getElem.1 hx
      rw [List.length_take] at hi'
      rw [List.getElem_take]
      have := List.not_of_lt_findIdx (p := b) (xs := p) (i := i) (by omega)
      simpa using this
    have hb := List.findIdx_getElem (p := b) (xs := p) (w := hi)
    simp only [if_pos hi]
    rw [if_neg (by simp <;> omega)]
    obtain ⟨i0, hi0⟩ : ∃ i0, i0 = p.findIdx b := ⟨_, rfl⟩
    simp only [← hi0] at hi hbefore hb ⊢
    rw [w64_id (by omega) (by omega)]
    refine for_from (a := i0 + 1) (m := p.length) (by omega) (l := fun n (u : List Int × Int) j => slices_DeleteFunc_int_int.l5 k f n u.1 u.2 j) (fun j u => ∃ i : Nat, u.2 = (i : Int) ∧ i < j ∧ u.1.length = p.length ∧ u.1.take i = (p.take j).filter (fun x => !b x) ∧ u.1.drop j = p.drop j) (fun x => x = some (p.filter fun x => !b x, ())) (fun n u hI => ?_) (fun n j u haj hj hI ih => ?_) (k := k) (s := (p, (i0 : Int))) (by omega) ⟨i0, rfl, by omega, rfl, ?_, rfl⟩
    · obtain ⟨i, h1, h2, h3, h4, h5⟩ := hI
      obtain ⟨u, v⟩ := u
      simp only at h1 h3 h4 h5 ⊢
      subst h1
      rw [List.take_length] at h4
      rw [slices_DeleteFunc_int_int.s5, if_neg (by simp [h3]), gd_t (by omega), gd_t (by omega), gd_t (by omega), gd_t (by omega), gd_t (by simp; omega)]
      rw [toNat_nat, List.take_left' (by rw [List.length_take]; omega), show Int.toNat 0 = 0 from rfl, List.drop_zero, h4]
    · obtain ⟨i, h1, h2, h3, h4, h5⟩ := hI
      obtain ⟨u, v⟩ := u
      simp only at h1 h3 h4 h5 ih ⊢
      subst h1
      have huj : u[j] = p[j] := by
        have := congrArg (fun x => x[0]?) h5
        simpa [List.getElem?_eq_getElem hj, List.getElem?_eq_getElem (l := u) (i := j) (by omega)] using this
      have hju : j < u.length := by omega
      simp (disch := omega) only [slices_DeleteFunc_int_int.s5, gd_t, toNat_nat, getD_get hju, huj, hf _ (List.getElem_mem hj), Option.bind_some, w64_id]
      rw [if_pos (by rw [h3]; simpa using hj)]
      have hdrop : ∀ w : List Int, w.drop j = p.drop j → w.drop (j + 1) = p.drop (j + 1) := fun w hw => by
        have := congrArg List.tail hw
        simpa using this
      have htake : (p.take (j + 1)).filter (fun x => !b x) = (p.take j).filter (fun x => !b x) ++ (if b p[j] = true then [] else [p[j]]) := by
        rw [List.take_succ_eq_append_getElem hj, List.filter_append]
        cases hbj : b p[j] <;> simp [hbj]
      cases hbj : b p[j] with
      | true =>
        rw [if_neg (by simp)]
        exact ih (u, (i : Int)) ⟨i, rfl, by omega, h3, by rw [htake, hbj, h4]; simp, hdrop u h5⟩
      | false =>
        rw [if_pos (by simp)]
        refine ih (u.set i p[j], ((i : Int) + 1)) ⟨i + 1, by simp only; omega, by omega, by simp only [List.length_set]; exact h3, ?_, ?_⟩
        · simp only
          rw [take_set (by omega), htake, hbj, h4]; simp
        · simp only
          rw [List.drop_set_of_lt (by omega)]; exact hdrop u h5
    · simp only
      rw [List.take_succ_eq_append_getElem hi, List.filter_append, hbefore i0 (Nat.le_refl _)]
      simp [hb]
  · simp only [if_neg hi]
    rw [if_pos (by simp)]
    congr 2
    refine (List.filter_eq_self.2 fun x hx => ?_).symm
    cases hb : b x with
    | false => rfl
    | true => exact absurd (List.findIdx_lt_length_of_exists ⟨x, hx, hb⟩) hi

/-! ### what is behind a set -/
noncomputable def behT (T : List (List Int)) (v : List Bool) : List Bool := by
  classical
  exact (List.range T.length).map fun (x : Nat) => decide (∃ m, m < T.length ∧ v.getD m false = true ∧ (x : Int) ∈ T.getD m [])
theorem behT_length (T : List (List Int)) (v : List Bool) : (behT T v).length = T.length := by simp [behT]
theorem behT_getD {T : List (List Int)} {v : List Bool} {x : Nat} (h : x < T.length) : ((behT T v).getD x false = true ↔ ∃ m, m < T.length ∧ v.getD m false = true ∧ (x : Int) ∈ T.getD m []) := by
  rw [getD_get (by rw [behT_length]; exact h)]
  simp only [behT, List.getElem_map, List.getElem_range, decide_eq_true_iff]
/-- A row of marks, by what is marked. -/
structure MarkI (N : Nat) (R : Nat → Prop) (u : List Bool) : Prop where
  len : u.length = N
  iff : ∀ x, x < N → (u.getD x false = true ↔ R x)
theorem MarkI.imp {N : Nat} {R R' : Nat → Prop} {u : List Bool} (M : MarkI N R u) (h : ∀ x, x < N → (R x ↔ R' x)) : MarkI N R' u := ⟨M.len, fun x hx => (M.iff x hx).trans (h x hx)⟩
theorem MarkI.set {N : Nat} {R : Nat → Prop} {u : List Bool} (M : MarkI N R u) {y : Nat} (hy : y < N) : MarkI N (fun x => R x ∨ x = y) (u.set y true) := by
  refine ⟨by rw [List.length_set]; exact M.len, fun x hx => ?_⟩
  rw [getD_set' u y x _ _ (by rw [M.len]; exact hy)]
  by_cases e : x = y
  · simp [e]
  · simp [e, M.iff x hx, -List.getD_eq_getElem?_getD]
theorem MarkI.nil (N : Nat) {R : Nat → Prop} (h : ∀ x, x < N → ¬ R x) : MarkI N R (List.replicate N false) := ⟨by simp, fun x hx => by
  rw [getD_get (by simpa using hx)]; simp [h x hx]⟩
theorem MarkI.uniq {N : Nat} {R : Nat → Prop} {u v : List Bool} (M : MarkI N R u) (M' : MarkI N R v) : u = v := list_ext_getD (d := false) M.len M'.len fun x hx => by
  rw [Bool.eq_iff_iff, M.iff x hx, M'.iff x hx]
theorem behT_mark (T : List (List Int)) (v : List Bool) : MarkI T.length (fun x => ∃ m, m < T.length ∧ v.getD m false = true ∧ (x : Int) ∈ T.getD m []) (behT T v) := ⟨behT_length T v, fun x hx => behT_getD hx⟩
theorem over_eq {k : Nat} {T : List (List Int)} {p : List Int} (hT : TabP T) (hN : T.length ≤ 1048576) (hr : ∀ r ∈ T, r.length ≤ 1048576) (hp : ∀ x ∈ p, 0 ≤ x ∧ x < (T.length : Int)) (hpl : p.length ≤ 1048576) (hk : 1048577 < k) : impl_over.f k T p = some (listT (behT T (marksOf p T.length)), ()) := by
  rw [impl_over.s, gd_t (by omega), gd_t (by omega)]
  simp only [toNat_nat]
  refine for_post (m := p.length) (l := fun n u j => impl_over.l3 k T p n u j) (fun j u => MarkI T.length (fun x => ∃ n ∈ p.take j, (x : Int) ∈ T.getD n.toNat []) u) (fun x => x = some (listT (behT T (marksOf p T.length)), ())) (fun n u hI => ?_) (fun n j u hj hI ih => ?_) (by omega) (MarkI.nil _ fun x hx ⟨n, hn, _⟩ => by simp at hn)
  · rw [List.take_length] at hI
    have hu : u = behT T (marksOf p T.length) := MarkI.uniq hI ((behT_mark T _).imp fun x hx => by
      constructor
      · rintro ⟨m, hm, h1, h2⟩
        exact ⟨(m : Int), (marksOf_getD hm).1 h1, by rw [toNat_nat]; exact h2⟩
      · rintro ⟨n, hn, h2⟩
        have := hp n hn
        refine ⟨n.toNat, by omega, (marksOf_getD (by omega)).2 ?_, h2⟩
        rw [show ((n.toNat : Nat) : Int) = n by omega]; exact hn)
    rw [impl_over.s3, if_neg (by simp), hu, listOf_eq _ (by rw [behT_length]; exact hN) (by omega)]
    rfl
  · obtain ⟨h0, h1⟩ := hp _ (List.getElem_mem hj)
    have hjT : p[j].toNat < T.length := by omega
    have hrow : T.getD p[j].toNat [] = T[p[j].toNat] := getD_get hjT
    have hrl := hr _ (List.getElem_mem hjT)
    simp (disch := omega) only [impl_over.s3, gd_t, toNat_nat, getD_get hj]
    rw [if_pos (by simpa using hj)]
    refine for_post (m := T[p[j].toNat].length) (l := fun q w i => impl_over.l6 k n T p (j : Int) q w i) (fun i w => MarkI T.length (fun x => (∃ n ∈ p.take j, (x : Int) ∈ T.getD n.toNat []) ∨ (x : Int) ∈ T[p[j].toNat].take i) w) (fun x => x = some (listT (behT T (marksOf p T.length)), ())) (fun q w hW => ?_) (fun q i w hi hW ih2 => ?_) (by omega) (hI.imp fun x hx => by simp)
    · simp (disch := omega) only [impl_over.s6, toNat_nat, getD_get hj, hrow, w64_id]
      rw [if_neg (by simp)]
      refine ih _ (hW.imp fun x hx => ?_)
      rw [List.take_length]
      constructor
      · rintro (⟨m, hm, h⟩ | h)
        · exact ⟨m, (mem_take1 hj m).2 (.inl hm), h⟩
        · exact ⟨p[j], (mem_take1 hj _).2 (.inr rfl), by rw [hrow]; exact h⟩
      · rintro ⟨m, hm, h⟩
        rcases (mem_take1 hj m).1 hm with hm | hm
        · exact .inl ⟨m, hm, h⟩
        · right; rw [hm, hrow] at h; exact h
    · have hx := hT.row hjT hi
      have hwl := hW.len
      simp (disch := omega) only [impl_over.s6, gd_t, toNat_nat, getD_get hj, hrow, getD_get hi, w64_id]
      rw [if_pos (by simpa using hi)]
      refine ih2 _ ((hW.set (y := T[p[j].toNat][i].toNat) (by omega)).imp fun x hx' => ?_)
      rw [mem_take1 hi, or_assoc, show x = T[p[j].toNat][i].toNat ↔ (x : Int) = T[p[j].toNat][i] by omega]
theorem l4Behind_eq {k : Nat} {T : List (List Int)} {v : List Bool} (hT : TabP T) (hv : v.length = T.length) (hN : T.length ≤ 1048576) (hr : ∀ r ∈ T, r.length ≤ 1048576) (hk : 1048577 < k) : spec_l4Behind.f k T v = some (behT T v, ()) := by
  rw [spec_l4Behind.s, gd_t (by omega), gd_t (by omega)]
  simp only [toNat_nat]
  refine for_post (m := T.length) (l := fun n u j => spec_l4Behind.l3 k T v n u j) (fun j u => MarkI T.length (fun x => ∃ m, m < j ∧ v.getD m false = true ∧ (x : Int) ∈ T.getD m []) u) (fun x => x = some (behT T v, ())) (fun n u hI => ?_) (fun n j u hj hI ih => ?_) (by omega) (MarkI.nil _ fun x hx ⟨n, hn, _⟩ => by omega)
  · rw [spec_l4Behind.s3, if_neg (by simp), hI.uniq (behT_mark T v)]
  · have hrow : T.getD j [] = T[j] := getD_get hj
    have hrl := hr _ (List.getElem_mem hj)
    simp only [spec_l4Behind.s3]
    rw [if_pos (by simpa using hj)]
    refine for_post (m := T[j].length) (l := fun q w i => spec_l4Behind.l6 k n T v (j : Int) q w i) (fun i w => MarkI T.length (fun x => (∃ m, m < j ∧ v.getD m false = true ∧ (x : Int) ∈ T.getD m []) ∨ (v.getD j false = true ∧ (x : Int) ∈ T[j].take i)) w) (fun x => x = some (behT T v, ())) (fun q w hW => ?_) (fun q i w hi hW ih2 => ?_) (by omega) (hI.imp fun x hx => by simp)
    · simp (disch := omega) only [spec_l4Behind.s6, gd_t, toNat_nat, hrow, w64_id]
      rw [if_neg (by simp)]
      refine ih _ (hW.imp fun x hx => ?_)
      rw [List.take_length]
      constructor
      · rintro (⟨m, hm, h⟩ | h)
        · exact ⟨m, by omega, h⟩
        · exact ⟨j, by omega, by rw [hrow]; exact h⟩
      · rintro ⟨m, hm, h⟩
        rcases Nat.lt_or_ge m j with h' | h'
        · exact .inl ⟨m, h', h⟩
        · have : m = j := by omega
          subst this
          right; rw [hrow] at h; exact h
    · have hx := hT.row hj hi
      have hwl := hW.len
      simp (disch := omega) only [spec_l4Behind.s6, gd_t, toNat_nat, hrow, getD_get hi, w64_id]
      rw [if_pos (by simpa using hi)]
      cases hb : v.getD j false with
      | false =>
        rw [if_neg (by simp)]
        refine ih2 _ (hW.imp fun x hx' => ?_)
        simp [hb, -List.getD_eq_getElem?_getD]
      | true =>
        rw [if_pos rfl]
        refine ih2 _ ((hW.set (y := T[j][i].toNat) (by omega)).imp fun x hx' => ?_)
        rw [hb, mem_take1 hi, show x = T[j][i].toNat ↔ (x : Int) = T[j][i] by omega]
        constructor
        · rintro ((h | ⟨_, h⟩) | h)
          · exact .inl h
          · exact .inr ⟨rfl, .inl h⟩
          · exact .inr ⟨rfl, .inr h⟩
        · rintro (h | ⟨_, h | h⟩)
          · exact .inl (.inl h)
          · exact .inl (.inr ⟨rfl, h⟩)
          · exact .inr h
end Go.Ev

set_option linter.unusedVariables false
set_option linter.unusedSimpArgs false
namespace Go.Ev

/-! ### both sets -/
theorem SetBoth_eq {k : Nat} {a b : List Int} (ha : Asc a) (hb : Asc b) (ha' : ∀ x ∈ a, 0 ≤ x ∧ x < 400) (hb' : ∀ x ∈ b, 0 ≤ x ∧ x < 400) (hal : a.length ≤ 1048576) (hbl : b.length ≤ 1048576) (hk : 1048577 < k) :
    ∃ r, spec_SetBoth.f k a b = some (r, ()) ∧ Asc r ∧ ∀ x, x ∈ r ↔ x ∈ a ∧ x ∈ b := by
  rw [spec_SetBoth.s, spec_l4Mix.s, l4Set_eq ha ha' hal (by omega), l4Set_eq hb hb' hbl (by omega)]
  simp only [Option.bind_some]
  rw [if_neg (by simp), if_neg (by simp)]
  have m1 := l4Marks_eq (k := k) (p := a) (n := 400) ha' (by omega) hal hk
  have m2 := l4Marks_eq (k := k) (p := b) (n := 400) hb' (by omega) hbl hk
  rw [show ((400 : Nat) : Int) = 400 from rfl] at m1 m2
  rw [m1, m2]
  simp only [Option.bind_some]
  have l1 := marksOf_length a 400
  have l2 := marksOf_length b 400
  have key : spec_l4Mix.l7 k 0 k [] (marksOf a 400) (marksOf b 400) 0 = some (((List.range 400).filter fun i => (marksOf a 400).getD i false && (marksOf b 400).getD i false).map (fun (i : Nat) => (i : Int)), ()) := by
    refine for_post (m := 400) (l := fun n l j => spec_l4Mix.l7 k 0 n l (marksOf a 400) (marksOf b 400) j) (fun j l => l = ((List.range j).filter fun i => (marksOf a 400).getD i false && (marksOf b 400).getD i false).map (fun (i : Nat) => (i : Int)) ∧ l.length ≤ j) (fun x => x = _) (fun n l hI => ?_) (fun n j l hj hI ih => ?_) (by omega) (by simp)
    · rw [spec_l4Mix.s7, if_neg (by simp), hI.1]
    · have e1 : ((0 : Int) == 1) = false := by simp
      have e2 : ((0 : Int) == 2) = false := by simp
      rw [spec_l4Mix.s7, if_pos (by simp; omega), if_pos (c := ((0 : Int) == 0) = true) (by simp)]
      simp (disch := omega) only [gd_t, toNat_nat, w64_id, e1, e2, Bool.false_eq_true, if_false]
      cases h1 : (marksOf a 400).getD j false with
      | false =>
        simp only [Bool.false_eq_true, if_false]
        exact ih _ ⟨by rw [hI.1, List.range_succ, List.filter_append]; simp [h1, -List.getD_eq_getElem?_getD], by omega⟩
      | true =>
        cases h2 : (marksOf b 400).getD j false with
        | false =>
          simp only [Bool.false_eq_true, if_false, if_true]
          exact ih _ ⟨by rw [hI.1, List.range_succ, List.filter_append]; simp [h1, h2, -List.getD_eq_getElem?_getD], by omega⟩
        | true =>
          simp only [if_true]
          rw [gd_t (by have := hI.2; simp; omega)]
          exact ih _ ⟨by rw [hI.1, List.range_succ, List.filter_append]; simp [h1, h2, -List.getD_eq_getElem?_getD], by have := hI.2; simp; omega⟩
  rw [key]
  refine ⟨_, rfl, ?_, fun x => ?_⟩
  · unfold Asc
    rw [List.pairwise_map]
    exact (List.Pairwise.filter _ List.pairwise_lt_range).imp fun h => by omega
  · simp only [List.mem_map, List.mem_filter, List.mem_range, Bool.and_eq_true]
    constructor
    · rintro ⟨i, ⟨hi, h1, h2⟩, rfl⟩
      exact ⟨(marksOf_getD hi).1 h1, (marksOf_getD hi).1 h2⟩
    · rintro ⟨h1, h2⟩
      have hx := ha' x h1
      have e : ((x.toNat : Nat) : Int) = x := by omega
      exact ⟨x.toNat, ⟨by omega, (marksOf_getD (by omega)).2 (by rw [e]; exact h1), (marksOf_getD (by omega)).2 (by rw [e]; exact h2)⟩, e⟩

/-! ### states of a block -/
def blockT (b : List Int) (w : Int) : List Int := ((List.range b.length).filter fun i => b.getD i 0 == w).map fun (i : Nat) => (i : Int)
theorem blockT_asc (b : List Int) (w : Int) : Asc (blockT b w) := by
  unfold Asc blockT
  rw [List.pairwise_map]
  exact (List.Pairwise.filter _ List.pairwise_lt_range).imp fun h => by omega
theorem mem_blockT {b : List Int} {w x : Int} : x ∈ blockT b w ↔ 0 ≤ x ∧ x < (b.length : Int) ∧ b.getD x.toNat 0 = w := by
  simp only [blockT, List.mem_map, List.mem_filter, List.mem_range, beq_iff_eq]
  constructor
  · rintro ⟨i, ⟨h1, h2⟩, rfl⟩
    exact ⟨by omega, by omega, by rw [toNat_nat]; exact h2⟩
  · rintro ⟨h1, h2, h3⟩
    exact ⟨x.toNat, ⟨by omega, h3⟩, by omega⟩
theorem blockT_length (b : List Int) (w : Int) : (blockT b w).length ≤ b.length := by
  have := List.length_filter_le (fun i => b.getD i 0 == w) (List.range b.length)
  simpa [blockT] using this
theorem l29Block_eq {k : Nat} (b : List Int) (w : Int) (hb : b.length ≤ 1048576) (hk : 1048576 < k) : spec_l29Block.f k b w = some (blockT b w, ()) := by
  rw [spec_l29Block.s]
  refine for_post (m := b.length) (l := fun n l j => spec_l29Block.l3 k b w n l j) (fun j l => l = ((List.range j).filter fun i => b.getD i 0 == w).map (fun (i : Nat) => (i : Int)) ∧ l.length ≤ j) (fun x => x = some (blockT b w, ())) (fun n l hI => ?_) (fun n j l hj hI ih => ?_) (by omega) (by simp)
  · rw [spec_l29Block.s3, if_neg (by simp), hI.1]; rfl
  · simp (disch := omega) only [spec_l29Block.s3, gd_t, toNat_nat, w64_id]
    rw [if_pos (by simpa using hj)]
    by_cases hb : (b.getD j 0 == w) = true
    · rw [if_pos hb, gd_t (by have := hI.2; simp; omega)]
      exact ih _ ⟨by rw [hI.1, List.range_succ, List.filter_append]; simp [hb, -List.getD_eq_getElem?_getD], by have := hI.2; simp; omega⟩
    · rw [if_neg hb]
      exact ih _ ⟨by rw [hI.1, List.range_succ, List.filter_append]; simp [hb, -List.getD_eq_getElem?_getD], by omega⟩
/-- The states of a set that are of a block. -/
def inB (b : List Int) (w : Int) (now : List Int) : List Int := now.filter fun n => b.getD n.toNat 0 == w
theorem inB_asc {b : List Int} {w : Int} {now : List Int} (h : Asc now) : Asc (inB b w now) := List.Pairwise.filter _ h
theorem mem_inB {b : List Int} {w : Int} {now : List Int} {x : Int} : x ∈ inB b w now ↔ x ∈ now ∧ b.getD x.toNat 0 = w := by simp [inB, -List.getD_eq_getElem?_getD]
noncomputable def goT (T : List (List Int)) (st : List Int) : List Int := listT (behT T (marksOf st T.length))
/-- The sets in which one can be on a way. -/
noncomputable def folT (T : List (List Int)) (b : List Int) : List Int → List Int → List (List Int)
  | [], _ => []
  | w :: ws, now => if (inB b w now).length = 0 then [] else inB b w now :: folT T b ws (goT T (inB b w now))
/-- A set of numbers below n. -/
structure SetN (n : Nat) (p : List Int) : Prop where
  asc : Asc p
  bd : ∀ x ∈ p, 0 ≤ x ∧ x < (n : Int)
theorem asc_len : ∀ {p : List Int} {a n : Nat}, Asc p → (∀ x ∈ p, (a : Int) ≤ x ∧ x < (n : Int)) → p.length ≤ n - a
  | [], a, n, _, _ => by simp
  | x :: l, a, n, h, hb => by
    obtain ⟨h1, h2⟩ := List.pairwise_cons.1 h
    have hx := hb x (by simp)
    have := asc_len (p := l) (a := x.toNat + 1) (n := n) h2 fun y hy => by
      have := h1 y hy
      have := hb y (by simp [hy])
      omega
    simp only [List.length_cons]; omega
theorem SetN.len {n : Nat} {p : List Int} (h : SetN n p) : p.length ≤ n := by
  have := asc_len (a := 0) (n := n) h.asc fun x hx => by have := h.bd x hx; omega
  omega
theorem goT_set {T : List (List Int)} (st : List Int) : SetN T.length (goT T st) := ⟨listT_asc _, listT_bd (by rw [behT_length]; omega)⟩
theorem inB_set {n : Nat} {b : List Int} {w : Int} {now : List Int} (h : SetN n now) : SetN n (inB b w now) := ⟨inB_asc h.asc, fun x hx => h.bd x (mem_inB.1 hx).1⟩
theorem one_set {n x : Nat} (h : x < n) : SetN n [(x : Int)] := ⟨by simp [Asc], fun y hy => by rw [mem_one] at hy; omega⟩
theorem folT_sets {T : List (List Int)} {b : List Int} : ∀ (ws now : List Int), SetN T.length now → (folT T b ws now).length ≤ ws.length ∧ ∀ r ∈ folT T b ws now, SetN T.length r ∧ r.length ≠ 0
  | [], now, h => ⟨by simp [folT], fun r hr => by simp [folT] at hr⟩
  | w :: ws, now, h => by
    unfold folT
    split
    · exact ⟨by simp, fun r hr => by simp at hr⟩
    · rename_i hne
      obtain ⟨h1, h2⟩ := folT_sets ws (goT T (inB b w now)) (goT_set _)
      refine ⟨by simp; omega, fun r hr => ?_⟩
      rcases List.mem_cons.1 hr with e | hr
      · rw [e]; exact ⟨inB_set h, hne⟩
      · exact h2 r hr
theorem l29Follow_eq {k : Nat} {s : SY} {b : List Int} (E : Env k s) (hb : BlkP (prodW s.1) b) (way : List Int) (hw : way.length ≤ 500) (hk : 1048577 < k) : spec_l29Follow.f k s b way = some (folT (stepsT s) b way [(n0 s : Int)], ()) := by
  have hS := E.S
  have hsz := hS.sz
  have hbl := hb.len
  have htl := stepsT_length s
  have hT : TabP (stepsT s) := fun r hr x hx => by
    obtain ⟨n, _, rfl⟩ := List.mem_map.1 hr
    rw [htl]; exact rowT_mem hx hS
  have hrl : ∀ r ∈ stepsT s, r.length ≤ 1048576 := fun r hr => by
    obtain ⟨n, _, rfl⟩ := List.mem_map.1 hr
    have := rowT_len s n; have := hS.r8; omega
  rw [spec_l29Follow.s, l4Steps_eq hS E.hv E.hz hk]
  simp only [Option.bind_some]
  rw [FirstState_eq hS E.hv (by omega)]
  simp only [Option.bind_some]
  rw [l4Number_eq hS (firstT_StP hS) (by omega)]
  simp only [Option.bind_some]
  rw [show noOf s.1 (firstT s) = n0 s from rfl]
  refine for_post (m := way.length) (l := fun n (u : List Int × List (List Int)) j => spec_l29Follow.l5 k b way n (stepsT s) u.1 u.2 j) (fun j u => SetN (prodW s.1) u.1 ∧ u.2.length ≤ j ∧ u.2 ++ folT (stepsT s) b (way.drop j) u.1 = folT (stepsT s) b way [(n0 s : Int)]) (fun x => x = some (folT (stepsT s) b way [(n0 s : Int)], ())) (fun n u hI => ?_) (fun n j u hj hI ih => ?_) (s := ([(n0 s : Int)], [])) (by omega) ⟨one_set (n0_lt hS), by simp, by simp⟩
  · obtain ⟨_, _, h⟩ := hI
    rw [List.drop_length, folT, List.append_nil] at h
    rw [spec_l29Follow.s5, if_neg (by simp), h]
  · obtain ⟨hset, hlen, hR⟩ := hI
    have hnl := hset.len
    obtain ⟨r, r1, r2, r3⟩ := SetBoth_eq (k := k) hset.asc (blockT_asc b way[j]) (fun x hx => by have := hset.bd x hx; omega) (fun x hx => by have := mem_blockT.1 hx; omega) (by omega) (by have := blockT_length b way[j]; omega) hk
    have hr : r = inB b way[j] u.1 := asc_ext r2 (inB_asc hset.asc) fun x => by
      rw [r3, mem_blockT, mem_inB]
      constructor
      · rintro ⟨h1, _, _, h2⟩; exact ⟨h1, h2⟩
      · rintro ⟨h1, h2⟩; have := hset.bd x h1; exact ⟨h1, by omega, by omega, h2⟩
    rw [List.drop_eq_getElem_cons hj, folT] at hR
    simp (disch := omega) only [spec_l29Follow.s5, gd_t, toNat_nat, getD_get hj, w64_id, l29Block_eq b way[j] (show b.length ≤ 1048576 by omega) (show 1048576 < k by omega), Option.bind_some, r1]
    rw [if_pos (by simpa using hj), hr]
    by_cases h0 : (inB b way[j] u.1).length = 0
    · rw [if_pos (by simp [h0])]
      rw [if_pos h0, List.append_nil] at hR
      rw [hR]
    · rw [if_neg (by simpa using h0)]
      rw [if_neg h0] at hR
      have hin := inB_set (b := b) (w := way[j]) hset
      have hil := hin.len
      rw [gd_t (by simp; omega), htl, l4Marks_eq hin.bd (by omega) (by omega) hk]
      simp only [Option.bind_some]
      rw [l4Behind_eq hT (by rw [marksOf_length, htl]) (by omega) hrl hk]
      simp only [Option.bind_some]
      rw [l4List_eq _ (by rw [behT_length]; omega) (by omega)]
      simp only [Option.bind_some]
      rw [show listT (behT (stepsT s) (marksOf (inB b way[j] u.1) (prodW s.1))) = goT (stepsT s) (inB b way[j] u.1) by unfold goT; rw [htl]]
      exact ih (goT (stepsT s) (inB b way[j] u.1), u.2 ++ [inB b way[j] u.1]) ⟨by rw [← htl]; exact goT_set _, by simp; omega, by simp only [List.append_assoc, List.singleton_append]; exact hR⟩
theorem followBlocks_eq {k : Nat} {s : SY} {b : List Int} (E : Env k s) (hb : BlkP (prodW s.1) b) (way : List Int) (hw : way.length ≤ 500) (hk : 1048577 < k) : impl_followBlocks.f k s b way = some (folT (stepsT s) b way [(n0 s : Int)], ()) := by
  have hS := E.S
  have hsz := hS.sz
  have hbl := hb.len
  have htl := stepsT_length s
  have hT : TabP (stepsT s) := fun r hr x hx => by
    obtain ⟨n, _, rfl⟩ := List.mem_map.1 hr
    rw [htl]; exact rowT_mem hx hS
  have hrl : ∀ r ∈ stepsT s, r.length ≤ 1048576 := fun r hr => by
    obtain ⟨n, _, rfl⟩ := List.mem_map.1 hr
    have := rowT_len s n; have := hS.r8; omega
  obtain ⟨k', hk'⟩ : ∃ k', k = k' + 1 := ⟨k - 1, by omega⟩
  rw [impl_followBlocks.s, nexts_eq hS E.iz hk]
  simp only [Option.bind_some]
  rw [first_eq hS (by omega)]
  simp only [Option.bind_some]
  rw [number_eq hS (firstT_StP hS) (by omega)]
  simp only [Option.bind_some]
  rw [show noOf s.1 (firstT s) = n0 s from rfl]
  refine for_post (m := way.length) (l := fun n (u : List Int × List (List Int)) j => impl_followBlocks.l5 k b way n (stepsT s) u.2 u.1 j) (fun j u => SetN (prodW s.1) u.1 ∧ u.2.length ≤ j ∧ u.2 ++ folT (stepsT s) b (way.drop j) (if 0 < j then goT (stepsT s) u.1 else u.1) = folT (stepsT s) b way [(n0 s : Int)]) (fun x => x = some (folT (stepsT s) b way [(n0 s : Int)], ())) (fun n u hI => ?_) (fun n j u hj hI ih => ?_) (s := ([(n0 s : Int)], [])) (by omega) ⟨one_set (n0_lt hS), by simp, by simp⟩
  · obtain ⟨_, hl, h⟩ := hI
    rw [List.drop_length, folT, List.append_nil] at h
    rw [impl_followBlocks.s5, if_neg (by simp), clone_mv_eq _ (by omega), h]
    rfl
  · obtain ⟨hset, hlen, hR⟩ := hI
    have hnl := hset.len
    have join : ∀ now, SetN (prodW s.1) now → u.2 ++ folT (stepsT s) b (way.drop j) now = folT (stepsT s) b way [(n0 s : Int)] → impl_followBlocks.lj9 k n b way (j : Int) (stepsT s) u.2 k now = some (folT (stepsT s) b way [(n0 s : Int)], ()) := by
      intro now hnow hR
      have hnowl := hnow.len
      have hf : ∀ x ∈ now, (impl_followBlocks_1.f k x b (way.getD ((j : Int)).toNat 0)).bind (fun r => some r.1) = some (b.getD x.toNat 0 != way[j]) := fun x hx => by
        have := hnow.bd x hx
        rw [impl_followBlocks_1.s, gd_t (by omega), gd_t (by omega), toNat_nat, getD_get hj]
        rfl
      have hfil : now.filter (fun x => !(b.getD x.toNat 0 != way[j])) = inB b way[j] now := List.filter_congr fun x _ => by simp [bne, -List.getD_eq_getElem?_getD]
      conv => lhs; arg 8; rw [hk']
      rw [impl_followBlocks.sj9, slices_Clone_int_int.s, gd_t (by unfold LIM; omega)]
      simp only [Option.bind_some]
      rw [DeleteFunc_eq hf (by omega) hk, hfil]
      simp only [Option.bind_some]
      rw [List.drop_eq_getElem_cons hj, folT] at hR
      by_cases h0 : (inB b way[j] now).length = 0
      · rw [if_pos (by simp [h0]), clone_mv_eq _ (by omega)]
        rw [if_pos h0, List.append_nil] at hR
        rw [hR]; rfl
      · rw [if_neg (by simpa using h0)]
        rw [if_neg h0] at hR
        have hin := inB_set (b := b) (w := way[j]) hnow
        have hil := hin.len
        rw [clone_int_eq (by omega)]
        simp only [Option.bind_some]
        rw [gd_t (by simp; omega), w64_id (by omega) (by omega)]
        refine ih (inB b way[j] now, u.2 ++ [inB b way[j] now]) ⟨hin, by simp; omega, ?_⟩
        simp only [List.append_assoc, List.singleton_append]
        rw [if_pos (by omega)]; exact hR
    simp (disch := omega) only [impl_followBlocks.s5, gd_t]
    rw [if_pos (by simpa using hj)]
    by_cases h0 : 0 < j
    · rw [if_pos (by simpa using h0), over_eq hT (by omega) hrl (by rw [htl]; exact hset.bd) (by omega) hk]
      simp only [Option.bind_some]
      rw [if_pos h0] at hR
      exact join _ (by rw [← htl]; exact goT_set _) hR
    · rw [if_neg (by simpa using h0)]
      rw [if_neg h0] at hR
      exact join _ hset hR
end Go.Ev

set_option linter.unusedVariables false
set_option linter.unusedSimpArgs false
namespace Go.Ev

/-! ### ways over blocks -/
def WayAt (b way : List Int) (j : Nat) : Prop := ∃ h : j < way.length, (0 ≤ way[j] ∧ way[j] ≤ (b.length : Int) - 1) ∧ b.getD way[j].toNat 0 = way[j]
def WayP (b way : List Int) : Prop := (1 ≤ way.length ∧ way.length ≤ 500) ∧ ∀ j, j < way.length → WayAt b way j
def badB (b : List Int) (x : Int) : Bool := if 0 ≤ x ∧ x ≤ (b.length : Int) - 1 then b.getD x.toNat 0 != x else true
theorem wayOk_eq {k : Nat} (b way : List Int) (hb : b.length ≤ 1048576) (hw : way.length ≤ 1048576) (hk : 1048576 < k) : ∃ c, impl_wayOk.f k b way = some (c, ()) ∧ (c = true ↔ WayP b way) := by
  rw [impl_wayOk.s, impl_in_eq, Option.bind_some]
  by_cases h1 : (1 : Int) ≤ (way.length : Int) ∧ (way.length : Int) ≤ 500
  · rw [decide_eq_true h1, if_pos rfl]
    have hf : ∀ x ∈ way, (impl_wayOk_1.f k x b).bind (fun r => some r.1) = some (badB b x) := fun x hx => by
      rw [impl_wayOk_1.s, impl_in_eq, Option.bind_some, w64_id (by omega) (by omega)]
      unfold badB
      by_cases h : 0 ≤ x ∧ x ≤ (b.length : Int) - 1
      · rw [decide_eq_true h, if_neg (by simp), gd_t (by omega), gd_t (by omega), if_pos h]; rfl
      · rw [decide_eq_false h, if_pos (by simp), if_neg h]; rfl
    rw [ContainsFunc_eq hf hw hk, Option.bind_some]
    refine ⟨_, rfl, ?_⟩
    rw [Bool.not_eq_true', Bool.eq_false_iff, ne_eq, List.any_eq_true]
    constructor
    · intro hn
      refine ⟨by omega, fun j hj => ⟨hj, ?_⟩⟩
      have hbad : ¬ badB b way[j] = true := fun h => hn ⟨_, List.getElem_mem hj, h⟩
      unfold badB at hbad
      by_cases h : 0 ≤ way[j] ∧ way[j] ≤ (b.length : Int) - 1
      · rw [if_pos h] at hbad
        exact ⟨h, by simpa [-List.getD_eq_getElem?_getD] using hbad⟩
      · rw [if_neg h] at hbad; exact absurd rfl hbad
    · rintro ⟨_, h⟩ ⟨x, hx, hbad⟩
      obtain ⟨j, hj, rfl⟩ := List.mem_iff_getElem.1 hx
      obtain ⟨_, g1, g2⟩ := h j hj
      unfold badB at hbad
      rw [if_pos g1, g2] at hbad
      simp at hbad
  · rw [decide_eq_false h1, if_neg (by simp)]
    refine ⟨false, rfl, fun h => (by cases h), fun h => absurd ?_ h1⟩
    have := h.1
    omega
theorem l29Way_eq {k : Nat} (s : SY) (b way : List Int) (hv : spec_BlocksValid.f k s b = some (true, ())) (hb : b.length ≤ 1048576) (hw : way.length ≤ 1048576) (hk : 1048576 < k) : ∃ c, spec_l29Way.f k s b way = some (c, ()) ∧ (c = true ↔ WayP b way) := by
  rw [spec_l29Way.s, hv, Option.bind_some, if_neg (by simp), spec_in_eq, Option.bind_some]
  by_cases h1 : (1 : Int) ≤ (way.length : Int) ∧ (way.length : Int) ≤ 500
  · rw [decide_eq_true h1, if_neg (by simp)]
    obtain ⟨c, c1, c2⟩ := check_loop (k := k) (l := fun n j => spec_l29Way.l4 k b way n j) (m := way.length) (b0 := true) (r := ()) (WayAt b way) (fun n j hj hI => by
      simp (disch := omega) only [spec_l29Way.s4, gd_t, toNat_nat, getD_get hj, spec_in_eq, Option.bind_some, w64_id]
      rw [if_pos (by simpa using hj)]
      by_cases h : 0 ≤ way[j] ∧ way[j] ≤ (b.length : Int) - 1
      · simp (disch := omega) only [decide_eq_true h, gd_t]
        rw [if_neg (by simp)]
        by_cases e : b.getD way[j].toNat 0 = way[j]
        · rw [if_neg (by simp [e, -List.getD_eq_getElem?_getD])]
          exact .inl ⟨⟨hj, h, e⟩, rfl⟩
        · rw [if_pos (by simpa [-List.getD_eq_getElem?_getD] using e)]
          exact .inr ⟨fun ⟨_, _, h⟩ => e h, rfl⟩
      · rw [decide_eq_false h, if_pos (by simp)]
        exact .inr ⟨fun ⟨_, h', _⟩ => h h', rfl⟩) (fun n hI => by simp [spec_l29Way.s4]) (by omega)
    refine ⟨c, c1, c2.trans ⟨fun h => ⟨by omega, h.2⟩, fun h => ⟨rfl, h.2⟩⟩⟩
  · rw [decide_eq_false h1, if_pos (by simp)]
    refine ⟨false, rfl, fun h => (by cases h), fun h => absurd ?_ h1⟩
    have := h.1
    omega

/-! ### FollowBlocks -/
end Go.Ev

set_option linter.unusedVariables false
set_option linter.unusedSimpArgs false
namespace Go.Ev

/-! ### SplitFor -/
theorem splitOf_len (b : List Int) (m : List Bool) (h : m.length = b.length) : (splitOf b m).length = b.length := by
  unfold splitOf; rw [firsts_length, List.length_zip]; omega
theorem specSplit_eq {k : Nat} {s : SY} {b p : List Int} (E : Env k s) (hB : BlkP (prodW s.1) b) (hv : spec_BlocksValid.f k s b = some (true, ())) (hp : SetN (prodW s.1) p) (hk : 1048577 < k) : spec_SplitBlocks.f k s b p = some ((splitOf b (marksOf p (prodW s.1)), true), ()) := by
  have hsz := E.S.sz
  have hbl := hB.len
  have hpl := hp.len
  have hpos := prodW_pos E.S.vp
  rw [spec_SplitBlocks.s, hv, Option.bind_some, if_neg (by simp), spec_SetValid.s, E.hz, Option.bind_some]
  obtain ⟨c, c1, c2⟩ := SetValid_l (k := k) p ((prodW s.1 : Nat) : Int) (by omega) (by omega) (by omega)
  have hc : c = true := c2.2 ⟨by simpa using hpos, asc_SetAt hp.asc _ hp.bd⟩
  rw [c1, Option.bind_some, hc, if_neg (by simp), specSplit_l b p (by omega) (by omega) (by omega), hbl]
theorem l29Bad_eq {k : Nat} {s : SY} {t : List TM} {p : List Int} (E : Env k s) (hK : KindIs t s.1.length 2) (hi : spec_l2Is.f k t (s.1.length : Int) 2 = some (true, ())) (hp : SetN (prodW s.1) p) (hk : 1048577 < k) :
    ∃ r, spec_l29Bad.f k s t p = some (r, ()) ∧ SetN (prodW s.1) r ∧ ∀ x, x ∈ r ↔ x ∈ p ∧ (whereT s t).getD x.toNat false = false := by
  have hsz := E.S.sz
  have hwl := whereT_length s t
  have hpl := hp.len
  have hll := listT_length (whereT s t)
  obtain ⟨r, r1, r2, r3⟩ := SetWithout_eq (k := k) hp.asc (listT_asc (whereT s t)) (fun x hx => by have := hp.bd x hx; omega) (listT_bd (n := 400) (by omega)) (by omega) (by omega) hk
  rw [spec_l29Bad.s, StatesWhere_eq E hK hi hk, Option.bind_some, r1, Option.bind_some]
  have hmem : ∀ x, x ∈ r ↔ x ∈ p ∧ (whereT s t).getD x.toNat false = false := fun x => by
    rw [r3]
    constructor
    · rintro ⟨h1, h2⟩
      have hx := hp.bd x h1
      refine ⟨h1, ?_⟩
      cases h : (whereT s t).getD x.toNat false with
      | false => rfl
      | true =>
        have := (mem_listT' (v := whereT s t) (n := x.toNat) (by omega)).2 h
        rw [show ((x.toNat : Nat) : Int) = x by omega] at this
        exact absurd this h2
    · rintro ⟨h1, h2⟩
      have hx := hp.bd x h1
      refine ⟨h1, fun h => ?_⟩
      rw [show x = ((x.toNat : Nat) : Int) by omega] at h
      rw [(mem_listT' (v := whereT s t) (n := x.toNat) (by omega)).1 h] at h2
      cases h2
  exact ⟨r, rfl, ⟨r2, fun x hx => hp.bd x ((hmem x).1 hx).1⟩, hmem⟩
/-- What SplitFor makes where all is as it must be. -/
theorem splitFor_eq {k : Nat} {s : SY} {b way : List Int} {t : List TM} (E : Env k s) (hB : BlkP (prodW s.1) b) (hv : spec_BlocksValid.f k s b = some (true, ())) (hK : KindIs t s.1.length 2) (hi : spec_l2Is.f k t (s.1.length : Int) 2 = some (true, ())) (hW : WayP b way) (ha : spec_l29Asked.f k s b way t = some (true, ())) (hk : 1048577 < k) :
    ∃ r, spec_SplitFor.f k s b way t = some (r, ()) ∧ impl_splitFor.f k s b way (whereT s t) = some (r, ()) ∧ r.1.length ≤ 1048576 := by
  have hS := E.S
  have hsz := hS.sz
  have hbl := hB.len
  have htl := stepsT_length s
  have hwl := whereT_length s t
  have hw1 := hW.1
  rw [spec_SplitFor.s, ha, Option.bind_some, if_neg (by simp), l29Follow_eq E hB way hW.1.2 hk, impl_splitFor.s, followBlocks_eq E hB way hW.1.2 hk]
  simp only [Option.bind_some]
  obtain ⟨f1, f2⟩ := folT_sets (T := stepsT s) (b := b) way [(n0 s : Int)] (one_set (by rw [htl]; exact n0_lt hS))
  generalize folT (stepsT s) b way [(n0 s : Int)] = F at f1 f2 ⊢
  by_cases h0 : F.length = 0
  · rw [if_pos (c := ((F.length : Int) == 0) = true) (by simp [h0]), if_pos (c := ((F.length : Int) == 0) = true) (by simp [h0])]
    exact ⟨([], false), rfl, rfl, by simp⟩
  · rw [if_neg (c := ((F.length : Int) == 0) = true) (by simpa using h0), if_neg (c := ((F.length : Int) == 0) = true) (by simpa using h0)]
    have hlast : F.length - 1 < F.length := by omega
    have hc : (F.length : Int) - 1 = ((F.length - 1 : Nat) : Int) := by omega
    have hcw : (way.length : Int) - 1 = ((way.length - 1 : Nat) : Int) := by omega
    rw [w64_id (x := (F.length : Int) - 1) (by omega) (by omega), w64_id (x := (way.length : Int) - 1) (by omega) (by omega), hc, hcw]
    simp (disch := omega) only [toNat_nat, gd_t, getD_get hlast, getD_get (show way.length - 1 < way.length by omega)]
    have hL := (f2 _ (List.getElem_mem hlast)).1
    rw [htl] at hL
    generalize F[F.length - 1] = L at hL ⊢
    have hLl := hL.len
    by_cases hlt : F.length < way.length
    · rw [if_pos (c := decide ((F.length : Int) < (way.length : Int)) = true) (by simp; omega), if_pos (c := decide ((F.length : Int) < (way.length : Int)) = true) (by simp; omega), specSplit_eq E hB hv hL hk, hwl, marks_eq L (prodW s.1) (by omega) (by omega) (by omega) (asc_SetAt hL.asc _ hL.bd)]
      simp only [Option.bind_some]
      rw [splitBlocks_eq b _ (by rw [marksOf_length, hbl]) (by omega) (by omega)]
      exact ⟨_, rfl, rfl, by rw [splitOf_len _ _ (by rw [marksOf_length, hbl])]; omega⟩
    · rw [if_neg (c := decide ((F.length : Int) < (way.length : Int)) = true) (by simp; omega), if_neg (c := decide ((F.length : Int) < (way.length : Int)) = true) (by simp; omega)]
      obtain ⟨r, r1, r2, r3⟩ := l29Bad_eq E hK hi hL hk
      have hf : ∀ x ∈ L, (impl_splitFor_1.f k x (whereT s t)).bind (fun r => some r.1) = some (!(whereT s t).getD x.toNat false) := fun x hx => by
        have := hL.bd x hx
        rw [impl_splitFor_1.s, gd_t (by omega), gd_t (by omega)]; rfl
      rw [r1, ContainsFunc_eq hf (by omega) (by omega)]
      simp only [Option.bind_some]
      by_cases hbad : (L.any fun x => !(whereT s t).getD x.toNat false) = true
      · have : 0 < r.length := by
          obtain ⟨x, hx, hb⟩ := List.any_eq_true.1 hbad
          exact List.length_pos_of_mem ((r3 x).2 ⟨hx, by simpa [-List.getD_eq_getElem?_getD] using hb⟩)
        rw [if_pos hbad, if_pos (c := decide ((r.length : Int) > 0) = true) (by simpa using this)]
        exact ⟨([], false), rfl, rfl, by simp⟩
      · have : r = [] := List.eq_nil_iff_forall_not_mem.2 fun x hx => hbad (List.any_eq_true.2 ⟨x, ((r3 x).1 hx).1, by have := ((r3 x).1 hx).2; simpa [-List.getD_eq_getElem?_getD] using this⟩)
        rw [if_neg hbad, if_neg (c := decide ((r.length : Int) > 0) = true) (by simp [this])]
        generalize hwe : way[way.length - 1] = w
        have hbs : SetN (prodW s.1) (blockT b w) := ⟨blockT_asc b w, fun x hx => by have := mem_blockT.1 hx; omega⟩
        obtain ⟨q, q1, q2, q3⟩ := l29Bad_eq E hK hi hbs hk
        rw [l29Block_eq b w (by omega) (by omega)]
        simp only [Option.bind_some, q1]
        rw [specSplit_eq E hB hv q2 hk]
        simp only [Option.bind_some]
        refine ⟨_, rfl, ?_, by rw [splitOf_len _ _ (by rw [marksOf_length, hbl])]; omega⟩
        have hm : MarkI (prodW s.1) (fun x => b.getD x 0 = w ∧ (whereT s t).getD x false = false) (marksOf q (prodW s.1)) := ⟨marksOf_length _ _, fun x hx => by
          rw [marksOf_getD hx, q3, mem_blockT, toNat_nat]
          exact ⟨fun h => ⟨h.1.2.2, h.2⟩, fun h => ⟨⟨by omega, by omega, h.1⟩, h.2⟩⟩⟩
        refine for_post (k := k) (m := prodW s.1) (l := fun n u j => impl_splitFor.l11 k b way (whereT s t) n u j) (fun j u => MarkI (prodW s.1) (fun x => x < j ∧ b.getD x 0 = w ∧ (whereT s t).getD x false = false) u) (fun x => x = some ((splitOf b (marksOf q (prodW s.1)), true), ())) (fun n u hI => ?_) (fun n j u hj hI ih => ?_) (by omega) (by rw [hwl]; exact MarkI.nil _ fun x _ h => by omega)
        · have : u = marksOf q (prodW s.1) := MarkI.uniq (hI.imp fun x hx => ⟨fun h => h.2, fun h => ⟨hx, h⟩⟩) hm
          rw [impl_splitFor.s11, if_neg (by simp [hbl]), this, splitBlocks_eq b _ (by rw [marksOf_length, hbl]) (by omega) (by omega)]
          rfl
        · have hul := hI.len
          have step : ∀ c : Bool, (c = true ↔ b.getD j 0 = w ∧ (whereT s t).getD j false = false) → MarkI (prodW s.1) (fun x => x < j + 1 ∧ b.getD x 0 = w ∧ (whereT s t).getD x false = false) (u.set j c) := fun c hc => by
            refine ⟨by rw [List.length_set]; exact hul, fun x hx => ?_⟩
            rw [getD_set' u j x _ _ (by omega)]
            by_cases e : x = j
            · rw [if_pos e, hc, e]
              exact ⟨fun h => ⟨by omega, h⟩, fun h => h.2⟩
            · rw [if_neg e, hI.iff x hx]
              exact ⟨fun h => ⟨by omega, h.2⟩, fun h => ⟨by omega, h.2⟩⟩
          rw [impl_splitFor.s11, if_pos (by rw [hbl]; simpa using hj), w64_id (x := (way.length : Int) - 1) (by omega) (by omega), hcw]
          simp (disch := omega) only [gd_t, toNat_nat, w64_id, getD_get (show way.length - 1 < way.length by omega), hwe]
          by_cases e : b.getD j 0 = w
          · rw [if_pos (by simpa [-List.getD_eq_getElem?_getD] using e)]
            exact ih _ (step _ (by simp [e, -List.getD_eq_getElem?_getD]))
          · rw [if_neg (by simpa [-List.getD_eq_getElem?_getD] using e)]
            exact ih _ (step _ (by simp [e, -List.getD_eq_getElem?_getD]))
theorem SplitFor_eq {k : Nat} (hk : 3000000 < k) (s : SY) (b way : List Int) (t : List TM) (hb : BigS s) (hs : SmS s) (hbl : b.length ≤ 1048576) (hw : way.length ≤ 1048576) (ht : t.length ≤ 1048576) : ∃ r, spec_SplitFor.f k s b way t = some (r, ()) ∧ impl_SplitFor.f k s b way t = some (r, ()) ∧ r.1.length ≤ 1048576 := by
  obtain ⟨g, g1, g2, g3⟩ := isKind_eq (k := k) (by omega) t (s.1.length : Int) 2 (by omega) (by omega)
  have off : spec_l29Asked.f k s b way t = some (false, ()) → spec_SplitFor.f k s b way t = some (([], false), ()) := fun h => by
    rw [spec_SplitFor.s, h]; rfl
  rw [impl_SplitFor.s, impl_goodIn.s, impl_truthOf.s]
  rcases sys_env (k := k) (by omega) s hb hs with E | ⟨i1, i2, i3⟩
  · rw [E.iv]
    simp only [Option.bind_some, if_true, g1]
    by_cases hg : g = 2
    · have hK := g3 hg
      have hi : spec_l2Is.f k t (s.1.length : Int) 2 = some (true, ()) := by rw [g2, hg]; rfl
      rw [show (g == 2) = true by simp [hg], if_neg (by simp), where_eq E hK (by omega)]
      simp only [Option.bind_some]
      rw [if_neg (by simp)]
      obtain ⟨q, e1, hok, hq⟩ := blocks_ok (k := k) (by omega) E b hbl
      cases q with
      | false =>
        rw [hok, Option.bind_some, if_pos (by simp)]
        exact ⟨_, off (by rw [spec_l29Asked.s, spec_l29Way.s, e1]; rfl), rfl, by simp⟩
      | true =>
        have hB := hq rfl
        obtain ⟨c, c1, c2⟩ := l29Way_eq (k := k) s b way e1 hbl hw (by omega)
        obtain ⟨d, d1, d2⟩ := wayOk_eq (k := k) b way hbl hw (by omega)
        have hcd : c = d := by rw [Bool.eq_iff_iff, c2, d2]
        subst hcd
        rw [hok, Option.bind_some, if_neg (by simp), d1, Option.bind_some]
        cases c with
        | false =>
          rw [if_pos (by simp)]
          exact ⟨_, off (by rw [spec_l29Asked.s, c1]; rfl), rfl, by simp⟩
        | true =>
          rw [if_neg (by simp)]
          have ha : spec_l29Asked.f k s b way t = some (true, ()) := by
            rw [spec_l29Asked.s, c1, Option.bind_some, if_pos rfl, hi]; rfl
          obtain ⟨r, r1, r2, r3⟩ := splitFor_eq E hB e1 hK hi (c2.1 rfl) ha (by omega)
          rw [r2]
          exact ⟨r, r1, rfl, r3⟩
    · rw [show (g == 2) = false by simp [hg], if_pos (by simp)]
      refine ⟨([], false), off ?_, rfl, by simp⟩
      obtain ⟨q, e1, _, _⟩ := blocks_ok (k := k) (by omega) E b hbl
      cases q with
      | false => rw [spec_l29Asked.s, spec_l29Way.s, e1]; rfl
      | true =>
        obtain ⟨c, c1, c2⟩ := l29Way_eq (k := k) s b way e1 hbl hw (by omega)
        rw [spec_l29Asked.s, c1, Option.bind_some]
        cases c with
        | false => rfl
        | true => rw [if_pos rfl, g2, show (g == 2) = false by simp [hg]]; rfl
  · have e1 := blocks_no i3 b
    rw [i2]
    exact ⟨([], false), off (by rw [spec_l29Asked.s, spec_l29Way.s, e1]; rfl), rfl, by simp⟩
theorem FnExactSplitFor_pure {k : Nat} (hk : 3000000 < k) (s : SY) (b p : List Int) (t : List TM) (hb : BigS s) (hbl : b.length < 9223372036854775808) (htl : t.length < 9223372036854775808) : laws_FnExactSplitFor.f k s b p t = some (true, ()) := by
  rw [laws_FnExactSplitFor.s]
  by_cases hp1 : p.length ≤ 1048576
  · rw [if_neg (by simp; omega)]
    obtain ⟨r, e, hr⟩ := szSystem_ok (k := k) (by omega) hb 1048576 (by omega) (by omega)
    rw [e]; simp only [Option.bind_some]
    rcases hr with hr | ⟨h1, h2, hs⟩
    · rw [if_pos (by simpa using hr)]
    rw [if_neg (by simpa using h1)]
    obtain ⟨r2, e2, hr2⟩ := szBlocks_ok (k := k) hbl r h1 h2
    rw [e2]; simp only [Option.bind_some]
    rcases hr2 with hr | ⟨g1, g2, hpl⟩
    · rw [if_pos (by simpa using hr)]
    rw [if_neg (by simpa using g1)]
    obtain ⟨r3, e3, hr3⟩ := szTermS_ok (k := k) htl r2 g1 (by omega)
    rw [e3]; simp only [Option.bind_some]
    rcases hr3 with hr | ⟨q1, q2, htp⟩
    · rw [if_pos (by simpa using hr)]
    rw [if_neg (by simpa using q1)]
    have hk' : 1048576 < k := by omega
    obtain ⟨⟨x, y⟩, s1, s2, hx⟩ := SplitFor_eq hk s b p t hb hs hpl hp1 htp
    have hx : x.length ≤ 1048576 := hx
    obtain ⟨m1, q1, a1, a2, a3, -⟩ := markSystem_ok hk' hs 1 (by omega) (by omega)
    obtain ⟨m2, q2, b1, b2, b3, -⟩ := markBlocks_ok hk' hpl m1 (by omega) (by omega)
    obtain ⟨m3, q3, c1, c2, c3, -⟩ := markIntS_ok hk' hp1 m2 (by omega) (by omega)
    obtain ⟨m5, q5, f1, f2, f3, -⟩ := markTermS_ok hk' htp m3 (by omega) (by omega)
    obtain ⟨m4, q4, d1, d2, d3, d4, d5⟩ := markBlocks_ok hk' hx 1 (by omega) (by omega)
    have ti : laws_toIntS.f k p = some (p, ()) := toIntS_eq (by omega) (by omega)
    have ei : laws_eqIntS.f k p p = some (true, ()) := by rw [eqIntS_eq (by omega) (by omega)]; simp
    have hh := heldBlocks_ok (k := k) (by omega) (by omega) (by omega) (by omega) d5
    simp only [toSystem_eq hk' hs, toBlocks_eq hk' hpl, ti, ei, toTermS_eq hk' htp, eqTermS_eq hk' htp, Option.bind_some, s1, s2, eqSystem_eq hk' hs, eqBlocks_eq hk' hpl, eqBlocks_eq hk' hx, a1, b1, c1, f1, d1, hh]
    simp [show ¬ m5 < 0 by omega, show ¬ m4 < 0 by omega]
  · rw [if_pos (by simp; omega)]
theorem FnExactSplitFor_true (s : SY) (b p : List Int) (t : List TM) (w0 : Wf sSY s) (w1 : Wf (.agg (.slice false I)) b) (w2 : Wf (.slice false I) p) (w3 : Wf sTMs t) : ∃ k, laws_FnExactSplitFor.f k s b p t = some (true, ()) := by
  have hm := maxLen_eq
  exact ⟨3000001, FnExactSplitFor_pure (by omega) s b p t (BigS_of w0) (by have := w1.1; omega) (by have := w3.1; omega)⟩
end Go.Ev
