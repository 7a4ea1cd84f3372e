/- Plain mathematics on what the functions compute. -/
import Derived.Test.YtphlehimeekgoaaGreatP1
import Derived.Test.YtphlehimeekgoaaGreatEv4
import Derived.IntWalk
import Derived.Lib.SlicesCompact
set_option linter.unusedVariables false
set_option linter.unusedSimpArgs false
namespace Go.Ev

/-- The states that come next, in order. -/
noncomputable def nextOf (s : SY) (st : List Int) (j : Nat) : List (List Int) := (s.2.take j).foldl (fun l r => match useT s st r with | some x => putL x l | none => l) []
noncomputable def nextT (s : SY) (st : List Int) : List (List Int) := nextOf s st s.2.length
theorem nextOf_succ (s : SY) (st : List Int) {j : Nat} (h : j < s.2.length) : nextOf s st (j + 1) = match useT s st s.2[j] with | some x => putL x (nextOf s st j) | none => nextOf s st j := by
  unfold nextOf
  rw [List.take_succ_eq_append_getElem h, List.foldl_append]
  rfl
theorem nextOf_facts (s : SY) (st : List Int) : ∀ j, j ≤ s.2.length → SortedL (nextOf s st j) ∧ (∀ x ∈ nextOf s st j, StP s.1 x) ∧ (nextOf s st j).length ≤ j
  | 0, _ => by simp [nextOf, SortedL]
  | j + 1, h => by
    obtain ⟨h1, h2, h3⟩ := nextOf_facts s st j (by omega)
    rw [nextOf_succ s st (by omega)]
    split
    · rename_i x hx
      refine ⟨h1.put, fun y hy => ?_, ?_⟩
      · rcases mem_putL.1 hy with rfl | hy
        · exact useT_StP hx
        · exact h2 y hy
      · have := putL_length (x := x) (nextOf s st j); omega
    · exact ⟨h1, h2, by omega⟩
theorem useT_ne {s : SY} {st x : List Int} {r : RU} (hS : SysP s) (h : useT s st r = some x) : 0 < x.length := by
  have := (useT_StP h).length
  have := hS.v1
  omega
theorem l2Next_eq {k : Nat} {s : SY} {st : List Int} (hS : SysP s) (hst : StP s.1 st) (hk : 1048577 < k) : spec_l2Next.f k s st = some (nextT s st, ()) := by
  have h8 := hS.r8
  have h5 := hS.v5
  rw [spec_l2Next.s]
  refine for_post (m := s.2.length) (l := fun n v j => spec_l2Next.l3 k s st n v j) (fun j v => v = nextOf s st j) (fun x => x = _) (fun n v hI => ?_) (fun n j v hj hI ih => ?_) (by omega) (by simp [nextOf])
  · rw [hI]
    simp [spec_l2Next.s3, nextT]
  · obtain ⟨g1, g2, g3⟩ := nextOf_facts s st j (by omega)
    simp (disch := omega) only [spec_l2Next.s3, l2Use_eq hS hst (show 1048576 < k by omega) j hj, Option.bind_some, w64_id]
    rw [if_pos (by simpa using hj)]
    have e := nextOf_succ s st hj
    cases hu : useT s st s.2[j] with
    | none =>
      rw [hu] at e
      simp only [Option.getD_none, List.length_nil]
      rw [if_neg (by simp)]
      exact ih _ (by rw [e, hI])
    | some x =>
      rw [hu] at e
      have hx := (useT_StP hu).length
      simp only [Option.getD_some]
      rw [if_pos (by simpa using useT_ne hS hu), l2Put_eq v x (by omega) (fun y hy => by rw [hI] at hy; have := (g2 y hy).length; omega) (by rw [hI]; omega) hk]
      exact ih _ (by rw [e, hI])
theorem cloneL_eq {k : Nat} (p : List (List Int)) (hp : p.length ≤ 1048576) : impl_clone_Lint.f k p = some (p, ()) := by
  rw [impl_clone_Lint.s]
  by_cases h : p.length = 0
  · rw [if_pos (by simpa using h)]
    have : p = [] := List.length_eq_zero_iff.1 h
    rw [this]
  · rw [if_neg (by simpa using h), gd_t (by omega), gd_t (by omega)]
    simp
theorem nextStates_eq {k : Nat} {s : SY} {st : List Int} (hS : SysP s) (hst : StP s.1 st) (hk : 1048577 < k) : impl_nextStates.f k s st = some (nextT s st, ()) := by
  have h8 := hS.r8
  have h5 := hS.v5
  rw [impl_nextStates.s]
  refine for_post (m := s.2.length) (l := fun n v j => impl_nextStates.l3 k s st n v j) (fun j v => v = nextOf s st j) (fun x => x = _) (fun n v hI => ?_) (fun n j v hj hI ih => ?_) (by omega) (by simp [nextOf])
  · obtain ⟨g1, g2, g3⟩ := nextOf_facts s st s.2.length (Nat.le_refl _)
    rw [hI]
    simp only [impl_nextStates.s3]
    rw [if_neg (by simp), cloneL_eq _ (by omega)]
    rfl
  · obtain ⟨g1, g2, g3⟩ := nextOf_facts s st j (by omega)
    rw [← hI] at g1 g2 g3
    simp (disch := omega) only [impl_nextStates.s3, use_eq hS hst (show 1048576 < k by omega) j hj, Option.bind_some, w64_id]
    rw [if_pos (by simpa using hj)]
    have e := nextOf_succ s st hj
    rw [← hI] at e
    cases hu : useT s st s.2[j] with
    | none =>
      rw [hu] at e
      simp only [Option.isSome_none, Bool.false_eq_true, if_false]
      exact ih _ e.symm
    | some x =>
      rw [hu] at e
      have hx := (useT_StP hu).length
      obtain ⟨i, i1, i2, i3, i4⟩ := BinarySearch_eq (k := k) v x (fun p => (slices_Compare_int_int.f k p.1 p.2.1).bind fun r => some r.1) (fun y hy => by
        dsimp only
        rw [Compare_eq y x (by have := (g2 y hy).length; omega) (by omega) (by omega)]; rfl) g1 (by omega) (by omega)
      simp only [Option.getD_some, Option.isSome_some, if_true, i2, Option.bind_some]
      by_cases hm : x ∈ v
      · rw [if_neg (by simp [hm])]
        exact ih _ (by rw [e]; exact (putL_mem g1 hm).symm)
      · rw [if_pos (by simp [hm]), slices_Insert_int_int.s, gd_t (by omega), gd_t (by omega), gd_t (by simp), gd_t (by unfold LIM; simp; omega)]
        simp only [Option.bind_some]
        exact ih _ (by rw [e]; exact insert_putL i3 i4 hm)

/-! ### the number of a state -/
/-- What the numbers are, counted from the left. -/
def preNo (vs : List VA) (st : List Int) : Nat → Nat
  | 0 => 0
  | j + 1 => preNo vs st j * wid (vs.getD j (0, 0, 0)) + (st.getD j 0 - (vs.getD j (0, 0, 0)).1).toNat
theorem preNo_spec {vs : List VA} {st : List Int} (hl : st.length = vs.length) : ∀ j, j ≤ vs.length → noOf vs st = preNo vs st j * prodW (vs.drop j) + noOf (vs.drop j) (st.drop j)
  | 0, _ => by simp [preNo]
  | j + 1, h => by
    have hj : j < vs.length := by omega
    have hj' : j < st.length := by omega
    rw [preNo_spec hl j (by omega), preNo, drop_cons_get hj, drop_cons_get hj', prodW, noOf, getD_get hj, getD_get hj', Nat.add_mul, Nat.mul_assoc, Nat.add_assoc]
theorem preNo_lt {vs : List VA} {st : List Int} (h : StP vs st) (hv : ∀ v ∈ vs, VarP v) {j : Nat} (hj : j ≤ vs.length) : preNo vs st j ≤ noOf vs st := by
  have e := preNo_spec h.length j hj
  have hp : 0 < prodW (vs.drop j) := prodW_pos fun v hm => hv v (List.mem_of_mem_drop hm)
  have := Nat.le_mul_of_pos_right (preNo vs st j) hp
  omega
theorem no_step {vs : List VA} {st : List Int} (h : StP vs st) (hv : ∀ v ∈ vs, VarP v) (hsz : prodW vs ≤ 400) {j : Nat} (hj : j < vs.length) (hj' : j < st.length) :
    w64 (w64 (w64 ((preNo vs st j : Int) * w64 (w64 (vs[j].2.1 - vs[j].1) + 1)) + st[j]) - vs[j].1) = ((preNo vs st (j + 1) : Nat) : Int) := by
  have hp := hv _ (List.getElem_mem hj)
  have hb := hp
  unfold VarP at hb
  have hst := (StP_iff.1 h).2 j hj hj'
  have h1 := preNo_lt h hv (j := j + 1) (by omega)
  have h2 := noOf_lt h hv
  have e : preNo vs st (j + 1) = preNo vs st j * wid vs[j] + (st[j] - vs[j].1).toNat := by rw [preNo, getD_get hj, getD_get hj']
  have e2 : (preNo vs st j : Int) * (wid vs[j] : Int) = ((preNo vs st j * wid vs[j] : Nat) : Int) := by simp
  rw [wid_w64 hp, e2, e]
  rw [e] at h1
  generalize preNo vs st j * wid vs[j] = m at h1 ⊢
  rw [w64_id (x := (m : Int)) (by omega) (by omega), w64_id (x := (m : Int) + st[j]) (by omega) (by omega), w64_id (by omega) (by omega)]
  omega
theorem number_eq {k : Nat} {s : SY} {st : List Int} (hS : SysP s) (hst : StP s.1 st) (hk : 1000 < k) : impl_number.f k s st = some (((noOf s.1 st : Nat) : Int), ()) := by
  have h5 := hS.v5
  have hl := hst.length
  rw [impl_number.s]
  refine for_post (m := s.1.length) (l := fun n (v : Int) j => impl_number.l3 k s st n v j) (fun j v => v = ((preNo s.1 st j : Nat) : Int)) (fun x => x = _) (fun n v hI => ?_) (fun n j v hj hI ih => ?_) (by omega) (by simp [preNo])
  · have := preNo_spec hl s.1.length (Nat.le_refl _)
    rw [List.drop_eq_nil_of_le (Nat.le_refl _), List.drop_eq_nil_of_le (by omega)] at this
    simp [prodW, noOf] at this
    simp [impl_number.s3, hI, this]
  · have hj' : j < st.length := by omega
    simp (disch := omega) only [impl_number.s3, gd_t, toNat_nat, getD_get hj, getD_get hj', hI, no_step hst hS.vp hS.sz hj hj']
    rw [if_pos (by simpa using hj), w64_id (x := (j : Int) + 1) (by omega) (by omega)]
    exact ih _ rfl
theorem l4Number_eq {k : Nat} {s : SY} {st : List Int} (hS : SysP s) (hst : StP s.1 st) (hk : 1000 < k) : spec_l4Number.f k s st = some (((noOf s.1 st : Nat) : Int), ()) := by
  have h5 := hS.v5
  have hl := hst.length
  rw [spec_l4Number.s]
  refine for_post (m := s.1.length) (l := fun n (v : Int) j => spec_l4Number.l3 k s st n v j) (fun j v => v = ((preNo s.1 st j : Nat) : Int)) (fun x => x = _) (fun n v hI => ?_) (fun n j v hj hI ih => ?_) (by omega) (by simp [preNo])
  · have := preNo_spec hl s.1.length (Nat.le_refl _)
    rw [List.drop_eq_nil_of_le (Nat.le_refl _), List.drop_eq_nil_of_le (by omega)] at this
    simp [prodW, noOf] at this
    simp [spec_l4Number.s3, hI, this, hl]
  · have hj' : j < st.length := by omega
    simp (disch := omega) only [spec_l4Number.s3, gd_t, toNat_nat, getD_get hj, getD_get hj', hI, no_step hst hS.vp hS.sz hj hj']
    rw [if_pos (by simpa using hj'), w64_id (x := (j : Int) + 1) (by omega) (by omega)]
    exact ih _ rfl
theorem set_getD_self {α : Type} (v : List α) (j : Nat) (d : α) : v.set j (v.getD j d) = v := by
  by_cases h : j < v.length
  · rw [getD_get h]; simp
  · rw [List.set_eq_of_length_le (by omega)]
/-- The table of steps: the numbers that come next, for each number. -/
noncomputable def rowT (s : SY) (n : Nat) : List Int := (nextT s (stOf s.1 n)).map fun x => ((noOf s.1 x : Nat) : Int)
noncomputable def stepsT (s : SY) : List (List Int) := (List.range (prodW s.1)).map (rowT s)
theorem stepsT_length (s : SY) : (stepsT s).length = prodW s.1 := by simp [stepsT]
theorem nextT_facts (s : SY) (st : List Int) : SortedL (nextT s st) ∧ (∀ x ∈ nextT s st, StP s.1 x) ∧ (nextT s st).length ≤ s.2.length := nextOf_facts s st _ (Nat.le_refl _)
theorem l4Steps_eq {k : Nat} {s : SY} (hS : SysP s) (hv : spec_SystemValid.f k s = some (true, ())) (hz : spec_SizeOf.f k s = some (((prodW s.1 : Nat) : Int), ())) (hk : 1048577 < k) : spec_l4Steps.f k s = some (stepsT s, ()) := by
  have hsz := hS.sz
  have h8 := hS.r8
  rw [spec_l4Steps.s]
  refine push_loop (l := fun n v j => spec_l4Steps.l3 k s n v j) (ys := stepsT s) (m := prodW s.1) (stepsT_length s) (fun n j v hj hv' => ?_) (fun n => ?_) (by omega)
  · have hst := stOf_StP j hS.vp
    obtain ⟨g1, g2, g3⟩ := nextT_facts s (stOf s.1 j)
    simp (disch := omega) only [spec_l4Steps.s3, hz, Option.bind_some, l4State_eq hS hv j (by omega) (show 1048576 < k by omega), l2Next_eq hS hst hk]
    rw [if_pos (by simpa using hj)]
    refine push_loop (l := fun q v i => spec_l4Steps.l8 k n s _ (j : Int) q (nextT s (stOf s.1 j)) v i) (ys := rowT s j) (m := (nextT s (stOf s.1 j)).length) (by simp [rowT]) (fun q i u hi hu => ?_) (fun q => ?_) (by omega)
    · simp (disch := omega) only [spec_l4Steps.s8, gd_t, toNat_nat, getD_get hi, l4Number_eq hS (g2 _ (List.getElem_mem hi)) (show 1000 < k by omega), Option.bind_some, w64_id]
      rw [if_pos (by simpa using hi), gd_t (by simp; omega)]
      simp [rowT]
    · simp (disch := omega) only [spec_l4Steps.s8, w64_id]
      rw [if_neg (by simp), gd_t (by simp; omega)]
      simp [stepsT]
  · simp only [spec_l4Steps.s3, hz, Option.bind_some]
    rw [if_neg (by simp)]
theorem nexts_eq {k : Nat} {s : SY} (hS : SysP s) (hz : impl_size.f k s.1 = some (((prodW s.1 : Nat) : Int), ())) (hk : 1048577 < k) : impl_nexts.f k s = some (stepsT s, ()) := by
  have hsz := hS.sz
  have h8 := hS.r8
  rw [impl_nexts.s, hz]
  simp only [Option.bind_some]
  rw [gd_t (by omega), gd_t (by omega)]
  simp only [List.length_replicate, toNat_nat]
  refine for_post (m := prodW s.1) (l := fun n v j => impl_nexts.l3 k s n v ((prodW s.1 : Nat) : Int) j) (fun j v => v = (stepsT s).take j ++ List.replicate (prodW s.1 - j) []) (fun x => x = _) (fun n v hI => ?_) (fun n j v hj hI ih => ?_) (by omega) (by simp)
  · rw [hI, List.take_of_length_le (by rw [stepsT_length]; omega)]
    simp [impl_nexts.s3]
  · have hst := stOf_StP j hS.vp
    obtain ⟨g1, g2, g3⟩ := nextT_facts s (stOf s.1 j)
    simp (disch := omega) only [impl_nexts.s3, stateAt_eq hS j (by omega) (show 1000 < k by omega), nextStates_eq hS hst hk, Option.bind_some]
    rw [if_pos (by simpa using hj)]
    have hvl : v.length = prodW s.1 := by rw [hI]; simp [stepsT_length]; omega
    have hvj : v.getD j [] = [] := by
      rw [hI, List.getD_eq_getElem?_getD, List.getElem?_append_right (by simp [stepsT_length]; omega)]
      simp [stepsT_length]
      cases h : (prodW s.1 - j) with
      | zero => rfl
      | succ q => simp [List.replicate_succ, show j - min j (prodW s.1) = 0 by omega]
    refine for_post (m := (nextT s (stOf s.1 j)).length) (l := fun q u i => impl_nexts.l6 k n s ((prodW s.1 : Nat) : Int) (j : Int) q u (nextT s (stOf s.1 j)) ((nextT s (stOf s.1 j)).length : Int) i) (fun i u => u = v.set j ((rowT s j).take i)) (fun x => x = _) (fun q u hu => ?_) (fun q i u hi hu ih2 => ?_) (by omega) (by
      simp only [List.take_zero]
      rw [← hvj]; exact (set_getD_self v j []).symm)
    · simp (disch := omega) only [impl_nexts.s6, w64_id]
      rw [if_neg (by simp)]
      refine ih _ ?_
      rw [hu, List.take_of_length_le (by simp [rowT]), hI, List.set_append_right _ _ (by simp [stepsT_length]; omega), List.take_succ_eq_append_getElem (by rw [stepsT_length]; exact hj)]
      have e : prodW s.1 - j = (prodW s.1 - (j + 1)) + 1 := by omega
      rw [e, List.replicate_succ]
      simp [stepsT_length, stepsT, show j - min j (prodW s.1) = 0 by omega]
    · have hul : u.length = prodW s.1 := by rw [hu]; simp [hvl]
      have hrl : (rowT s j).length = (nextT s (stOf s.1 j)).length := by simp [rowT]
      have huj : u.getD j [] = (rowT s j).take i := by rw [hu]; exact getD_set_self (by omega)
      simp (disch := omega) only [impl_nexts.s6, gd_t, toNat_nat, getD_get hi, number_eq hS (g2 _ (List.getElem_mem hi)) (show 1000 < k by omega), Option.bind_some, w64_id, huj]
      rw [if_pos (by simpa using hi), gd_t (by simp; omega)]
      simp only [gd_true]
      refine ih2 _ ?_
      rw [hu, List.set_set, List.take_succ_eq_append_getElem (by omega)]
      simp [rowT]
end Go.Ev


set_option linter.unusedVariables false
set_option linter.unusedSimpArgs false
namespace Go.Ev

/-! ### ascending lists of numbers -/
def Asc (l : List Int) : Prop := l.Pairwise (· < ·)
theorem asc_ext : ∀ {a b : List Int}, Asc a → Asc b → (∀ x, x ∈ a ↔ x ∈ b) → a = b
  | [], [], _, _, _ => rfl
  | [], y :: b, _, _, h => by have := (h y).2 (by simp); simp at this
  | x :: a, [], _, _, h => by have := (h x).1 (by simp); simp at this
  | x :: a, y :: b, ha, hb, h => by
    obtain ⟨a1, a2⟩ := List.pairwise_cons.1 ha
    obtain ⟨b1, b2⟩ := List.pairwise_cons.1 hb
    have hxy : x = y := by
      have h1 := (h x).1 (by simp)
      have h2 := (h y).2 (by simp)
      rcases List.mem_cons.1 h1 with e | h1
      · exact e
      · rcases List.mem_cons.1 h2 with e | h2
        · exact e.symm
        · have := a1 y h2
          have := b1 x h1
          omega
    subst hxy
    rw [asc_ext a2 b2 fun z => ?_]
    constructor
    · intro hz
      rcases List.mem_cons.1 ((h z).1 (by simp [hz])) with e | hz'
      · have := a1 z hz; omega
      · exact hz'
    · intro hz
      rcases List.mem_cons.1 ((h z).2 (by simp [hz])) with e | hz'
      · have := b1 z hz; omega
      · exact hz'
/-- The numbers marked. -/
def listT (v : List Bool) : List Int := ((List.range v.length).filter fun i => v.getD i false).map fun (i : Nat) => (i : Int)
theorem listT_asc (v : List Bool) : Asc (listT v) := by
  unfold Asc listT
  rw [List.pairwise_map]
  exact (List.Pairwise.filter _ List.pairwise_lt_range).imp fun h => by omega
theorem mem_listT {v : List Bool} {x : Int} : x ∈ listT v ↔ ∃ i : Nat, i < v.length ∧ v.getD i false = true ∧ (i : Int) = x := by
  simp only [listT, List.mem_map, List.mem_filter, List.mem_range, and_assoc]
theorem l4List_eq {k : Nat} (v : List Bool) (hv : v.length ≤ 1048576) (hk : 1048576 < k) : spec_l4List.f k v = some (listT v, ()) := by
  rw [spec_l4List.s]
  refine for_post (m := v.length) (l := fun n l j => spec_l4List.l3 k v n l j) (fun j l => l = ((List.range j).filter fun i => v.getD i false).map (fun (i : Nat) => (i : Int)) ∧ l.length ≤ j) (fun x => x = some (listT v, ())) (fun n l hI => ?_) (fun n j l hj hI ih => ?_) (by omega) (by simp)
  · rw [hI.1]; simp [spec_l4List.s3, listT]
  · simp (disch := omega) only [spec_l4List.s3, gd_t, toNat_nat, w64_id]
    rw [if_pos (by simpa using hj)]
    by_cases hb : v.getD j false = true
    · rw [if_pos hb, gd_t (by have := hI.2; simp; omega)]
      exact ih _ ⟨by rw [hI.1, List.range_succ, List.filter_append]; simp [hb, -List.getD_eq_getElem?_getD], by have := hI.2; simp; omega⟩
    · rw [if_neg hb]
      exact ih _ ⟨by rw [hI.1, List.range_succ, List.filter_append]; simp [hb, -List.getD_eq_getElem?_getD], by omega⟩
/-- A list of numbers below 400, put in order without repeats. -/
theorem l17Ordered_eq {k : Nat} (p : List Int) (h : ∀ x ∈ p, 0 ≤ x ∧ x < 400) (hp : p.length ≤ 1048576) (hk : 1048576 < k) : ∃ q, spec_l17Ordered.f k p = some (q, ()) ∧ Asc q ∧ ∀ x, x ∈ q ↔ x ∈ p := by
  rw [spec_l17Ordered.s, gd_t (by omega), gd_t (by omega), gd_t (by omega)]
  obtain ⟨N, hN⟩ : ∃ N : Nat, N = Int.toNat 400 := ⟨_, rfl⟩
  have hN4 : N = 400 := hN
  rw [← hN]
  clear hN
  refine for_post (m := p.length) (l := fun n v j => spec_l17Ordered.l3 k p n v j) (fun j v => v.length = N ∧ ∀ i : Nat, i < N → (v.getD i false = true ↔ (i : Int) ∈ p.take j)) (fun x => ∃ q, x = some (q, ()) ∧ Asc q ∧ ∀ x, x ∈ q ↔ x ∈ p) (fun n v hI => ?_) (fun n j v hj hI ih => ?_) (by omega) (by
    refine ⟨by simp, fun i hi => ?_⟩
    simp [List.getD_eq_getElem?_getD, List.getElem?_replicate, hi])
  · obtain ⟨h1, h2⟩ := hI
    rw [List.take_of_length_le (by omega)] at h2
    simp only [spec_l17Ordered.s3, l4List_eq v (by omega) hk]
    rw [if_neg (by simp)]
    refine ⟨_, rfl, listT_asc v, fun x => ?_⟩
    rw [mem_listT]
    constructor
    · rintro ⟨i, hi, hb, rfl⟩
      exact (h2 i (by omega)).1 hb
    · intro hx
      have := h x hx
      refine ⟨x.toNat, by omega, (h2 x.toNat (by omega)).2 ?_, by omega⟩
      rw [show ((x.toNat : Nat) : Int) = x by omega]; exact hx
  · obtain ⟨h1, h2⟩ := hI
    have hx := h _ (List.getElem_mem hj)
    simp (disch := omega) only [spec_l17Ordered.s3, gd_t, toNat_nat, getD_get hj, w64_id]
    rw [if_pos (by simpa using hj)]
    refine ih _ ⟨by simp [h1], fun i hi => ?_⟩
    rw [mem_take1 hj]
    by_cases e : p[j].toNat = i
    · have : (i : Int) = p[j] := by omega
      rw [← e, getD_set_self (by omega)]
      simp [e, this]
    · have : (i : Int) ≠ p[j] := by omega
      rw [List.getD_eq_getElem?_getD, List.getElem?_set_ne e, ← List.getD_eq_getElem?_getD, h2 i hi]
      simp [this]
end Go.Ev


set_option linter.unusedVariables false
set_option linter.unusedSimpArgs false
namespace Go.Ev

/-! ### a state with its variables exchanged -/
theorem rowT_mem {s : SY} {n : Nat} {x : Int} (h : x ∈ rowT s n) (hS : SysP s) : 0 ≤ x ∧ x < (prodW s.1 : Int) := by
  simp only [rowT, List.mem_map] at h
  obtain ⟨y, hy, rfl⟩ := h
  have := noOf_lt ((nextT_facts s _).2.1 y hy) hS.vp
  omega
theorem steps_get {s : SY} {n : Nat} (h : n < (stepsT s).length) : (stepsT s)[n] = rowT s n := by simp [stepsT]
end Go.Ev


set_option linter.unusedVariables false
set_option linter.unusedSimpArgs false
namespace Go.Ev
theorem arr_get {p : List Int} {i : Nat} (h : i < p.length) : p.toArray[i]! = p[i] := by simp [h]
theorem le_get {p : List Int} (h : p.Pairwise (· ≤ ·)) {i j : Nat} (hij : i ≤ j) (hj : j < p.length) : p[i] ≤ p[j] := by
  rcases Nat.lt_or_ge i j with hlt | hge
  · exact List.pairwise_iff_getElem.1 h i j (by omega) hj hlt
  · have : i = j := by omega
    subst this; exact Int.le_refl _
theorem compact_lt {p : List Int} (h : p.Pairwise (· ≤ ·)) : (Lib.compact p).Pairwise (· < ·) := by
  unfold Lib.compact Lib.compactUpTo
  rw [List.pairwise_map]
  refine List.Pairwise.imp_of_mem ?_ (List.Pairwise.filter _ List.pairwise_lt_range)
  intro i j hi hj hij
  simp only [List.mem_filter, List.mem_range] at hi hj
  obtain ⟨hjl, hk⟩ := hj
  have hk : j = 0 ∨ p.toArray[j]! ≠ p.toArray[j - 1]! := by simpa [Lib.keeps] using hk
  rw [arr_get hjl, arr_get (show j - 1 < p.length by omega)] at hk
  rw [arr_get hi.1, arr_get hjl]
  have h1 := le_get h (show i ≤ j - 1 by omega) (by omega)
  have h2 := le_get h (show j - 1 ≤ j by omega) hjl
  rcases hk with hk | hk
  · omega
  · omega
theorem mem_compact {p : List Int} {x : Int} : x ∈ Lib.compact p ↔ x ∈ p := by
  unfold Lib.compact Lib.compactUpTo
  simp only [List.mem_map, List.mem_filter, List.mem_range]
  constructor
  · rintro ⟨i, ⟨hi, _⟩, rfl⟩
    rw [arr_get hi]; exact List.getElem_mem hi
  · intro hx
    have hi : p.idxOf x < p.length := List.idxOf_lt_length_iff.2 hx
    refine ⟨p.idxOf x, ⟨hi, ?_⟩, by rw [arr_get hi]; simp⟩
    simp only [Lib.keeps, decide_eq_true_eq]
    rcases Nat.eq_zero_or_pos (p.idxOf x) with h0 | h0
    · exact .inl h0
    · right
      rw [arr_get hi, arr_get (show p.idxOf x - 1 < p.length by omega)]
      have : p[p.idxOf x] = x := by simp
      rw [this]
      intro e
      have := List.not_of_lt_findIdx (p := (· == x)) (xs := p) (i := p.idxOf x - 1) (show p.idxOf x - 1 < p.idxOf x by omega)
      simp [← e] at this
theorem sort_le (p : List Int) : (p.mergeSort fun x y => decide (x ≤ y)).Pairwise (· ≤ ·) :=
  (List.pairwise_mergeSort (le := fun x y : Int => decide (x ≤ y)) (fun a b c h1 h2 => by simp at *; omega) (fun a b => by simp; omega) p).imp fun h => of_decide_eq_true h
theorem mem_sort {p : List Int} {x : Int} : x ∈ (p.mergeSort fun x y => decide (x ≤ y)) ↔ x ∈ p := List.mem_mergeSort
end Go.Ev

set_option linter.unusedVariables false
set_option linter.unusedSimpArgs false
namespace Go.Ev
/-- A loop over the numbers from a on, below m. -/
theorem for_from {σ R : Type} {l : Nat → σ → Int → R} {a m : Nat} (ha : a ≤ m) (I : Nat → σ → Prop) (Q : R → Prop)
    (stop : ∀ n s, I m s → Q (l (n + 1) s (m : Int)))
    (step : ∀ n j s, a ≤ j → j < m → I j s → (∀ s', I (j + 1) s' → Q (l n s' ((j : Int) + 1))) → Q (l (n + 1) s (j : Int))) :
    ∀ {k s}, m < k → I a s → Q (l k s (a : Int)) := by
  have key : ∀ d n j s, a ≤ j → j + d = m → d < n → I j s → Q (l n s (j : Int)) := by
    intro d
    induction d with
    | zero =>
      intro n j s haj h hn hI
      obtain ⟨n, rfl⟩ : ∃ q, n = q + 1 := ⟨n - 1, by omega⟩
      have : j = m := by omega
      subst this
      exact stop n s hI
    | succ d ih =>
      intro n j s haj h hn hI
      obtain ⟨n, rfl⟩ : ∃ q, n = q + 1 := ⟨n - 1, by omega⟩
      refine step n j s haj (by omega) hI fun s' h' => ?_
      have := ih n (j + 1) s' (by omega) (by omega) (by omega) h'
      simpa using this
  intro k s hk hI
  exact key (m - a) k a s (Nat.le_refl _) (by omega) (by omega) hI
theorem filter_lt {α : Type} {p q : α → Bool} (h : ∀ x, p x = true → q x = true) : ∀ {l : List α}, (l.filter p).length ≤ (l.filter q).length ∧ ((∃ x ∈ l, q x = true ∧ p x = false) → (l.filter p).length < (l.filter q).length)
  | [] => ⟨Nat.le_refl _, fun ⟨x, hx, _⟩ => by simp at hx⟩
  | y :: l => by
    obtain ⟨h1, h2⟩ := filter_lt h (l := l)
    cases hp : p y with
    | true =>
      have hq := h y hp
      simp only [List.filter_cons, hp, hq, if_true, List.length_cons]
      refine ⟨by omega, fun ⟨x, hx, e1, e2⟩ => ?_⟩
      rcases List.mem_cons.1 hx with e | hx
      · rw [e, hp] at e2; cases e2
      · have := h2 ⟨x, hx, e1, e2⟩; omega
    | false =>
      cases hq : q y with
      | true =>
        simp only [List.filter_cons, hp, hq, if_true, List.length_cons]
        refine ⟨by simp; omega, fun _ => by simp; omega⟩
      | false =>
        simp only [List.filter_cons, hp, hq]
        refine ⟨by simpa using h1, fun ⟨x, hx, e1, e2⟩ => ?_⟩
        rcases List.mem_cons.1 hx with e | hx
        · rw [e, hq] at e1; cases e1
        · simpa using h2 ⟨x, hx, e1, e2⟩

/-! ### how far it is over a table -/
/-- How far it is to each number, as far as that is at most d. -/
noncomputable def lv (T : List (List Int)) (v : List Bool) : Nat → List Int
  | 0 => (List.range T.length).map fun x => if v.getD x false = true then 0 else -1
  | d + 1 => by
    classical
    exact (List.range T.length).map fun x => if 0 ≤ (lv T v d).getD x 0 then (lv T v d).getD x 0 else if ∃ m, m < T.length ∧ (lv T v d).getD m 0 = (d : Int) ∧ (x : Int) ∈ T.getD m [] then ((d + 1 : Nat) : Int) else -1
variable {T : List (List Int)} {v : List Bool}
theorem lv_length : ∀ d, (lv T v d).length = T.length
  | 0 => by simp [lv]
  | d + 1 => by simp [lv]
theorem lv_zero {x : Nat} (h : x < T.length) : (lv T v 0).getD x 0 = if v.getD x false = true then 0 else -1 := by
  rw [List.getD_eq_getElem?_getD]; simp [lv, h]
theorem lv_succ {d x : Nat} (h : x < T.length) : (0 ≤ (lv T v d).getD x 0 → (lv T v (d + 1)).getD x 0 = (lv T v d).getD x 0) ∧
    (¬ 0 ≤ (lv T v d).getD x 0 → (∃ m, m < T.length ∧ (lv T v d).getD m 0 = (d : Int) ∧ (x : Int) ∈ T.getD m []) → (lv T v (d + 1)).getD x 0 = ((d + 1 : Nat) : Int)) ∧
    (¬ 0 ≤ (lv T v d).getD x 0 → ¬ (∃ m, m < T.length ∧ (lv T v d).getD m 0 = (d : Int) ∧ (x : Int) ∈ T.getD m []) → (lv T v (d + 1)).getD x 0 = -1) := by
  have e : (lv T v (d + 1)).getD x 0 = @ite _ (0 ≤ (lv T v d).getD x 0) (Classical.propDecidable _) ((lv T v d).getD x 0) (@ite _ (∃ m, m < T.length ∧ (lv T v d).getD m 0 = (d : Int) ∧ (x : Int) ∈ T.getD m []) (Classical.propDecidable _) ((d + 1 : Nat) : Int) (-1)) := by
    rw [List.getD_eq_getElem?_getD]; simp [lv, h]
  refine ⟨fun h1 => ?_, fun h1 h2 => ?_, fun h1 h2 => ?_⟩
  · rw [e, if_pos h1]
  · rw [e, if_neg h1, if_pos h2]
  · rw [e, if_neg h1, if_neg h2]
theorem lv_range {x : Nat} (h : x < T.length) : ∀ d, (lv T v d).getD x 0 = -1 ∨ 0 ≤ (lv T v d).getD x 0 ∧ (lv T v d).getD x 0 ≤ (d : Int)
  | 0 => by rw [lv_zero h]; split <;> simp
  | d + 1 => by
    obtain ⟨h1, h2, h3⟩ := lv_succ (v := v) (d := d) h
    rcases lv_range h d with e | ⟨e1, e2⟩
    · by_cases hx : ∃ m, m < T.length ∧ (lv T v d).getD m 0 = (d : Int) ∧ (x : Int) ∈ T.getD m []
      · rw [h2 (by omega) hx]; right; omega
      · rw [h3 (by omega) hx]; left; rfl
    · rw [h1 e1]; right; omega
theorem lv_ext {a b : List Int} (ha : a.length = T.length) (hb : b.length = T.length) (h : ∀ x, x < T.length → a.getD x 0 = b.getD x 0) : a = b := by
  apply List.ext_getElem (by omega)
  intro i h1 h2
  have := h i (by omega)
  rwa [getD_get h1, getD_get h2] at this
theorem lv_mono {x d : Nat} (h : x < T.length) (h0 : 0 ≤ (lv T v d).getD x 0) : ∀ e, (lv T v (d + e)).getD x 0 = (lv T v d).getD x 0
  | 0 => rfl
  | e + 1 => by
    have ih := lv_mono h h0 e
    rw [← Nat.add_assoc, (lv_succ (v := v) (d := d + e) h).1 (by omega), ih]
theorem lv_same {d : Nat} (h : lv T v (d + 1) = lv T v d) : ∀ e, lv T v (d + e) = lv T v d
  | 0 => rfl
  | e + 1 => by
    have ih := lv_same h e
    rw [← Nat.add_assoc]
    rw [← ih]
    refine lv_ext (T := T) (lv_length _) (lv_length _) fun x hx => ?_
    obtain ⟨h1, h2, h3⟩ := lv_succ (v := v) (d := d + e) hx
    by_cases h0 : 0 ≤ (lv T v (d + e)).getD x 0
    · exact h1 h0
    · have hm : (lv T v (d + e)).getD x 0 = -1 := by
        rcases lv_range (v := v) hx (d + e) with q | q
        · exact q
        · omega
      rw [hm]
      by_cases hx2 : ∃ m, m < T.length ∧ (lv T v (d + e)).getD m 0 = ((d + e : Nat) : Int) ∧ (x : Int) ∈ T.getD m []
      · exfalso
        rcases Nat.eq_zero_or_pos e with he | he
        · subst he
          have q1 := (lv_succ (v := v) (d := d) hx).2.1 (by simpa using h0) hx2
          have q2 : (lv T v (d + 1)).getD x 0 = (lv T v d).getD x 0 := by rw [h]
          have : ¬ 0 ≤ (lv T v d).getD x 0 := h0
          omega
        · obtain ⟨m, hm1, hm2, _⟩ := hx2
          rw [ih] at hm2
          rcases lv_range (v := v) hm1 d with q | q <;> omega
      · exact h3 h0 hx2
/-- How many are told. -/
noncomputable def cnt (l : List Int) (n : Nat) : Nat := ((List.range n).filter fun x => decide (0 ≤ l.getD x 0)).length
theorem cnt_le (l : List Int) (n : Nat) : cnt l n ≤ n := by
  have := List.length_filter_le (fun x => decide (0 ≤ l.getD x 0)) (List.range n)
  simpa [cnt] using this
theorem cnt_lt {d : Nat} (h : lv T v (d + 1) ≠ lv T v d) : cnt (lv T v d) T.length < cnt (lv T v (d + 1)) T.length := by
  have hx : ∃ x, x < T.length ∧ (lv T v (d + 1)).getD x 0 ≠ (lv T v d).getD x 0 := by
    apply Classical.byContradiction
    intro hn
    exact h (lv_ext (T := T) (lv_length _) (lv_length _) fun x hx => Classical.byContradiction fun hne => hn ⟨x, hx, hne⟩)
  obtain ⟨x, hx, hne⟩ := hx
  have mono : ∀ y, y < T.length → 0 ≤ (lv T v d).getD y 0 → 0 ≤ (lv T v (d + 1)).getD y 0 := fun y hy h0 => by
    rw [(lv_succ (v := v) (d := d) hy).1 h0]; exact h0
  have e : ∀ l : List Int, cnt l T.length = ((List.range T.length).filter fun x => decide (x < T.length ∧ 0 ≤ l.getD x 0)).length := fun l => by
    unfold cnt
    congr 1
    apply List.filter_congr
    intro y hy
    have := List.mem_range.1 hy
    simp [this]
  rw [e, e]
  refine (filter_lt (fun y hy => ?_)).2 ⟨x, List.mem_range.2 hx, ?_, ?_⟩
  · simp only [decide_eq_true_eq] at hy ⊢
    exact ⟨hy.1, mono y hy.1 hy.2⟩
  · simp only [decide_eq_true_eq]
    refine ⟨hx, ?_⟩
    obtain ⟨h1, h2, h3⟩ := lv_succ (v := v) (d := d) hx
    by_cases h0 : 0 ≤ (lv T v d).getD x 0
    · exact absurd (h1 h0) hne
    · by_cases hx2 : ∃ m, m < T.length ∧ (lv T v d).getD m 0 = (d : Int) ∧ (x : Int) ∈ T.getD m []
      · rw [h2 h0 hx2]; omega
      · rcases lv_range (v := v) hx d with q | q
        · exact absurd ((h3 h0 hx2).trans q.symm) hne
        · omega
  · simp only [decide_eq_false_iff_not]
    rintro ⟨_, h0⟩
    exact hne ((lv_succ (v := v) (d := d) hx).1 h0)
theorem lv_stop : ∀ d, (∃ e, e < d ∧ lv T v (e + 1) = lv T v e) ∨ d ≤ cnt (lv T v d) T.length
  | 0 => .inr (Nat.zero_le _)
  | d + 1 => by
    rcases lv_stop d with ⟨e, h1, h2⟩ | h
    · exact .inl ⟨e, by omega, h2⟩
    · by_cases hs : lv T v (d + 1) = lv T v d
      · exact .inl ⟨d, by omega, hs⟩
      · have := cnt_lt hs
        exact .inr (by omega)
/-- How far it is to each number; -1 where one never comes. -/
noncomputable def farT (T : List (List Int)) (v : List Bool) : List Int := lv T v T.length
theorem lv_end : ∀ e, lv T v (T.length + e) = farT T v := by
  rcases lv_stop (T := T) (v := v) (T.length + 1) with ⟨d, h1, h2⟩ | h
  · intro e
    have q1 := lv_same h2 (T.length + e - d)
    have q2 := lv_same h2 (T.length - d)
    rw [show d + (T.length + e - d) = T.length + e by omega] at q1
    rw [show d + (T.length - d) = T.length by omega] at q2
    unfold farT
    rw [q1, q2]
  · have := cnt_le (lv T v (T.length + 1)) T.length
    omega
/-- One comes there. -/
def RchT (T : List (List Int)) (v : List Bool) (x : Nat) : Prop := 0 ≤ (farT T v).getD x 0
theorem lv_first {x : Nat} (hx : x < T.length) : ∀ d e : Nat, (lv T v d).getD x 0 = (e : Int) → (lv T v e).getD x 0 = (e : Int)
  | 0, e, h => by
    rcases lv_range (v := v) hx 0 with q | q
    · omega
    · have : e = 0 := by omega
      subst this; exact h
  | d + 1, e, h => by
    by_cases h0 : 0 ≤ (lv T v d).getD x 0
    · rw [(lv_succ (v := v) (d := d) hx).1 h0] at h
      exact lv_first hx d e h
    · by_cases hx2 : ∃ m, m < T.length ∧ (lv T v d).getD m 0 = (d : Int) ∧ (x : Int) ∈ T.getD m []
      · have := (lv_succ (v := v) (d := d) hx).2.1 h0 hx2
        have : e = d + 1 := by omega
        subst this; exact h
      · have := (lv_succ (v := v) (d := d) hx).2.2 h0 hx2
        omega
theorem RchT.step {m x : Nat} (hm : m < T.length) (hx : x < T.length) (h : RchT T v m) (hmem : (x : Int) ∈ T.getD m []) : RchT T v x := by
  obtain ⟨e, he⟩ : ∃ e : Nat, (farT T v).getD m 0 = (e : Int) := ⟨((farT T v).getD m 0).toNat, by unfold RchT at h; omega⟩
  have h1 := lv_first (v := v) hm T.length e he
  have h2 : 0 ≤ (lv T v (e + 1)).getD x 0 := by
    obtain ⟨g1, g2, g3⟩ := lv_succ (v := v) (d := e) hx
    by_cases h0 : 0 ≤ (lv T v e).getD x 0
    · rw [g1 h0]; exact h0
    · rw [g2 h0 ⟨m, hm, h1, hmem⟩]; omega
  have h3 := lv_mono hx (v := v) h2 T.length
  unfold RchT
  rw [← lv_end (T := T) (v := v) (e + 1), Nat.add_comm, h3]
  exact h2
end Go.Ev

set_option linter.unusedVariables false
set_option linter.unusedSimpArgs false
namespace Go.Ev

/-! ### what a valid system gives, and valid blocks -/
structure Env (k : Nat) (s : SY) : Prop where
  S : SysP s
  hv : spec_SystemValid.f k s = some (true, ())
  iv : impl_SystemValid.f k s = some (true, ())
  hz : spec_SizeOf.f k s = some (((prodW s.1 : Nat) : Int), ())
  iz : impl_size.f k s.1 = some (((prodW s.1 : Nat) : Int), ())
theorem sys_env {k : Nat} (hk : 1048576 < k) (s : SY) (hb : BigS s) (hs : SmS s) : Env k s ∨ (spec_SystemValid.f k s = some (false, ()) ∧ impl_SystemValid.f k s = some (false, ()) ∧ spec_SizeOf.f k s = some (0, ())) := by
  obtain ⟨V, z, m1, m2, m3, m4, m5⟩ := sys_eq (k := k) (by omega) s hb hs
  cases V with
  | false => exact .inr ⟨m1, m2, by rw [m5]; rfl⟩
  | true =>
    obtain ⟨_, hz, hS⟩ := m4 rfl
    rw [if_pos rfl] at m5
    rw [hz] at m3 m5
    exact .inl ⟨hS, m1, m2, m5, m3⟩
structure BlkP (n : Nat) (b : List Int) : Prop where
  len : b.length = n
  low : ∀ j (h : j < b.length), 0 ≤ b[j] ∧ b[j] ≤ (j : Int)
  fix : ∀ j (h : j < b.length), b.getD b[j].toNat 0 = b[j]
theorem blocks_v (k : Nat) (p : List Int) (hp : p.length < 4611686018427387904) : ∀ (d n j : Nat), j + d = p.length → d < n → impl_blocksOk.l4 k p n (j : Int) = some (true, ()) →
    ∀ i (h : i < p.length), j ≤ i → 0 ≤ p[i] ∧ p[i] ≤ (i : Int) ∧ p.getD p[i].toNat 0 = p[i]
  | 0, n + 1, j, hd, hn, h, i, hi, hji => by omega
  | d + 1, n + 1, j, hd, hn, h, i, hi, hji => by
    have hj : j < p.length := by omega
    simp (disch := omega) only [impl_blocksOk.s4, gd_t, toNat_nat, getD_get hj, impl_in_eq, Option.bind_some, w64_id] at h
    rw [if_pos (by simpa using hj)] at h
    by_cases hin : 0 ≤ p[j] ∧ p[j] ≤ (j : Int)
    · simp (disch := omega) only [decide_eq_true hin, gd_t] at h
      by_cases he : p.getD p[j].toNat 0 = p[j]
      · rw [if_neg (by simp), if_neg (by simp [he, -List.getD_eq_getElem?_getD])] at h
        rcases Nat.lt_or_ge j i with hlt | hge
        · exact blocks_v k p hp d n (j + 1) (by omega) (by omega) (by simpa using h) i hi (by omega)
        · have : i = j := by omega
          subst this
          exact ⟨hin.1, hin.2, he⟩
      · rw [if_neg (by simp), if_pos (by simpa [-List.getD_eq_getElem?_getD] using he)] at h
        cases h
    · simp only [decide_eq_false hin] at h
      cases h
theorem blocks_cases {k : Nat} (hk : 1048576 < k) (s : SY) (p : List Int) (hb : BigS s) (hs : SmS s) (hp : p.length ≤ 1048576) :
    (spec_BlocksValid.f k s p = some (false, ()) ∧ impl_BlocksValid.f k s p = some (false, ())) ∨ (spec_BlocksValid.f k s p = some (true, ()) ∧ impl_BlocksValid.f k s p = some (true, ()) ∧ Env k s ∧ BlkP (prodW s.1) p) := by
  obtain ⟨b, b1, b2, b3⟩ := BlocksValid_eq hk s p hb hs hp
  cases b with
  | false => exact .inl ⟨b1, b2⟩
  | true =>
    obtain ⟨q1, q2, q3, q4⟩ := b3 rfl
    rcases sys_env hk s hb hs with E | ⟨e1, e2, e3⟩
    · refine .inr ⟨b1, b2, E, ?_⟩
      have h := b2
      rw [impl_BlocksValid.s, E.iv] at h
      simp only [Option.bind_some, if_true] at h
      rw [impl_blocksOk.s, E.iz] at h
      simp only [Option.bind_some] at h
      rw [if_neg (by simp [q4])] at h
      obtain ⟨b', h, _⟩ : ∃ b', impl_blocksOk.l4 k p k 0 = some (true, ()) ∧ b' = true := by
        simp only [Option.bind_eq_some_iff] at h
        obtain ⟨r, hr, e⟩ := h
        obtain ⟨r1, ⟨⟩⟩ := r
        injection e with e
        injection e with e _
        exact ⟨true, by rw [hr, show r1 = true from e], rfl⟩
      have := blocks_v k p (by omega) p.length k 0 (by omega) (by omega) h
      exact ⟨q4, fun j hj => ⟨(this j hj (by omega)).1, (this j hj (by omega)).2.1⟩, fun j hj => (this j hj (by omega)).2.2⟩
    · rw [e3] at q2
      injection q2 with q2
      injection q2 with q2
      omega

/-! ### steps between blocks -/
theorem steps_getD {s : SY} {j : Nat} (h : j < prodW s.1) : (stepsT s).getD j [] = rowT s j := by rw [getD_get (by rw [stepsT_length]; exact h), steps_get]
theorem rowT_len (s : SY) (n : Nat) : (rowT s n).length ≤ s.2.length := by
  have := (nextT_facts s (stOf s.1 n)).2.2
  simpa [rowT] using this
theorem rowT_get {s : SY} (hS : SysP s) {n i : Nat} (h : i < (rowT s n).length) : 0 ≤ (rowT s n)[i] ∧ (rowT s n)[i] < (prodW s.1 : Int) := rowT_mem (List.getElem_mem h) hS
/-- The blocks behind the numbers below n that are of block x. -/
noncomputable def accB (s : SY) (b : List Int) (x : Int) (n : Nat) : List Int := (List.range n).flatMap fun m => if b.getD m 0 = x then (rowT s m).map fun y => b.getD y.toNat 0 else []
theorem accB_succ (s : SY) (b : List Int) (x : Int) (n : Nat) : accB s b x (n + 1) = accB s b x n ++ (if b.getD n 0 = x then (rowT s n).map fun y => b.getD y.toNat 0 else []) := by
  simp [accB, List.range_succ, List.flatMap_append]
theorem accB_len {s : SY} (hS : SysP s) (b : List Int) (x : Int) : ∀ n, (accB s b x n).length ≤ n * 8
  | 0 => by simp [accB]
  | n + 1 => by
    have ih := accB_len hS b x n
    have h8 := hS.r8
    have hl := rowT_len s n
    rw [accB_succ, List.length_append]
    split
    · rw [List.length_map]; omega
    · simp; omega
theorem accB_mem {s : SY} (hS : SysP s) {b : List Int} {N : Nat} (hb : BlkP N b) (hN : N = prodW s.1) {x y : Int} {n : Nat} (h : y ∈ accB s b x n) : 0 ≤ y ∧ y < (N : Int) := by
  simp only [accB, List.mem_flatMap, List.mem_range] at h
  obtain ⟨m, hm, h⟩ := h
  split at h
  · obtain ⟨z, hz, rfl⟩ := List.mem_map.1 h
    have hz := rowT_mem hz hS
    have hzl : z.toNat < b.length := by rw [hb.len]; omega
    rw [getD_get hzl]
    have := hb.low _ hzl
    have := hb.len
    omega
  · simp at h
noncomputable def blkRow (s : SY) (b : List Int) (x : Nat) : List Int := Lib.compact ((accB s b (x : Int) (prodW s.1)).mergeSort fun x y => decide (x ≤ y))
noncomputable def blkT (s : SY) (b : List Int) : List (List Int) := (List.range (prodW s.1)).map (blkRow s b)
theorem blkT_length (s : SY) (b : List Int) : (blkT s b).length = prodW s.1 := by simp [blkT]
theorem blkRow_asc (s : SY) (b : List Int) (x : Nat) : Asc (blkRow s b x) := compact_lt (sort_le _)
theorem mem_blkRow {s : SY} {b : List Int} {x : Nat} {y : Int} : y ∈ blkRow s b x ↔ y ∈ accB s b (x : Int) (prodW s.1) := by
  unfold blkRow
  rw [mem_compact, mem_sort]
theorem blkRow_len {s : SY} (hS : SysP s) (b : List Int) (x : Nat) : (blkRow s b x).length ≤ 3200 := by
  have h1 := compact_len ((accB s b (x : Int) (prodW s.1)).mergeSort fun x y => decide (x ≤ y))
  have h2 := accB_len hS b (x : Int) (prodW s.1)
  have h3 := hS.sz
  rw [List.length_mergeSort] at h1
  unfold blkRow
  omega
theorem blkT_rows {s : SY} (hS : SysP s) {b : List Int} : ∀ r ∈ blkT s b, r.length ≤ 3200 := by
  intro r hr
  obtain ⟨n, _, rfl⟩ := List.mem_map.1 hr
  exact blkRow_len hS b n
theorem blkT_getD {s : SY} {b : List Int} {x : Nat} (h : x < prodW s.1) : (blkT s b).getD x [] = blkRow s b x := by rw [getD_get (by rw [blkT_length]; exact h)]; simp [blkT]
theorem getD_set' {α : Type} (v : List α) (y x : Nat) (a e : α) (hy : y < v.length) : (v.set y a).getD x e = if x = y then a else v.getD x e := by
  rw [List.getD_eq_getElem?_getD, List.getD_eq_getElem?_getD, List.getElem?_set]
  by_cases h : y = x
  · subst h; simp [hy]
  · rw [if_neg h, if_neg (fun h' => h h'.symm)]
theorem list_ext_getD {α : Type} {a b : List α} {n : Nat} {d : α} (ha : a.length = n) (hb : b.length = n) (h : ∀ x, x < n → a.getD x d = b.getD x d) : a = b := by
  apply List.ext_getElem (by omega)
  intro i h1 h2
  have := h i (by omega)
  rwa [getD_get h1, getD_get h2] at this
theorem blockSteps_eq {k : Nat} {s : SY} {b : List Int} (E : Env k s) (hb : BlkP (prodW s.1) b) (hk : 1048577 < k) : impl_blockSteps.f k s b = some (blkT s b, ()) := by
  have hS := E.S
  have hsz := hS.sz
  have h8 := hS.r8
  have hbl := hb.len
  obtain ⟨N, hN⟩ : ∃ N, N = prodW s.1 := ⟨_, rfl⟩
  rw [← hN] at hbl hsz
  rw [impl_blockSteps.s, gd_t (by omega), gd_t (by omega), nexts_eq hS E.iz hk]
  simp only [Option.bind_some, toNat_nat, stepsT_length, ← hN, hbl]
  refine for_post (m := N) (l := fun n u j => impl_blockSteps.l3 k b n u (stepsT s) (N : Int) j) (fun j u => u.length = N ∧ ∀ x, x < N → u.getD x [] = accB s b (x : Int) j) (fun x => x = some (blkT s b, ())) (fun n u hI => ?_) (fun n j u hj hI ih => ?_) (by omega) ⟨by simp, fun x hx => by simp [accB, List.getD_eq_getElem?_getD, List.getElem?_replicate, hx]⟩
  · -- each row in order
    simp only [impl_blockSteps.s3]
    rw [if_neg (by simp)]
    obtain ⟨hul, hu⟩ := hI
    refine for_post (m := N) (l := fun n w j => impl_blockSteps.l12 k u n w j) (fun j w => w.length = N ∧ ∀ x, x < N → w.getD x [] = if x < j then blkRow s b x else accB s b (x : Int) N) (fun x => x = some (blkT s b, ())) (fun n w hW => ?_) (fun n j w hj hW ih => ?_) (by omega) ⟨hul, fun x hx => by rw [if_neg (by omega)]; exact hu x hx⟩
    · simp only [impl_blockSteps.s12]
      rw [if_neg (by simp [hul])]
      have : w = blkT s b := list_ext_getD (d := []) hW.1 (by rw [blkT_length, hN]) fun x hx => by rw [hW.2 x hx, if_pos hx, blkT_getD (by omega)]
      rw [this]
    · obtain ⟨hwl, hw⟩ := hW
      have hwj := hw j hj
      rw [if_neg (by omega)] at hwj
      have hal := accB_len hS b (j : Int) N
      have hcl := blkRow_len hS b j
      simp (disch := omega) only [impl_blockSteps.s12, gd_t, toNat_nat, w64_id, List.length_set, hwj, slices_Sort_int_int.s, slices_Compact_int_int.s, Option.bind_some]
      rw [if_pos (by rw [hul]; simpa using hj), gd_t (by unfold LIM; omega)]
      simp (disch := omega) only [Option.bind_some, gd_t, List.length_set, getD_set', if_true]
      rw [gd_t (by rw [List.length_mergeSort]; unfold LIM; omega)]
      simp only [Option.bind_some]
      have e : Lib.compact ((accB s b (j : Int) N).mergeSort fun x y => decide (x ≤ y)) = blkRow s b j := by unfold blkRow; rw [hN]
      rw [e, clone_int_eq (k := k) (p := blkRow s b j) (by omega)]
      simp only [Option.bind_some, List.set_set, gd_true]
      refine ih _ (And.intro ?_ ?_)
      · rw [List.length_set]; exact hwl
      intro x hx
      rw [getD_set' w j x _ [] (by omega)]
      by_cases hxj : x = j
      · rw [if_pos hxj, if_pos (by omega), hxj]
      · rw [if_neg hxj, hw x hx]
        by_cases h : x < j
        · rw [if_pos h, if_pos (by omega)]
        · rw [if_neg h, if_neg (by omega)]
  · obtain ⟨hul, hu⟩ := hI
    have hjb : j < b.length := by omega
    have hbj := hb.low j hjb
    have hrj := steps_getD (s := s) (j := j) (by omega)
    have hrl := rowT_len s j
    simp (disch := omega) only [impl_blockSteps.s3, gd_t, stepsT_length]
    rw [if_pos (by simpa using hj)]
    refine for_post (m := (rowT s j).length) (l := fun q w i => impl_blockSteps.l6 k n b (stepsT s) (N : Int) (j : Int) q w i) (fun i w => w.length = N ∧ ∀ x, x < N → w.getD x [] = accB s b (x : Int) j ++ (if b.getD j 0 = (x : Int) then ((rowT s j).take i).map (fun y => b.getD y.toNat 0) else [])) (fun x => x = some (blkT s b, ())) (fun q w hW => ?_) (fun q i w hi hW ih2 => ?_) (by omega) ⟨hul, fun x hx => by rw [hu x hx]; simp⟩
    · simp (disch := omega) only [impl_blockSteps.s6, toNat_nat, hrj, w64_id]
      rw [if_neg (by simp)]
      refine ih _ ⟨hW.1, fun x hx => ?_⟩
      rw [hW.2 x hx, accB_succ, List.take_length]
    · obtain ⟨hwl, hw⟩ := hW
      have hri := rowT_get hS hi
      have hbr : (rowT s j)[i].toNat < b.length := by omega
      have hwb := hw b[j].toNat (by omega)
      have hal := accB_len hS b (b[j] : Int) j
      have hzb : ((b[j].toNat : Nat) : Int) = b[j] := by omega
      simp (disch := omega) only [impl_blockSteps.s6, gd_t, toNat_nat, hrj, getD_get hi, getD_get hjb, w64_id]
      rw [if_pos (by simpa using hi), hwb, hzb, getD_get hjb, if_pos rfl, gd_t (by simp; omega)]
      simp only [gd_true]
      refine ih2 _ (And.intro ?_ ?_)
      · rw [List.length_set]; exact hwl
      intro x hx
      rw [getD_set' w b[j].toNat x _ [] (by omega)]
      by_cases hxb : x = b[j].toNat
      · rw [if_pos hxb, hxb, hzb, getD_get hjb, if_pos rfl, List.take_succ_eq_append_getElem hi, List.map_append, List.append_assoc]
        rfl
      · rw [if_neg hxb, hw x hx, getD_get hjb, if_neg (by omega), if_neg (by omega)]
theorem l28Steps_eq {k : Nat} {s : SY} {b : List Int} (E : Env k s) (hb : BlkP (prodW s.1) b) (hk : 1048577 < k) : spec_l28Steps.f k s b = some (blkT s b, ()) := by
  have hS := E.S
  have hsz := hS.sz
  have h8 := hS.r8
  have hbl := hb.len
  rw [spec_l28Steps.s, l4Steps_eq hS E.hv E.hz hk]
  simp only [Option.bind_some]
  refine push_loop (l := fun n u j => spec_l28Steps.l4 k b n (stepsT s) u j) (ys := blkT s b) (m := prodW s.1) (blkT_length s b) (fun n j u hj hu => ?_) (fun n => ?_) (by omega)
  · simp only [spec_l28Steps.s4]
    rw [if_pos (by rw [stepsT_length]; simpa using hj)]
    refine for_from (a := j) (m := prodW s.1) (by omega) (l := fun q w i => spec_l28Steps.l8 k n b (stepsT s) u (j : Int) q w i) (fun i w => w = accB s b (j : Int) i) (fun x => x = spec_l28Steps.l4 k b n (stepsT s) (u ++ [(blkT s b)[j]'(by rw [blkT_length]; exact hj)]) ((j : Int) + 1)) (fun q w hW => ?_) (fun q i w hji hi hW ih => ?_) (by omega) ?_
    · subst hW
      simp (disch := omega) only [spec_l28Steps.s8, w64_id]
      rw [if_neg (by rw [stepsT_length]; simp)]
      have hal := accB_len hS b (j : Int) (prodW s.1)
      obtain ⟨q', h1, h2, h3⟩ := l17Ordered_eq (k := k) (accB s b (j : Int) (prodW s.1)) (fun x hx => by have := accB_mem hS hb rfl hx; omega) (by omega) (by omega)
      rw [h1]
      simp only [Option.bind_some]
      rw [gd_t (by simp; omega)]
      have : q' = blkRow s b j := asc_ext h2 (blkRow_asc s b j) fun x => by rw [h3, mem_blkRow]
      rw [this]
      simp [blkT]
    · have hri := steps_getD (s := s) (j := i) hi
      have hib : i < b.length := by omega
      have hrl := rowT_len s i
      have hal := accB_len hS b (j : Int) i
      have hsl := stepsT_length s
      simp only [spec_l28Steps.s8]
      rw [if_pos (by rw [stepsT_length]; simpa using hi)]
      by_cases hbj : b[i] = (j : Int)
      · refine for_post (m := (rowT s i).length) (l := fun q' w' e => spec_l28Steps.l11 k n q b (stepsT s) u (j : Int) (i : Int) q' w' e) (fun e w' => w' = w ++ ((rowT s i).take e).map fun y => b.getD y.toNat 0) (fun x => x = spec_l28Steps.l4 k b n (stepsT s) (u ++ [(blkT s b)[j]'(by rw [blkT_length]; exact hj)]) ((j : Int) + 1)) (fun q' w' hw' => ?_) (fun q' e w' he hw' ih2 => ?_) (by omega) (by simp)
        · simp (disch := omega) only [spec_l28Steps.s11, gd_t, toNat_nat, hri, w64_id]
          rw [if_neg (by simp)]
          refine ih _ ?_
          rw [hw', hW, accB_succ, getD_get hib, if_pos hbj, List.take_length]
        · have hre := rowT_get hS he
          have hwl : w'.length ≤ i * 8 + e := by rw [hw', hW]; simp; omega
          simp (disch := omega) only [spec_l28Steps.s11, gd_t, toNat_nat, hri, getD_get he, getD_get hib, w64_id]
          rw [if_pos (by simpa using he), if_pos (by simpa using hbj), gd_t (by simp; omega)]
          refine ih2 _ ?_
          rw [hw', List.take_succ_eq_append_getElem he, List.map_append, List.append_assoc]
          rfl
      · obtain ⟨k', rfl⟩ : ∃ q, k = q + 1 := ⟨k - 1, by omega⟩
        have hnext : w = accB s b (j : Int) (i + 1) := by rw [hW, accB_succ, getD_get hib, if_neg hbj, List.append_nil]
        simp (disch := omega) only [spec_l28Steps.s11, gd_t, toNat_nat, hri, getD_get hib, w64_id]
        by_cases hz : (rowT s i).length = 0
        · rw [if_neg (by simp [hz])]; exact ih _ hnext
        · rw [if_pos (by simp; omega), if_neg (by simpa using hbj)]; exact ih _ hnext
    · -- none below j is of block j
      have : ∀ i, i ≤ j → accB s b (j : Int) i = [] := by
        intro i
        induction i with
        | zero => intro _; simp [accB]
        | succ i ih =>
          intro hi
          have hib : i < b.length := by omega
          have := hb.low i hib
          rw [accB_succ, ih (by omega), getD_get hib, if_neg (by omega)]; rfl
      exact (this j (Nat.le_refl _)).symm
  · simp only [spec_l28Steps.s4]
    rw [if_neg (by rw [stepsT_length]; simp)]
end Go.Ev

set_option linter.unusedVariables false
set_option linter.unusedSimpArgs false
namespace Go.Ev

/-! ### rows of rows of numbers, as the laws look at them -/
def SmSS (p : List (List Int)) : Prop := p.length ≤ 1048576 ∧ ∀ r ∈ p, r.length ≤ 1048576
theorem eqIntSS_eq {k : Nat} {p : List (List Int)} (hk : 1048576 < k) (hp : SmSS p) : laws_eqIntSS.f k p p = some (true, ()) := by
  have hl := hp.1
  rw [laws_eqIntSS.s, if_neg (by simp)]
  refine eq_loop (m := p.length) (fun n j hj => ?_) (fun n => ?_) p.length k 0 (by omega) (by omega)
  · have hr := hp.2 _ (List.getElem_mem hj)
    simp (disch := omega) only [laws_eqIntSS.s4, gd_t, toNat_nat, getD_get hj, w64_id, eqIntS_eq (p := p[j]) (q := p[j]) (k := k) (by omega) (by omega), Option.bind_some]
    rw [if_pos (by simpa using hj)]
    simp
  · simp [laws_eqIntSS.s4]
def RowH (y : List Int) (m m' : Int) : Prop := y.length ≤ 1048576 ∧ Chain (fun y m m' => y = m ∧ m' = m + 1) y m m'
theorem markIntSS_ok {k : Nat} {p : List (List Int)} (hk : 1048576 < k) (hp : SmSS p) : MkOk (laws_markIntSS.f k p) (1048576 * 1048576) (fun q m m' => q.length = p.length ∧ Chain RowH q m m') := by
  intro m h0 h1
  rw [laws_markIntSS.s]
  refine mark_loop (c := 1048576) (fun n v m j hj hv hvj h0 h1 => ?_) (fun n v m hv => ?_) (by have := hp.1; omega) h0 (by omega) (by omega) hp.1
  · obtain ⟨m1, q1, a1, a2, a3, a4, a5⟩ := markIntS_ok hk (hp.2 _ (List.getElem_mem hj)) m (by omega) (by omega)
    refine ⟨m1, q1, by omega, by omega, ⟨by rw [a4]; exact hp.2 _ (List.getElem_mem hj), a5⟩, ?_⟩
    have := hp.1
    have a1' : laws_markIntS.f k v[j] m = some (m1, q1) := by rw [hvj]; exact a1
    simp (disch := omega) [laws_markIntSS.s2, w64_id, hj, hv, getD_get, a1', getD_set_self, List.set_set, -List.getD_eq_getElem?_getD]
  · simp [laws_markIntSS.s2, hv]
theorem heldIntSS_ok {k : Nat} {q : List (List Int)} {m m' : Int} (hk : 1048576 < k) (hl : q.length ≤ 1048576) (h0 : 0 ≤ m) (h1 : m' ≤ 9223372036854775000) (h : Chain RowH q m m') : laws_heldIntSS.f k q m = some (m', ()) := by
  rw [laws_heldIntSS.s]
  refine held_loop (fun n m m1 j hj hm0 hm1 hm2 hH => ?_) (fun n m => ?_) h (by omega) h0
  · obtain ⟨e1, e2⟩ := hH
    have := heldIntS_ok (k := k) (q := q[j]) (by omega) (by omega) hm0 (by omega) e2
    simp (disch := omega) only [laws_heldIntSS.s2, gd_t, toNat_nat, getD_get hj, w64_id, this, Option.bind_some]
    rw [if_pos (by simpa using hj), if_neg (by simp; omega)]
    rfl
  · simp [laws_heldIntSS.s2]
theorem blkT_sm {s : SY} (hS : SysP s) (b : List Int) : SmSS (blkT s b) := ⟨by rw [blkT_length]; have := hS.sz; omega, fun r hr => by have := blkT_rows hS r hr; omega⟩

/-! ### BlockSteps -/
theorem clone_mv_eq {k : Nat} (p : List (List Int)) (hp : p.length ≤ 1048576) : impl_clone_Lint_mv.f k p = some (p, ()) := by
  rw [impl_clone_Lint_mv.s]
  by_cases h : p.length = 0
  · rw [if_pos (by simp [h]), List.length_eq_zero_iff.1 h]
  · rw [if_neg (by simpa using h), gd_t (by omega), gd_t (by omega), gd_t (by simp)]
theorem BlockSteps_eq {k : Nat} (hk : 1048577 < k) (s : SY) (b : List Int) (hb : BigS s) (hs : SmS s) (hbl : b.length ≤ 1048576) : ∃ r, spec_BlockSteps.f k s b = some (r, ()) ∧ impl_BlockSteps.f k s b = some (r, ()) ∧ SmSS r := by
  rw [spec_BlockSteps.s, impl_BlockSteps.s]
  rcases blocks_cases (k := k) (by omega) s b hb hs hbl with ⟨e1, e2⟩ | ⟨e1, e2, E, hB⟩
  · rw [e1, e2]
    exact ⟨[], rfl, rfl, by simp [SmSS]⟩
  · have hz := E.S.sz
    have hsm := blkT_sm E.S b
    rw [e1, e2]
    simp only [Option.bind_some]
    rw [blockSteps_eq E hB hk, l28Steps_eq E hB hk]
    simp only [Option.bind_some]
    rw [clone_mv_eq _ hsm.1]
    exact ⟨_, rfl, rfl, hsm⟩
theorem FnExactBlockSteps_pure {k : Nat} (hk : 1048577 < k) (s : SY) (b : List Int) (hb : BigS s) (hbl : b.length < 9223372036854775808) : laws_FnExactBlockSteps.f k s b = some (true, ()) := by
  rw [laws_FnExactBlockSteps.s]
  obtain ⟨r, e, hr⟩ := szSystem_ok (k := k) (by omega) hb 1048576 (by omega) (by omega)
  rw [e]; simp only [Option.bind_some]
  rcases hr with hr | ⟨h1, h2, hs⟩
  · rw [if_pos (by simpa using hr)]
  rw [if_neg (by simpa using h1)]
  obtain ⟨r2, e2, hr2⟩ := szBlocks_ok (k := k) hbl r h1 h2
  rw [e2]; simp only [Option.bind_some]
  rcases hr2 with hr | ⟨g1, g2, hpl⟩
  · rw [if_pos (by simpa using hr)]
  rw [if_neg (by simpa using g1)]
  have hk' : 1048576 < k := by omega
  obtain ⟨x, s1, s2, hx⟩ := BlockSteps_eq hk s b hb hs hpl
  obtain ⟨m1, q1, a1, a2, a3, -⟩ := markSystem_ok hk' hs 1 (by omega) (by omega)
  obtain ⟨m2, q2, b1, b2, b3, -⟩ := markBlocks_ok hk' hpl m1 (by omega) (by omega)
  obtain ⟨m4, q4, d1, d2, d3, d4, d5⟩ := markIntSS_ok hk' hx 1 (by omega) (by omega)
  have hh := heldIntSS_ok (k := k) (by omega) (by rw [d4]; exact hx.1) (by omega) (by omega) d5
  simp only [toSystem_eq hk' hs, toBlocks_eq hk' hpl, Option.bind_some, s1, s2, eqSystem_eq hk' hs, eqBlocks_eq hk' hpl, eqIntSS_eq hk' hx, a1, b1, d1, hh]
  simp [show ¬ m2 < 0 by omega, show ¬ m4 < 0 by omega]
theorem FnExactBlockSteps_true (s : SY) (b : List Int) (w0 : Wf sSY s) (w1 : Wf (.agg (.slice false I)) b) : ∃ k, laws_FnExactBlockSteps.f k s b = some (true, ()) := by
  have hm := maxLen_eq
  exact ⟨1048578, FnExactBlockSteps_pure (by omega) s b (BigS_of w0) (by have := w1.1; omega)⟩
end Go.Ev
