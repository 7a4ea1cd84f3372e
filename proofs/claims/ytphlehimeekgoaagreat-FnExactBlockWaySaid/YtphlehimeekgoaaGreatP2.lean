/- Plain mathematics on what the functions compute. -/
import Derived.Test.YtphlehimeekgoaaGreatP1
import Derived.Test.YtphlehimeekgoaaGreatEv4
import Derived.IntWalk
import Derived.Lib.SlicesCompact
set_option linter.unusedVariables false
set_option linter.unusedSimpArgs false
namespace Go.Ev

/-- The states that come next, in order. -/
noncomputable def nextOf (s : SY) (st : List Int) (j : Nat) : List (List Int) := (s.2.take j).foldl (fun l r => match useT s st r with | some x => putL x l | none => l) []
noncomputable def nextT (s : SY) (st : List Int) : List (List Int) := nextOf s st s.2.length
theorem nextOf_succ (s : SY) (st : List Int) {j : Nat} (h : j < s.2.length) : nextOf s st (j + 1) = match useT s st s.2[j] with | some x => putL x (nextOf s st j) | none => nextOf s st j := by
  unfold nextOf
  rw [List.take_succ_eq_append_getElem h, List.foldl_append]
  rfl
theorem nextOf_facts (s : SY) (st : List Int) : ∀ j, j ≤ s.2.length → SortedL (nextOf s st j) ∧ (∀ x ∈ nextOf s st j, StP s.1 x) ∧ (nextOf s st j).length ≤ j
  | 0, _ => by simp [nextOf, SortedL]
  | j + 1, h => by
    obtain ⟨h1, h2, h3⟩ := nextOf_facts s st j (by omega)
    rw [nextOf_succ s st (by omega)]
    split
    · rename_i x hx
      refine ⟨h1.put, fun y hy => ?_, ?_⟩
      · rcases mem_putL.1 hy with rfl | hy
        · exact useT_StP hx
        · exact h2 y hy
      · have := putL_length (x := x) (nextOf s st j); omega
    · exact ⟨h1, h2, by omega⟩
theorem useT_ne {s : SY} {st x : List Int} {r : RU} (hS : SysP s) (h : useT s st r = some x) : 0 < x.length := by
  have := (useT_StP h).length
  have := hS.v1
  omega
theorem l2Next_eq {k : Nat} {s : SY} {st : List Int} (hS : SysP s) (hst : StP s.1 st) (hk : 1048577 < k) : spec_l2Next.f k s st = some (nextT s st, ()) := by
  have h8 := hS.r8
  have h5 := hS.v5
  rw [spec_l2Next.s]
  refine for_post (m := s.2.length) (l := fun n v j => spec_l2Next.l3 k s st n v j) (fun j v => v = nextOf s st j) (fun x => x = _) (fun n v hI => ?_) (fun n j v hj hI ih => ?_) (by omega) (by simp [nextOf])
  · rw [hI]
    simp [spec_l2Next.s3, nextT]
  · obtain ⟨g1, g2, g3⟩ := nextOf_facts s st j (by omega)
    simp (disch := omega) only [spec_l2Next.s3, l2Use_eq hS hst (show 1048576 < k by omega) j hj, Option.bind_some, w64_id]
    rw [if_pos (by simpa using hj)]
    have e := nextOf_succ s st hj
    cases hu : useT s st s.2[j] with
    | none =>
      rw [hu] at e
      simp only [Option.getD_none, List.length_nil]
      rw [if_neg (by simp)]
      exact ih _ (by rw [e, hI])
    | some x =>
      rw [hu] at e
      have hx := (useT_StP hu).length
      simp only [Option.getD_some]
      rw [if_pos (by simpa using useT_ne hS hu), l2Put_eq v x (by omega) (fun y hy => by rw [hI] at hy; have := (g2 y hy).length; omega) (by rw [hI]; omega) hk]
      exact ih _ (by rw [e, hI])
theorem cloneL_eq {k : Nat} (p : List (List Int)) (hp : p.length ≤ 1048576) : impl_clone_Lint.f k p = some (p, ()) := by
  rw [impl_clone_Lint.s]
  by_cases h : p.length = 0
  · rw [if_pos (by simpa using h)]
    have : p = [] := List.length_eq_zero_iff.1 h
    rw [this]
  · rw [if_neg (by simpa using h), gd_t (by omega), gd_t (by omega)]
    simp
theorem nextStates_eq {k : Nat} {s : SY} {st : List Int} (hS : SysP s) (hst : StP s.1 st) (hk : 1048577 < k) : impl_nextStates.f k s st = some (nextT s st, ()) := by
  have h8 := hS.r8
  have h5 := hS.v5
  rw [impl_nextStates.s]
  refine for_post (m := s.2.length) (l := fun n v j => impl_nextStates.l3 k s st n v j) (fun j v => v = nextOf s st j) (fun x => x = _) (fun n v hI => ?_) (fun n j v hj hI ih => ?_) (by omega) (by simp [nextOf])
  · obtain ⟨g1, g2, g3⟩ := nextOf_facts s st s.2.length (Nat.le_refl _)
    rw [hI]
    simp only [impl_nextStates.s3]
    rw [if_neg (by simp), cloneL_eq _ (by omega)]
    rfl
  · obtain ⟨g1, g2, g3⟩ := nextOf_facts s st j (by omega)
    rw [← hI] at g1 g2 g3
    simp (disch := omega) only [impl_nextStates.s3, use_eq hS hst (show 1048576 < k by omega) j hj, Option.bind_some, w64_id]
    rw [if_pos (by simpa using hj)]
    have e := nextOf_succ s st hj
    rw [← hI] at e
    cases hu : useT s st s.2[j] with
    | none =>
      rw [hu] at e
      simp only [Option.isSome_none, Bool.false_eq_true, if_false]
      exact ih _ e.symm
    | some x =>
      rw [hu] at e
      have hx := (useT_StP hu).length
      obtain ⟨i, i1, i2, i3, i4⟩ := BinarySearch_eq (k := k) v x (fun p => (slices_Compare_int_int.f k p.1 p.2.1).bind fun r => some r.1) (fun y hy => by
        dsimp only
        rw [Compare_eq y x (by have := (g2 y hy).length; omega) (by omega) (by omega)]; rfl) g1 (by omega) (by omega)
      simp only [Option.getD_some, Option.isSome_some, if_true, i2, Option.bind_some]
      by_cases hm : x ∈ v
      · rw [if_neg (by simp [hm])]
        exact ih _ (by rw [e]; exact (putL_mem g1 hm).symm)
      · rw [if_pos (by simp [hm]), slices_Insert_int_int.s, gd_t (by omega), gd_t (by omega), gd_t (by simp), gd_t (by unfold LIM; simp; omega)]
        simp only [Option.bind_some]
        exact ih _ (by rw [e]; exact insert_putL i3 i4 hm)

/-! ### the number of a state -/
/-- What the numbers are, counted from the left. -/
def preNo (vs : List VA) (st : List Int) : Nat → Nat
  | 0 => 0
  | j + 1 => preNo vs st j * wid (vs.getD j (0, 0, 0)) + (st.getD j 0 - (vs.getD j (0, 0, 0)).1).toNat
theorem preNo_spec {vs : List VA} {st : List Int} (hl : st.length = vs.length) : ∀ j, j ≤ vs.length → noOf vs st = preNo vs st j * prodW (vs.drop j) + noOf (vs.drop j) (st.drop j)
  | 0, _ => by simp [preNo]
  | j + 1, h => by
    have hj : j < vs.length := by omega
    have hj' : j < st.length := by omega
    rw [preNo_spec hl j (by omega), preNo, drop_cons_get hj, drop_cons_get hj', prodW, noOf, getD_get hj, getD_get hj', Nat.add_mul, Nat.mul_assoc, Nat.add_assoc]
theorem preNo_lt {vs : List VA} {st : List Int} (h : StP vs st) (hv : ∀ v ∈ vs, VarP v) {j : Nat} (hj : j ≤ vs.length) : preNo vs st j ≤ noOf vs st := by
  have e := preNo_spec h.length j hj
  have hp : 0 < prodW (vs.drop j) := prodW_pos fun v hm => hv v (List.mem_of_mem_drop hm)
  have := Nat.le_mul_of_pos_right (preNo vs st j) hp
  omega
theorem no_step {vs : List VA} {st : List Int} (h : StP vs st) (hv : ∀ v ∈ vs, VarP v) (hsz : prodW vs ≤ 400) {j : Nat} (hj : j < vs.length) (hj' : j < st.length) :
    w64 (w64 (w64 ((preNo vs st j : Int) * w64 (w64 (vs[j].2.1 - vs[j].1) + 1)) + st[j]) - vs[j].1) = ((preNo vs st (j + 1) : Nat) : Int) := by
  have hp := hv _ (List.getElem_mem hj)
  have hb := hp
  unfold VarP at hb
  have hst := (StP_iff.1 h).2 j hj hj'
  have h1 := preNo_lt h hv (j := j + 1) (by omega)
  have h2 := noOf_lt h hv
  have e : preNo vs st (j + 1) = preNo vs st j * wid vs[j] + (st[j] - vs[j].1).toNat := by rw [preNo, getD_get hj, getD_get hj']
  have e2 : (preNo vs st j : Int) * (wid vs[j] : Int) = ((preNo vs st j * wid vs[j] : Nat) : Int) := by simp
  rw [wid_w64 hp, e2, e]
  rw [e] at h1
  generalize preNo vs st j * wid vs[j] = m at h1 ⊢
  rw [w64_id (x := (m : Int)) (by omega) (by omega), w64_id (x := (m : Int) + st[j]) (by omega) (by omega), w64_id (by omega) (by omega)]
  omega
theorem number_eq {k : Nat} {s : SY} {st : List Int} (hS : SysP s) (hst : StP s.1 st) (hk : 1000 < k) : impl_number.f k s st = some (((noOf s.1 st : Nat) : Int), ()) := by
  have h5 := hS.v5
  have hl := hst.length
  rw [impl_number.s]
  refine for_post (m := s.1.length) (l := fun n (v : Int) j => impl_number.l3 k s st n v j) (fun j v => v = ((preNo s.1 st j : Nat) : Int)) (fun x => x = _) (fun n v hI => ?_) (fun n j v hj hI ih => ?_) (by omega) (by simp [preNo])
  · have := preNo_spec hl s.1.length (Nat.le_refl _)
    rw [List.drop_eq_nil_of_le (Nat.le_refl _), List.drop_eq_nil_of_le (by omega)] at this
    simp [prodW, noOf] at this
    simp [impl_number.s3, hI, this]
  · have hj' : j < st.length := by omega
    simp (disch := omega) only [impl_number.s3, gd_t, toNat_nat, getD_get hj, getD_get hj', hI, no_step hst hS.vp hS.sz hj hj']
    rw [if_pos (by simpa using hj), w64_id (x := (j : Int) + 1) (by omega) (by omega)]
    exact ih _ rfl
theorem l4Number_eq {k : Nat} {s : SY} {st : List Int} (hS : SysP s) (hst : StP s.1 st) (hk : 1000 < k) : spec_l4Number.f k s st = some (((noOf s.1 st : Nat) : Int), ()) := by
  have h5 := hS.v5
  have hl := hst.length
  rw [spec_l4Number.s]
  refine for_post (m := s.1.length) (l := fun n (v : Int) j => spec_l4Number.l3 k s st n v j) (fun j v => v = ((preNo s.1 st j : Nat) : Int)) (fun x => x = _) (fun n v hI => ?_) (fun n j v hj hI ih => ?_) (by omega) (by simp [preNo])
  · have := preNo_spec hl s.1.length (Nat.le_refl _)
    rw [List.drop_eq_nil_of_le (Nat.le_refl _), List.drop_eq_nil_of_le (by omega)] at this
    simp [prodW, noOf] at this
    simp [spec_l4Number.s3, hI, this, hl]
  · have hj' : j < st.length := by omega
    simp (disch := omega) only [spec_l4Number.s3, gd_t, toNat_nat, getD_get hj, getD_get hj', hI, no_step hst hS.vp hS.sz hj hj']
    rw [if_pos (by simpa using hj'), w64_id (x := (j : Int) + 1) (by omega) (by omega)]
    exact ih _ rfl
theorem set_getD_self {α : Type} (v : List α) (j : Nat) (d : α) : v.set j (v.getD j d) = v := by
  by_cases h : j < v.length
  · rw [getD_get h]; simp
  · rw [List.set_eq_of_length_le (by omega)]
/-- The table of steps: the numbers that come next, for each number. -/
noncomputable def rowT (s : SY) (n : Nat) : List Int := (nextT s (stOf s.1 n)).map fun x => ((noOf s.1 x : Nat) : Int)
noncomputable def stepsT (s : SY) : List (List Int) := (List.range (prodW s.1)).map (rowT s)
theorem stepsT_length (s : SY) : (stepsT s).length = prodW s.1 := by simp [stepsT]
theorem nextT_facts (s : SY) (st : List Int) : SortedL (nextT s st) ∧ (∀ x ∈ nextT s st, StP s.1 x) ∧ (nextT s st).length ≤ s.2.length := nextOf_facts s st _ (Nat.le_refl _)
theorem l4Steps_eq {k : Nat} {s : SY} (hS : SysP s) (hv : spec_SystemValid.f k s = some (true, ())) (hz : spec_SizeOf.f k s = some (((prodW s.1 : Nat) : Int), ())) (hk : 1048577 < k) : spec_l4Steps.f k s = some (stepsT s, ()) := by
  have hsz := hS.sz
  have h8 := hS.r8
  rw [spec_l4Steps.s]
  refine push_loop (l := fun n v j => spec_l4Steps.l3 k s n v j) (ys := stepsT s) (m := prodW s.1) (stepsT_length s) (fun n j v hj hv' => ?_) (fun n => ?_) (by omega)
  · have hst := stOf_StP j hS.vp
    obtain ⟨g1, g2, g3⟩ := nextT_facts s (stOf s.1 j)
    simp (disch := omega) only [spec_l4Steps.s3, hz, Option.bind_some, l4State_eq hS hv j (by omega) (show 1048576 < k by omega), l2Next_eq hS hst hk]
    rw [if_pos (by simpa using hj)]
    refine push_loop (l := fun q v i => spec_l4Steps.l8 k n s _ (j : Int) q (nextT s (stOf s.1 j)) v i) (ys := rowT s j) (m := (nextT s (stOf s.1 j)).length) (by simp [rowT]) (fun q i u hi hu => ?_) (fun q => ?_) (by omega)
    · simp (disch := omega) only [spec_l4Steps.s8, gd_t, toNat_nat, getD_get hi, l4Number_eq hS (g2 _ (List.getElem_mem hi)) (show 1000 < k by omega), Option.bind_some, w64_id]
      rw [if_pos (by simpa using hi), gd_t (by simp; omega)]
      simp [rowT]
    · simp (disch := omega) only [spec_l4Steps.s8, w64_id]
      rw [if_neg (by simp), gd_t (by simp; omega)]
      simp [stepsT]
  · simp only [spec_l4Steps.s3, hz, Option.bind_some]
    rw [if_neg (by simp)]
theorem nexts_eq {k : Nat} {s : SY} (hS : SysP s) (hz : impl_size.f k s.1 = some (((prodW s.1 : Nat) : Int), ())) (hk : 1048577 < k) : impl_nexts.f k s = some (stepsT s, ()) := by
  have hsz := hS.sz
  have h8 := hS.r8
  rw [impl_nexts.s, hz]
  simp only [Option.bind_some]
  rw [gd_t (by omega), gd_t (by omega)]
  simp only [List.length_replicate, toNat_nat]
  refine for_post (m := prodW s.1) (l := fun n v j => impl_nexts.l3 k s n v ((prodW s.1 : Nat) : Int) j) (fun j v => v = (stepsT s).take j ++ List.replicate (prodW s.1 - j) []) (fun x => x = _) (fun n v hI => ?_) (fun n j v hj hI ih => ?_) (by omega) (by simp)
  · rw [hI, List.take_of_length_le (by rw [stepsT_length]; omega)]
    simp [impl_nexts.s3]
  · have hst := stOf_StP j hS.vp
    obtain ⟨g1, g2, g3⟩ := nextT_facts s (stOf s.1 j)
    simp (disch := omega) only [impl_nexts.s3, stateAt_eq hS j (by omega) (show 1000 < k by omega), nextStates_eq hS hst hk, Option.bind_some]
    rw [if_pos (by simpa using hj)]
    have hvl : v.length = prodW s.1 := by rw [hI]; simp [stepsT_length]; omega
    have hvj : v.getD j [] = [] := by
      rw [hI, List.getD_eq_getElem?_getD, List.getElem?_append_right (by simp [stepsT_length]; omega)]
      simp [stepsT_length]
      cases h : (prodW s.1 - j) with
      | zero => rfl
      | succ q => simp [List.replicate_succ, show j - min j (prodW s.1) = 0 by omega]
    refine for_post (m := (nextT s (stOf s.1 j)).length) (l := fun q u i => impl_nexts.l6 k n s ((prodW s.1 : Nat) : Int) (j : Int) q u (nextT s (stOf s.1 j)) ((nextT s (stOf s.1 j)).length : Int) i) (fun i u => u = v.set j ((rowT s j).take i)) (fun x => x = _) (fun q u hu => ?_) (fun q i u hi hu ih2 => ?_) (by omega) (by
      simp only [List.take_zero]
      rw [← hvj]; exact (set_getD_self v j []).symm)
    · simp (disch := omega) only [impl_nexts.s6, w64_id]
      rw [if_neg (by simp)]
      refine ih _ ?_
      rw [hu, List.take_of_length_le (by simp [rowT]), hI, List.set_append_right _ _ (by simp [stepsT_length]; omega), List.take_succ_eq_append_getElem (by rw [stepsT_length]; exact hj)]
      have e : prodW s.1 - j = (prodW s.1 - (j + 1)) + 1 := by omega
      rw [e, List.replicate_succ]
      simp [stepsT_length, stepsT, show j - min j (prodW s.1) = 0 by omega]
    · have hul : u.length = prodW s.1 := by rw [hu]; simp [hvl]
      have hrl : (rowT s j).length = (nextT s (stOf s.1 j)).length := by simp [rowT]
      have huj : u.getD j [] = (rowT s j).take i := by rw [hu]; exact getD_set_self (by omega)
      simp (disch := omega) only [impl_nexts.s6, gd_t, toNat_nat, getD_get hi, number_eq hS (g2 _ (List.getElem_mem hi)) (show 1000 < k by omega), Option.bind_some, w64_id, huj]
      rw [if_pos (by simpa using hi), gd_t (by simp; omega)]
      simp only [gd_true]
      refine ih2 _ ?_
      rw [hu, List.set_set, List.take_succ_eq_append_getElem (by omega)]
      simp [rowT]
end Go.Ev


set_option linter.unusedVariables false
set_option linter.unusedSimpArgs false
namespace Go.Ev

/-! ### ascending lists of numbers -/
def Asc (l : List Int) : Prop := l.Pairwise (· < ·)
theorem asc_ext : ∀ {a b : List Int}, Asc a → Asc b → (∀ x, x ∈ a ↔ x ∈ b) → a = b
  | [], [], _, _, _ => rfl
  | [], y :: b, _, _, h => by have := (h y).2 (by simp); simp at this
  | x :: a, [], _, _, h => by have := (h x).1 (by simp); simp at this
  | x :: a, y :: b, ha, hb, h => by
    obtain ⟨a1, a2⟩ := List.pairwise_cons.1 ha
    obtain ⟨b1, b2⟩ := List.pairwise_cons.1 hb
    have hxy : x = y := by
      have h1 := (h x).1 (by simp)
      have h2 := (h y).2 (by simp)
      rcases List.mem_cons.1 h1 with e | h1
      · exact e
      · rcases List.mem_cons.1 h2 with e | h2
        · exact e.symm
        · have := a1 y h2
          have := b1 x h1
          omega
    subst hxy
    rw [asc_ext a2 b2 fun z => ?_]
    constructor
    · intro hz
      rcases List.mem_cons.1 ((h z).1 (by simp [hz])) with e | hz'
      · have := a1 z hz; omega
      · exact hz'
    · intro hz
      rcases List.mem_cons.1 ((h z).2 (by simp [hz])) with e | hz'
      · have := b1 z hz; omega
      · exact hz'
/-- The numbers marked. -/
def listT (v : List Bool) : List Int := ((List.range v.length).filter fun i => v.getD i false).map fun (i : Nat) => (i : Int)
theorem listT_asc (v : List Bool) : Asc (listT v) := by
  unfold Asc listT
  rw [List.pairwise_map]
  exact (List.Pairwise.filter _ List.pairwise_lt_range).imp fun h => by omega
theorem mem_listT {v : List Bool} {x : Int} : x ∈ listT v ↔ ∃ i : Nat, i < v.length ∧ v.getD i false = true ∧ (i : Int) = x := by
  simp only [listT, List.mem_map, List.mem_filter, List.mem_range, and_assoc]
theorem l4List_eq {k : Nat} (v : List Bool) (hv : v.length ≤ 1048576) (hk : 1048576 < k) : spec_l4List.f k v = some (listT v, ()) := by
  rw [spec_l4List.s]
  refine for_post (m := v.length) (l := fun n l j => spec_l4List.l3 k v n l j) (fun j l => l = ((List.range j).filter fun i => v.getD i false).map (fun (i : Nat) => (i : Int)) ∧ l.length ≤ j) (fun x => x = some (listT v, ())) (fun n l hI => ?_) (fun n j l hj hI ih => ?_) (by omega) (by simp)
  · rw [hI.1]; simp [spec_l4List.s3, listT]
  · simp (disch := omega) only [spec_l4List.s3, gd_t, toNat_nat, w64_id]
    rw [if_pos (by simpa using hj)]
    by_cases hb : v.getD j false = true
    · rw [if_pos hb, gd_t (by have := hI.2; simp; omega)]
      exact ih _ ⟨by rw [hI.1, List.range_succ, List.filter_append]; simp [hb, -List.getD_eq_getElem?_getD], by have := hI.2; simp; omega⟩
    · rw [if_neg hb]
      exact ih _ ⟨by rw [hI.1, List.range_succ, List.filter_append]; simp [hb, -List.getD_eq_getElem?_getD], by omega⟩
/-- A list of numbers below 400, put in order without repeats. -/
theorem l17Ordered_eq {k : Nat} (p : List Int) (h : ∀ x ∈ p, 0 ≤ x ∧ x < 400) (hp : p.length ≤ 1048576) (hk : 1048576 < k) : ∃ q, spec_l17Ordered.f k p = some (q, ()) ∧ Asc q ∧ ∀ x, x ∈ q ↔ x ∈ p := by
  rw [spec_l17Ordered.s, gd_t (by omega), gd_t (by omega), gd_t (by omega)]
  obtain ⟨N, hN⟩ : ∃ N : Nat, N = Int.toNat 400 := ⟨_, rfl⟩
  have hN4 : N = 400 := hN
  rw [← hN]
  clear hN
  refine for_post (m := p.length) (l := fun n v j => spec_l17Ordered.l3 k p n v j) (fun j v => v.length = N ∧ ∀ i : Nat, i < N → (v.getD i false = true ↔ (i : Int) ∈ p.take j)) (fun x => ∃ q, x = some (q, ()) ∧ Asc q ∧ ∀ x, x ∈ q ↔ x ∈ p) (fun n v hI => ?_) (fun n j v hj hI ih => ?_) (by omega) (by
    refine ⟨by simp, fun i hi => ?_⟩
    simp [List.getD_eq_getElem?_getD, List.getElem?_replicate, hi])
  · obtain ⟨h1, h2⟩ := hI
    rw [List.take_of_length_le (by omega)] at h2
    simp only [spec_l17Ordered.s3, l4List_eq v (by omega) hk]
    rw [if_neg (by simp)]
    refine ⟨_, rfl, listT_asc v, fun x => ?_⟩
    rw [mem_listT]
    constructor
    · rintro ⟨i, hi, hb, rfl⟩
      exact (h2 i (by omega)).1 hb
    · intro hx
      have := h x hx
      refine ⟨x.toNat, by omega, (h2 x.toNat (by omega)).2 ?_, by omega⟩
      rw [show ((x.toNat : Nat) : Int) = x by omega]; exact hx
  · obtain ⟨h1, h2⟩ := hI
    have hx := h _ (List.getElem_mem hj)
    simp (disch := omega) only [spec_l17Ordered.s3, gd_t, toNat_nat, getD_get hj, w64_id]
    rw [if_pos (by simpa using hj)]
    refine ih _ ⟨by simp [h1], fun i hi => ?_⟩
    rw [mem_take1 hj]
    by_cases e : p[j].toNat = i
    · have : (i : Int) = p[j] := by omega
      rw [← e, getD_set_self (by omega)]
      simp [e, this]
    · have : (i : Int) ≠ p[j] := by omega
      rw [List.getD_eq_getElem?_getD, List.getElem?_set_ne e, ← List.getD_eq_getElem?_getD, h2 i hi]
      simp [this]
end Go.Ev


set_option linter.unusedVariables false
set_option linter.unusedSimpArgs false
namespace Go.Ev

/-! ### a state with its variables exchanged -/
theorem rowT_mem {s : SY} {n : Nat} {x : Int} (h : x ∈ rowT s n) (hS : SysP s) : 0 ≤ x ∧ x < (prodW s.1 : Int) := by
  simp only [rowT, List.mem_map] at h
  obtain ⟨y, hy, rfl⟩ := h
  have := noOf_lt ((nextT_facts s _).2.1 y hy) hS.vp
  omega
theorem steps_get {s : SY} {n : Nat} (h : n < (stepsT s).length) : (stepsT s)[n] = rowT s n := by simp [stepsT]
end Go.Ev


set_option linter.unusedVariables false
set_option linter.unusedSimpArgs false
namespace Go.Ev
theorem arr_get {p : List Int} {i : Nat} (h : i < p.length) : p.toArray[i]! = p[i] := by simp [h]
theorem le_get {p : List Int} (h : p.Pairwise (· ≤ ·)) {i j : Nat} (hij : i ≤ j) (hj : j < p.length) : p[i] ≤ p[j] := by
  rcases Nat.lt_or_ge i j with hlt | hge
  · exact List.pairwise_iff_getElem.1 h i j (by omega) hj hlt
  · have : i = j := by omega
    subst this; exact Int.le_refl _
theorem compact_lt {p : List Int} (h : p.Pairwise (· ≤ ·)) : (Lib.compact p).Pairwise (· < ·) := by
  unfold Lib.compact Lib.compactUpTo
  rw [List.pairwise_map]
  refine List.Pairwise.imp_of_mem ?_ (List.Pairwise.filter _ List.pairwise_lt_range)
  intro i j hi hj hij
  simp only [List.mem_filter, List.mem_range] at hi hj
  obtain ⟨hjl, hk⟩ := hj
  have hk : j = 0 ∨ p.toArray[j]! ≠ p.toArray[j - 1]! := by simpa [Lib.keeps] using hk
  rw [arr_get hjl, arr_get (show j - 1 < p.length by omega)] at hk
  rw [arr_get hi.1, arr_get hjl]
  have h1 := le_get h (show i ≤ j - 1 by omega) (by omega)
  have h2 := le_get h (show j - 1 ≤ j by omega) hjl
  rcases hk with hk | hk
  · omega
  · omega
theorem mem_compact {p : List Int} {x : Int} : x ∈ Lib.compact p ↔ x ∈ p := by
  unfold Lib.compact Lib.compactUpTo
  simp only [List.mem_map, List.mem_filter, List.mem_range]
  constructor
  · rintro ⟨i, ⟨hi, _⟩, rfl⟩
    rw [arr_get hi]; exact List.getElem_mem hi
  · intro hx
    have hi : p.idxOf x < p.length := List.idxOf_lt_length_iff.2 hx
    refine ⟨p.idxOf x, ⟨hi, ?_⟩, by rw [arr_get hi]; simp⟩
    simp only [Lib.keeps, decide_eq_true_eq]
    rcases Nat.eq_zero_or_pos (p.idxOf x) with h0 | h0
    · exact .inl h0
    · right
      rw [arr_get hi, arr_get (show p.idxOf x - 1 < p.length by omega)]
      have : p[p.idxOf x] = x := by simp
      rw [this]
      intro e
      have := List.not_of_lt_findIdx (p := (· == x)) (xs := p) (i := p.idxOf x - 1) (show p.idxOf x - 1 < p.idxOf x by omega)
      simp [← e] at this
theorem sort_le (p : List Int) : (p.mergeSort fun x y => decide (x ≤ y)).Pairwise (· ≤ ·) :=
  (List.pairwise_mergeSort (le := fun x y : Int => decide (x ≤ y)) (fun a b c h1 h2 => by simp at *; omega) (fun a b => by simp; omega) p).imp fun h => of_decide_eq_true h
theorem mem_sort {p : List Int} {x : Int} : x ∈ (p.mergeSort fun x y => decide (x ≤ y)) ↔ x ∈ p := List.mem_mergeSort
end Go.Ev

set_option linter.unusedVariables false
set_option linter.unusedSimpArgs false
namespace Go.Ev
/-- A loop over the numbers from a on, below m. -/
theorem for_from {σ R : Type} {l : Nat → σ → Int → R} {a m : Nat} (ha : a ≤ m) (I : Nat → σ → Prop) (Q : R → Prop)
    (stop : ∀ n s, I m s → Q (l (n + 1) s (m : Int)))
    (step : ∀ n j s, a ≤ j → j < m → I j s → (∀ s', I (j + 1) s' → Q (l n s' ((j : Int) + 1))) → Q (l (n + 1) s (j : Int))) :
    ∀ {k s}, m < k → I a s → Q (l k s (a : Int)) := by
  have key : ∀ d n j s, a ≤ j → j + d = m → d < n → I j s → Q (l n s (j : Int)) := by
    intro d
    induction d with
    | zero =>
      intro n j s haj h hn hI
      obtain ⟨n, rfl⟩ : ∃ q, n = q + 1 := ⟨n - 1, by omega⟩
      have : j = m := by omega
      subst this
      exact stop n s hI
    | succ d ih =>
      intro n j s haj h hn hI
      obtain ⟨n, rfl⟩ : ∃ q, n = q + 1 := ⟨n - 1, by omega⟩
      refine step n j s haj (by omega) hI fun s' h' => ?_
      have := ih n (j + 1) s' (by omega) (by omega) (by omega) h'
      simpa using this
  intro k s hk hI
  exact key (m - a) k a s (Nat.le_refl _) (by omega) (by omega) hI
theorem filter_lt {α : Type} {p q : α → Bool} (h : ∀ x, p x = true → q x = true) : ∀ {l : List α}, (l.filter p).length ≤ (l.filter q).length ∧ ((∃ x ∈ l, q x = true ∧ p x = false) → (l.filter p).length < (l.filter q).length)
  | [] => ⟨Nat.le_refl _, fun ⟨x, hx, _⟩ => by simp at hx⟩
  | y :: l => by
    obtain ⟨h1, h2⟩ := filter_lt h (l := l)
    cases hp : p y with
    | true =>
      have hq := h y hp
      simp only [List.filter_cons, hp, hq, if_true, List.length_cons]
      refine ⟨by omega, fun ⟨x, hx, e1, e2⟩ => ?_⟩
      rcases List.mem_cons.1 hx with e | hx
      · rw [e, hp] at e2; cases e2
      · have := h2 ⟨x, hx, e1, e2⟩; omega
    | false =>
      cases hq : q y with
      | true =>
        simp only [List.filter_cons, hp, hq, if_true, List.length_cons]
        refine ⟨by simp; omega, fun _ => by simp; omega⟩
      | false =>
        simp only [List.filter_cons, hp, hq]
        refine ⟨by simpa using h1, fun ⟨x, hx, e1, e2⟩ => ?_⟩
        rcases List.mem_cons.1 hx with e | hx
        · rw [e, hq] at e1; cases e1
        · simpa using h2 ⟨x, hx, e1, e2⟩

/-! ### how far it is over a table -/
/-- A table whose numbers are below its length. -/
def TabP (T : List (List Int)) : Prop := ∀ r ∈ T, ∀ x ∈ r, 0 ≤ x ∧ x < (T.length : Int)
/-- How far it is to each number, as far as that is at most d. -/
noncomputable def lv (T : List (List Int)) (v : List Bool) : Nat → List Int
  | 0 => (List.range T.length).map fun x => if v.getD x false = true then 0 else -1
  | d + 1 => by
    classical
    exact (List.range T.length).map fun x => if 0 ≤ (lv T v d).getD x 0 then (lv T v d).getD x 0 else if ∃ m, m < T.length ∧ (lv T v d).getD m 0 = (d : Int) ∧ (x : Int) ∈ T.getD m [] then ((d + 1 : Nat) : Int) else -1
variable {T : List (List Int)} {v : List Bool}
theorem lv_length : ∀ d, (lv T v d).length = T.length
  | 0 => by simp [lv]
  | d + 1 => by simp [lv]
theorem lv_zero {x : Nat} (h : x < T.length) : (lv T v 0).getD x 0 = if v.getD x false = true then 0 else -1 := by
  rw [List.getD_eq_getElem?_getD]; simp [lv, h]
theorem lv_succ {d x : Nat} (h : x < T.length) : (0 ≤ (lv T v d).getD x 0 → (lv T v (d + 1)).getD x 0 = (lv T v d).getD x 0) ∧
    (¬ 0 ≤ (lv T v d).getD x 0 → (∃ m, m < T.length ∧ (lv T v d).getD m 0 = (d : Int) ∧ (x : Int) ∈ T.getD m []) → (lv T v (d + 1)).getD x 0 = ((d + 1 : Nat) : Int)) ∧
    (¬ 0 ≤ (lv T v d).getD x 0 → ¬ (∃ m, m < T.length ∧ (lv T v d).getD m 0 = (d : Int) ∧ (x : Int) ∈ T.getD m []) → (lv T v (d + 1)).getD x 0 = -1) := by
  have e : (lv T v (d + 1)).getD x 0 = @ite _ (0 ≤ (lv T v d).getD x 0) (Classical.propDecidable _) ((lv T v d).getD x 0) (@ite _ (∃ m, m < T.length ∧ (lv T v d).getD m 0 = (d : Int) ∧ (x : Int) ∈ T.getD m []) (Classical.propDecidable _) ((d + 1 : Nat) : Int) (-1)) := by
    rw [List.getD_eq_getElem?_getD]; simp [lv, h]
  refine ⟨fun h1 => ?_, fun h1 h2 => ?_, fun h1 h2 => ?_⟩
  · rw [e, if_pos h1]
  · rw [e, if_neg h1, if_pos h2]
  · rw [e, if_neg h1, if_neg h2]
theorem lv_range {x : Nat} (h : x < T.length) : ∀ d, (lv T v d).getD x 0 = -1 ∨ 0 ≤ (lv T v d).getD x 0 ∧ (lv T v d).getD x 0 ≤ (d : Int)
  | 0 => by rw [lv_zero h]; split <;> simp
  | d + 1 => by
    obtain ⟨h1, h2, h3⟩ := lv_succ (v := v) (d := d) h
    rcases lv_range h d with e | ⟨e1, e2⟩
    · by_cases hx : ∃ m, m < T.length ∧ (lv T v d).getD m 0 = (d : Int) ∧ (x : Int) ∈ T.getD m []
      · rw [h2 (by omega) hx]; right; omega
      · rw [h3 (by omega) hx]; left; rfl
    · rw [h1 e1]; right; omega
theorem lv_ext {a b : List Int} (ha : a.length = T.length) (hb : b.length = T.length) (h : ∀ x, x < T.length → a.getD x 0 = b.getD x 0) : a = b := by
  apply List.ext_getElem (by omega)
  intro i h1 h2
  have := h i (by omega)
  rwa [getD_get h1, getD_get h2] at this
theorem lv_mono {x d : Nat} (h : x < T.length) (h0 : 0 ≤ (lv T v d).getD x 0) : ∀ e, (lv T v (d + e)).getD x 0 = (lv T v d).getD x 0
  | 0 => rfl
  | e + 1 => by
    have ih := lv_mono h h0 e
    rw [← Nat.add_assoc, (lv_succ (v := v) (d := d + e) h).1 (by omega), ih]
theorem lv_same {d : Nat} (h : lv T v (d + 1) = lv T v d) : ∀ e, lv T v (d + e) = lv T v d
  | 0 => rfl
  | e + 1 => by
    have ih := lv_same h e
    rw [← Nat.add_assoc]
    rw [← ih]
    refine lv_ext (T := T) (lv_length _) (lv_length _) fun x hx => ?_
    obtain ⟨h1, h2, h3⟩ := lv_succ (v := v) (d := d + e) hx
    by_cases h0 : 0 ≤ (lv T v (d + e)).getD x 0
    · exact h1 h0
    · have hm : (lv T v (d + e)).getD x 0 = -1 := by
        rcases lv_range (v := v) hx (d + e) with q | q
        · exact q
        · omega
      rw [hm]
      by_cases hx2 : ∃ m, m < T.length ∧ (lv T v (d + e)).getD m 0 = ((d + e : Nat) : Int) ∧ (x : Int) ∈ T.getD m []
      · exfalso
        rcases Nat.eq_zero_or_pos e with he | he
        · subst he
          have q1 := (lv_succ (v := v) (d := d) hx).2.1 (by simpa using h0) hx2
          have q2 : (lv T v (d + 1)).getD x 0 = (lv T v d).getD x 0 := by rw [h]
          have : ¬ 0 ≤ (lv T v d).getD x 0 := h0
          omega
        · obtain ⟨m, hm1, hm2, _⟩ := hx2
          rw [ih] at hm2
          rcases lv_range (v := v) hm1 d with q | q <;> omega
      · exact h3 h0 hx2
/-- How many are told. -/
noncomputable def cnt (l : List Int) (n : Nat) : Nat := ((List.range n).filter fun x => decide (0 ≤ l.getD x 0)).length
theorem cnt_le (l : List Int) (n : Nat) : cnt l n ≤ n := by
  have := List.length_filter_le (fun x => decide (0 ≤ l.getD x 0)) (List.range n)
  simpa [cnt] using this
theorem cnt_lt {d : Nat} (h : lv T v (d + 1) ≠ lv T v d) : cnt (lv T v d) T.length < cnt (lv T v (d + 1)) T.length := by
  have hx : ∃ x, x < T.length ∧ (lv T v (d + 1)).getD x 0 ≠ (lv T v d).getD x 0 := by
    apply Classical.byContradiction
    intro hn
    exact h (lv_ext (T := T) (lv_length _) (lv_length _) fun x hx => Classical.byContradiction fun hne => hn ⟨x, hx, hne⟩)
  obtain ⟨x, hx, hne⟩ := hx
  have mono : ∀ y, y < T.length → 0 ≤ (lv T v d).getD y 0 → 0 ≤ (lv T v (d + 1)).getD y 0 := fun y hy h0 => by
    rw [(lv_succ (v := v) (d := d) hy).1 h0]; exact h0
  have e : ∀ l : List Int, cnt l T.length = ((List.range T.length).filter fun x => decide (x < T.length ∧ 0 ≤ l.getD x 0)).length := fun l => by
    unfold cnt
    congr 1
    apply List.filter_congr
    intro y hy
    have := List.mem_range.1 hy
    simp [this]
  rw [e, e]
  refine (filter_lt (fun y hy => ?_)).2 ⟨x, List.mem_range.2 hx, ?_, ?_⟩
  · simp only [decide_eq_true_eq] at hy ⊢
    exact ⟨hy.1, mono y hy.1 hy.2⟩
  · simp only [decide_eq_true_eq]
    refine ⟨hx, ?_⟩
    obtain ⟨h1, h2, h3⟩ := lv_succ (v := v) (d := d) hx
    by_cases h0 : 0 ≤ (lv T v d).getD x 0
    · exact absurd (h1 h0) hne
    · by_cases hx2 : ∃ m, m < T.length ∧ (lv T v d).getD m 0 = (d : Int) ∧ (x : Int) ∈ T.getD m []
      · rw [h2 h0 hx2]; omega
      · rcases lv_range (v := v) hx d with q | q
        · exact absurd ((h3 h0 hx2).trans q.symm) hne
        · omega
  · simp only [decide_eq_false_iff_not]
    rintro ⟨_, h0⟩
    exact hne ((lv_succ (v := v) (d := d) hx).1 h0)
theorem lv_stop : ∀ d, (∃ e, e < d ∧ lv T v (e + 1) = lv T v e) ∨ d ≤ cnt (lv T v d) T.length
  | 0 => .inr (Nat.zero_le _)
  | d + 1 => by
    rcases lv_stop d with ⟨e, h1, h2⟩ | h
    · exact .inl ⟨e, by omega, h2⟩
    · by_cases hs : lv T v (d + 1) = lv T v d
      · exact .inl ⟨d, by omega, hs⟩
      · have := cnt_lt hs
        exact .inr (by omega)
/-- How far it is to each number; -1 where one never comes. -/
noncomputable def farT (T : List (List Int)) (v : List Bool) : List Int := lv T v T.length
theorem farT_length : (farT T v).length = T.length := lv_length _
theorem lv_end : ∀ e, lv T v (T.length + e) = farT T v := by
  rcases lv_stop (T := T) (v := v) (T.length + 1) with ⟨d, h1, h2⟩ | h
  · intro e
    have q1 := lv_same h2 (T.length + e - d)
    have q2 := lv_same h2 (T.length - d)
    rw [show d + (T.length + e - d) = T.length + e by omega] at q1
    rw [show d + (T.length - d) = T.length by omega] at q2
    unfold farT
    rw [q1, q2]
  · have := cnt_le (lv T v (T.length + 1)) T.length
    omega
theorem lv_far {d : Nat} (h : lv T v (d + 1) = lv T v d) (hd : d ≤ T.length) : lv T v d = farT T v := by
  have := lv_same h (T.length - d)
  rw [show d + (T.length - d) = T.length by omega] at this
  exact this.symm
/-- One comes there. -/
def RchT (T : List (List Int)) (v : List Bool) (x : Nat) : Prop := 0 ≤ (farT T v).getD x 0
theorem RchT.start {x : Nat} (hx : x < T.length) (h : v.getD x false = true) : RchT T v x := by
  have h0 : (lv T v 0).getD x 0 = 0 := by rw [lv_zero hx, if_pos h]
  have := lv_mono hx (v := v) (d := 0) (by omega) T.length
  unfold RchT farT
  rw [Nat.zero_add] at this
  rw [this, h0]; omega
theorem lv_first {x : Nat} (hx : x < T.length) : ∀ d e : Nat, (lv T v d).getD x 0 = (e : Int) → (lv T v e).getD x 0 = (e : Int)
  | 0, e, h => by
    rcases lv_range (v := v) hx 0 with q | q
    · omega
    · have : e = 0 := by omega
      subst this; exact h
  | d + 1, e, h => by
    by_cases h0 : 0 ≤ (lv T v d).getD x 0
    · rw [(lv_succ (v := v) (d := d) hx).1 h0] at h
      exact lv_first hx d e h
    · by_cases hx2 : ∃ m, m < T.length ∧ (lv T v d).getD m 0 = (d : Int) ∧ (x : Int) ∈ T.getD m []
      · have := (lv_succ (v := v) (d := d) hx).2.1 h0 hx2
        have : e = d + 1 := by omega
        subst this; exact h
      · have := (lv_succ (v := v) (d := d) hx).2.2 h0 hx2
        omega
theorem RchT.step {m x : Nat} (hm : m < T.length) (hx : x < T.length) (h : RchT T v m) (hmem : (x : Int) ∈ T.getD m []) : RchT T v x := by
  obtain ⟨e, he⟩ : ∃ e : Nat, (farT T v).getD m 0 = (e : Int) := ⟨((farT T v).getD m 0).toNat, by unfold RchT at h; omega⟩
  have h1 := lv_first (v := v) hm T.length e he
  have h2 : 0 ≤ (lv T v (e + 1)).getD x 0 := by
    obtain ⟨g1, g2, g3⟩ := lv_succ (v := v) (d := e) hx
    by_cases h0 : 0 ≤ (lv T v e).getD x 0
    · rw [g1 h0]; exact h0
    · rw [g2 h0 ⟨m, hm, h1, hmem⟩]; omega
  have h3 := lv_mono hx (v := v) h2 T.length
  unfold RchT
  rw [← lv_end (T := T) (v := v) (e + 1), Nat.add_comm, h3]
  exact h2
theorem RchT.least {C : Nat → Prop} (h0 : ∀ x, x < T.length → v.getD x false = true → C x) (h1 : ∀ m x, m < T.length → x < T.length → C m → (x : Int) ∈ T.getD m [] → C x) : ∀ x, x < T.length → RchT T v x → C x := by
  have key : ∀ d x, x < T.length → 0 ≤ (lv T v d).getD x 0 → C x := by
    intro d
    induction d with
    | zero =>
      intro x hx h
      rw [lv_zero hx] at h
      by_cases hv : v.getD x false = true
      · exact h0 x hx hv
      · rw [if_neg hv] at h; omega
    | succ d ih =>
      intro x hx h
      by_cases h2 : 0 ≤ (lv T v d).getD x 0
      · exact ih x hx h2
      · by_cases hx2 : ∃ m, m < T.length ∧ (lv T v d).getD m 0 = (d : Int) ∧ (x : Int) ∈ T.getD m []
        · obtain ⟨m, hm, e, hmem⟩ := hx2
          exact h1 m x hm hx (ih m hm (by omega)) hmem
        · have := (lv_succ (v := v) (d := d) hx).2.2 h2 hx2
          omega
  exact fun x hx h => key T.length x hx h
end Go.Ev

set_option linter.unusedVariables false
set_option linter.unusedSimpArgs false
namespace Go.Ev

/-! ### what a valid system gives, and valid blocks -/
structure Env (k : Nat) (s : SY) : Prop where
  S : SysP s
  hv : spec_SystemValid.f k s = some (true, ())
  iv : impl_SystemValid.f k s = some (true, ())
  hz : spec_SizeOf.f k s = some (((prodW s.1 : Nat) : Int), ())
  iz : impl_size.f k s.1 = some (((prodW s.1 : Nat) : Int), ())
theorem sys_env {k : Nat} (hk : 1048576 < k) (s : SY) (hb : BigS s) (hs : SmS s) : Env k s ∨ (spec_SystemValid.f k s = some (false, ()) ∧ impl_SystemValid.f k s = some (false, ()) ∧ spec_SizeOf.f k s = some (0, ())) := by
  obtain ⟨V, z, m1, m2, m3, m4, m5⟩ := sys_eq (k := k) (by omega) s hb hs
  cases V with
  | false => exact .inr ⟨m1, m2, by rw [m5]; rfl⟩
  | true =>
    obtain ⟨_, hz, hS⟩ := m4 rfl
    rw [if_pos rfl] at m5
    rw [hz] at m3 m5
    exact .inl ⟨hS, m1, m2, m5, m3⟩
structure BlkP (n : Nat) (b : List Int) : Prop where
  len : b.length = n
  low : ∀ j (h : j < b.length), 0 ≤ b[j] ∧ b[j] ≤ (j : Int)
  fix : ∀ j (h : j < b.length), b.getD b[j].toNat 0 = b[j]
theorem blocks_v (k : Nat) (p : List Int) (hp : p.length < 4611686018427387904) : ∀ (d n j : Nat), j + d = p.length → d < n → impl_blocksOk.l4 k p n (j : Int) = some (true, ()) →
    ∀ i (h : i < p.length), j ≤ i → 0 ≤ p[i] ∧ p[i] ≤ (i : Int) ∧ p.getD p[i].toNat 0 = p[i]
  | 0, n + 1, j, hd, hn, h, i, hi, hji => by omega
  | d + 1, n + 1, j, hd, hn, h, i, hi, hji => by
    have hj : j < p.length := by omega
    simp (disch := omega) only [impl_blocksOk.s4, gd_t, toNat_nat, getD_get hj, impl_in_eq, Option.bind_some, w64_id] at h
    rw [if_pos (by simpa using hj)] at h
    by_cases hin : 0 ≤ p[j] ∧ p[j] ≤ (j : Int)
    · simp (disch := omega) only [decide_eq_true hin, gd_t] at h
      by_cases he : p.getD p[j].toNat 0 = p[j]
      · rw [if_neg (by simp), if_neg (by simp [he, -List.getD_eq_getElem?_getD])] at h
        rcases Nat.lt_or_ge j i with hlt | hge
        · exact blocks_v k p hp d n (j + 1) (by omega) (by omega) (by simpa using h) i hi (by omega)
        · have : i = j := by omega
          subst this
          exact ⟨hin.1, hin.2, he⟩
      · rw [if_neg (by simp), if_pos (by simpa [-List.getD_eq_getElem?_getD] using he)] at h
        cases h
    · simp only [decide_eq_false hin] at h
      cases h
theorem blocks_ok {k : Nat} (hk : 1048576 < k) {s : SY} (E : Env k s) (p : List Int) (hp : p.length ≤ 1048576) : ∃ c, spec_BlocksValid.f k s p = some (c, ()) ∧ impl_blocksOk.f k s p = some (c, ()) ∧ (c = true → BlkP (prodW s.1) p) := by
  have hpos := prodW_pos E.S.vp
  rw [spec_BlocksValid.s, impl_blocksOk.s, E.hz, E.iz]
  simp only [Option.bind_some]
  obtain ⟨b, h1, h2⟩ := blocks_l k p (by omega) p.length k k 0 (by omega) (by omega) (by omega)
  have h1 : spec_BlocksValid.l4 k p k 0 = some (b, ()) := h1
  have h2 : impl_blocksOk.l4 k p k 0 = some (b, ()) := h2
  rw [h1, h2]
  by_cases hl : p.length = prodW s.1
  · rw [if_neg (c := ((p.length : Int) != ((prodW s.1 : Nat) : Int)) = true) (by simp [hl]), if_neg (c := ((p.length : Int) == 0) = true) (by simp only [beq_iff_eq]; omega), if_neg (c := ((p.length : Int) != ((prodW s.1 : Nat) : Int)) = true) (by simp [hl])]
    refine ⟨b, rfl, rfl, fun hb => ?_⟩
    subst hb
    have := blocks_v k p (by omega) p.length k 0 (by omega) (by omega) h2
    exact ⟨hl, fun j hj => ⟨(this j hj (by omega)).1, (this j hj (by omega)).2.1⟩, fun j hj => (this j hj (by omega)).2.2⟩
  · rw [if_pos (c := ((p.length : Int) != ((prodW s.1 : Nat) : Int)) = true) (by simp; omega), if_pos (c := ((p.length : Int) != ((prodW s.1 : Nat) : Int)) = true) (by simp; omega)]
    exact ⟨false, rfl, rfl, fun h => by cases h⟩
theorem blocks_no {k : Nat} {s : SY} (h : spec_SizeOf.f k s = some (0, ())) (p : List Int) : spec_BlocksValid.f k s p = some (false, ()) := by
  rw [spec_BlocksValid.s, h]
  simp only [Option.bind_some]
  by_cases h0 : p.length = 0
  · simp [h0]
  · rw [if_pos (by simp only [bne_iff_ne, ne_eq]; omega)]
theorem blocks_cases0 {k : Nat} (hk : 1048576 < k) (s : SY) (p : List Int) (hb : BigS s) (hs : SmS s) (hp : p.length ≤ 1048576) :
    (spec_BlocksValid.f k s p = some (false, ()) ∧ (impl_SystemValid.f k s = some (false, ()) ∨ (Env k s ∧ impl_blocksOk.f k s p = some (false, ())))) ∨ (spec_BlocksValid.f k s p = some (true, ()) ∧ impl_blocksOk.f k s p = some (true, ()) ∧ Env k s ∧ BlkP (prodW s.1) p) := by
  rcases sys_env hk s hb hs with E | ⟨e1, e2, e3⟩
  · obtain ⟨c, c1, c2, c3⟩ := blocks_ok hk E p hp
    cases c with
    | false => exact .inl ⟨c1, .inr ⟨E, c2⟩⟩
    | true => exact .inr ⟨c1, c2, E, c3 rfl⟩
  · exact .inl ⟨blocks_no e3 p, .inl e2⟩
/-! ### steps between blocks -/
theorem steps_getD {s : SY} {j : Nat} (h : j < prodW s.1) : (stepsT s).getD j [] = rowT s j := by rw [getD_get (by rw [stepsT_length]; exact h), steps_get]
theorem rowT_len (s : SY) (n : Nat) : (rowT s n).length ≤ s.2.length := by
  have := (nextT_facts s (stOf s.1 n)).2.2
  simpa [rowT] using this
theorem rowT_get {s : SY} (hS : SysP s) {n i : Nat} (h : i < (rowT s n).length) : 0 ≤ (rowT s n)[i] ∧ (rowT s n)[i] < (prodW s.1 : Int) := rowT_mem (List.getElem_mem h) hS
/-- The blocks behind the numbers below n that are of block x. -/
noncomputable def accB (s : SY) (b : List Int) (x : Int) (n : Nat) : List Int := (List.range n).flatMap fun m => if b.getD m 0 = x then (rowT s m).map fun y => b.getD y.toNat 0 else []
theorem accB_succ (s : SY) (b : List Int) (x : Int) (n : Nat) : accB s b x (n + 1) = accB s b x n ++ (if b.getD n 0 = x then (rowT s n).map fun y => b.getD y.toNat 0 else []) := by
  simp [accB, List.range_succ, List.flatMap_append]
theorem accB_len {s : SY} (hS : SysP s) (b : List Int) (x : Int) : ∀ n, (accB s b x n).length ≤ n * 8
  | 0 => by simp [accB]
  | n + 1 => by
    have ih := accB_len hS b x n
    have h8 := hS.r8
    have hl := rowT_len s n
    rw [accB_succ, List.length_append]
    split
    · rw [List.length_map]; omega
    · simp; omega
theorem accB_mem {s : SY} (hS : SysP s) {b : List Int} {N : Nat} (hb : BlkP N b) (hN : N = prodW s.1) {x y : Int} {n : Nat} (h : y ∈ accB s b x n) : 0 ≤ y ∧ y < (N : Int) := by
  simp only [accB, List.mem_flatMap, List.mem_range] at h
  obtain ⟨m, hm, h⟩ := h
  split at h
  · obtain ⟨z, hz, rfl⟩ := List.mem_map.1 h
    have hz := rowT_mem hz hS
    have hzl : z.toNat < b.length := by rw [hb.len]; omega
    rw [getD_get hzl]
    have := hb.low _ hzl
    have := hb.len
    omega
  · simp at h
noncomputable def blkRow (s : SY) (b : List Int) (x : Nat) : List Int := Lib.compact ((accB s b (x : Int) (prodW s.1)).mergeSort fun x y => decide (x ≤ y))
noncomputable def blkT (s : SY) (b : List Int) : List (List Int) := (List.range (prodW s.1)).map (blkRow s b)
theorem blkT_length (s : SY) (b : List Int) : (blkT s b).length = prodW s.1 := by simp [blkT]
theorem blkRow_asc (s : SY) (b : List Int) (x : Nat) : Asc (blkRow s b x) := compact_lt (sort_le _)
theorem mem_blkRow {s : SY} {b : List Int} {x : Nat} {y : Int} : y ∈ blkRow s b x ↔ y ∈ accB s b (x : Int) (prodW s.1) := by
  unfold blkRow
  rw [mem_compact, mem_sort]
theorem blkRow_len {s : SY} (hS : SysP s) (b : List Int) (x : Nat) : (blkRow s b x).length ≤ 3200 := by
  have h1 := compact_len ((accB s b (x : Int) (prodW s.1)).mergeSort fun x y => decide (x ≤ y))
  have h2 := accB_len hS b (x : Int) (prodW s.1)
  have h3 := hS.sz
  rw [List.length_mergeSort] at h1
  unfold blkRow
  omega
theorem blkT_tab {s : SY} (hS : SysP s) {b : List Int} (hb : BlkP (prodW s.1) b) : TabP (blkT s b) := by
  intro r hr x hx
  obtain ⟨n, _, rfl⟩ := List.mem_map.1 hr
  rw [blkT_length]
  exact accB_mem hS hb rfl (mem_blkRow.1 hx)
theorem blkT_rows {s : SY} (hS : SysP s) {b : List Int} : ∀ r ∈ blkT s b, r.length ≤ 3200 := by
  intro r hr
  obtain ⟨n, _, rfl⟩ := List.mem_map.1 hr
  exact blkRow_len hS b n
theorem blkT_getD {s : SY} {b : List Int} {x : Nat} (h : x < prodW s.1) : (blkT s b).getD x [] = blkRow s b x := by rw [getD_get (by rw [blkT_length]; exact h)]; simp [blkT]
theorem getD_set' {α : Type} (v : List α) (y x : Nat) (a e : α) (hy : y < v.length) : (v.set y a).getD x e = if x = y then a else v.getD x e := by
  rw [List.getD_eq_getElem?_getD, List.getD_eq_getElem?_getD, List.getElem?_set]
  by_cases h : y = x
  · subst h; simp [hy]
  · rw [if_neg h, if_neg (fun h' => h h'.symm)]
theorem list_ext_getD {α : Type} {a b : List α} {n : Nat} {d : α} (ha : a.length = n) (hb : b.length = n) (h : ∀ x, x < n → a.getD x d = b.getD x d) : a = b := by
  apply List.ext_getElem (by omega)
  intro i h1 h2
  have := h i (by omega)
  rwa [getD_get h1, getD_get h2] at this
theorem blockSteps_eq {k : Nat} {s : SY} {b : List Int} (E : Env k s) (hb : BlkP (prodW s.1) b) (hk : 1048577 < k) : impl_blockSteps.f k s b = some (blkT s b, ()) := by
  have hS := E.S
  have hsz := hS.sz
  have h8 := hS.r8
  have hbl := hb.len
  obtain ⟨N, hN⟩ : ∃ N, N = prodW s.1 := ⟨_, rfl⟩
  rw [← hN] at hbl hsz
  rw [impl_blockSteps.s, gd_t (by omega), gd_t (by omega), nexts_eq hS E.iz hk]
  simp only [Option.bind_some, toNat_nat, stepsT_length, ← hN, hbl]
  refine for_post (m := N) (l := fun n u j => impl_blockSteps.l3 k b n u (stepsT s) (N : Int) j) (fun j u => u.length = N ∧ ∀ x, x < N → u.getD x [] = accB s b (x : Int) j) (fun x => x = some (blkT s b, ())) (fun n u hI => ?_) (fun n j u hj hI ih => ?_) (by omega) ⟨by simp, fun x hx => by simp [accB, List.getD_eq_getElem?_getD, List.getElem?_replicate, hx]⟩
  · -- each row in order
    simp only [impl_blockSteps.s3]
    rw [if_neg (by simp)]
    obtain ⟨hul, hu⟩ := hI
    refine for_post (m := N) (l := fun n w j => impl_blockSteps.l12 k u n w j) (fun j w => w.length = N ∧ ∀ x, x < N → w.getD x [] = if x < j then blkRow s b x else accB s b (x : Int) N) (fun x => x = some (blkT s b, ())) (fun n w hW => ?_) (fun n j w hj hW ih => ?_) (by omega) ⟨hul, fun x hx => by rw [if_neg (by omega)]; exact hu x hx⟩
    · simp only [impl_blockSteps.s12]
      rw [if_neg (by simp [hul])]
      have : w = blkT s b := list_ext_getD (d := []) hW.1 (by rw [blkT_length, hN]) fun x hx => by rw [hW.2 x hx, if_pos hx, blkT_getD (by omega)]
      rw [this]
    · obtain ⟨hwl, hw⟩ := hW
      have hwj := hw j hj
      rw [if_neg (by omega)] at hwj
      have hal := accB_len hS b (j : Int) N
      have hcl := blkRow_len hS b j
      simp (disch := omega) only [impl_blockSteps.s12, gd_t, toNat_nat, w64_id, List.length_set, hwj, slices_Sort_int_int.s, slices_Compact_int_int.s, Option.bind_some]
      rw [if_pos (by rw [hul]; simpa using hj), gd_t (by unfold LIM; omega)]
      simp (disch := omega) only [Option.bind_some, gd_t, List.length_set, getD_set', if_true]
      rw [gd_t (by rw [List.length_mergeSort]; unfold LIM; omega)]
      simp only [Option.bind_some]
      have e : Lib.compact ((accB s b (j : Int) N).mergeSort fun x y => decide (x ≤ y)) = blkRow s b j := by unfold blkRow; rw [hN]
      rw [e, clone_int_eq (k := k) (p := blkRow s b j) (by omega)]
      simp only [Option.bind_some, List.set_set, gd_true]
      refine ih _ (And.intro ?_ ?_)
      · rw [List.length_set]; exact hwl
      intro x hx
      rw [getD_set' w j x _ [] (by omega)]
      by_cases hxj : x = j
      · rw [if_pos hxj, if_pos (by omega), hxj]
      · rw [if_neg hxj, hw x hx]
        by_cases h : x < j
        · rw [if_pos h, if_pos (by omega)]
        · rw [if_neg h, if_neg (by omega)]
  · obtain ⟨hul, hu⟩ := hI
    have hjb : j < b.length := by omega
    have hbj := hb.low j hjb
    have hrj := steps_getD (s := s) (j := j) (by omega)
    have hrl := rowT_len s j
    simp (disch := omega) only [impl_blockSteps.s3, gd_t, stepsT_length]
    rw [if_pos (by simpa using hj)]
    refine for_post (m := (rowT s j).length) (l := fun q w i => impl_blockSteps.l6 k n b (stepsT s) (N : Int) (j : Int) q w i) (fun i w => w.length = N ∧ ∀ x, x < N → w.getD x [] = accB s b (x : Int) j ++ (if b.getD j 0 = (x : Int) then ((rowT s j).take i).map (fun y => b.getD y.toNat 0) else [])) (fun x => x = some (blkT s b, ())) (fun q w hW => ?_) (fun q i w hi hW ih2 => ?_) (by omega) ⟨hul, fun x hx => by rw [hu x hx]; simp⟩
    · simp (disch := omega) only [impl_blockSteps.s6, toNat_nat, hrj, w64_id]
      rw [if_neg (by simp)]
      refine ih _ ⟨hW.1, fun x hx => ?_⟩
      rw [hW.2 x hx, accB_succ, List.take_length]
    · obtain ⟨hwl, hw⟩ := hW
      have hri := rowT_get hS hi
      have hbr : (rowT s j)[i].toNat < b.length := by omega
      have hwb := hw b[j].toNat (by omega)
      have hal := accB_len hS b (b[j] : Int) j
      have hzb : ((b[j].toNat : Nat) : Int) = b[j] := by omega
      simp (disch := omega) only [impl_blockSteps.s6, gd_t, toNat_nat, hrj, getD_get hi, getD_get hjb, w64_id]
      rw [if_pos (by simpa using hi), hwb, hzb, getD_get hjb, if_pos rfl, gd_t (by simp; omega)]
      simp only [gd_true]
      refine ih2 _ (And.intro ?_ ?_)
      · rw [List.length_set]; exact hwl
      intro x hx
      rw [getD_set' w b[j].toNat x _ [] (by omega)]
      by_cases hxb : x = b[j].toNat
      · rw [if_pos hxb, hxb, hzb, getD_get hjb, if_pos rfl, List.take_succ_eq_append_getElem hi, List.map_append, List.append_assoc]
        rfl
      · rw [if_neg hxb, hw x hx, getD_get hjb, if_neg (by omega), if_neg (by omega)]
theorem l28Steps_eq {k : Nat} {s : SY} {b : List Int} (E : Env k s) (hb : BlkP (prodW s.1) b) (hk : 1048577 < k) : spec_l28Steps.f k s b = some (blkT s b, ()) := by
  have hS := E.S
  have hsz := hS.sz
  have h8 := hS.r8
  have hbl := hb.len
  rw [spec_l28Steps.s, l4Steps_eq hS E.hv E.hz hk]
  simp only [Option.bind_some]
  refine push_loop (l := fun n u j => spec_l28Steps.l4 k b n (stepsT s) u j) (ys := blkT s b) (m := prodW s.1) (blkT_length s b) (fun n j u hj hu => ?_) (fun n => ?_) (by omega)
  · simp only [spec_l28Steps.s4]
    rw [if_pos (by rw [stepsT_length]; simpa using hj)]
    refine for_from (a := j) (m := prodW s.1) (by omega) (l := fun q w i => spec_l28Steps.l8 k n b (stepsT s) u (j : Int) q w i) (fun i w => w = accB s b (j : Int) i) (fun x => x = spec_l28Steps.l4 k b n (stepsT s) (u ++ [(blkT s b)[j]'(by rw [blkT_length]; exact hj)]) ((j : Int) + 1)) (fun q w hW => ?_) (fun q i w hji hi hW ih => ?_) (by omega) ?_
    · subst hW
      simp (disch := omega) only [spec_l28Steps.s8, w64_id]
      rw [if_neg (by rw [stepsT_length]; simp)]
      have hal := accB_len hS b (j : Int) (prodW s.1)
      obtain ⟨q', h1, h2, h3⟩ := l17Ordered_eq (k := k) (accB s b (j : Int) (prodW s.1)) (fun x hx => by have := accB_mem hS hb rfl hx; omega) (by omega) (by omega)
      rw [h1]
      simp only [Option.bind_some]
      rw [gd_t (by simp; omega)]
      have : q' = blkRow s b j := asc_ext h2 (blkRow_asc s b j) fun x => by rw [h3, mem_blkRow]
      rw [this]
      simp [blkT]
    · have hri := steps_getD (s := s) (j := i) hi
      have hib : i < b.length := by omega
      have hrl := rowT_len s i
      have hal := accB_len hS b (j : Int) i
      have hsl := stepsT_length s
      simp only [spec_l28Steps.s8]
      rw [if_pos (by rw [stepsT_length]; simpa using hi)]
      by_cases hbj : b[i] = (j : Int)
      · refine for_post (m := (rowT s i).length) (l := fun q' w' e => spec_l28Steps.l11 k n q b (stepsT s) u (j : Int) (i : Int) q' w' e) (fun e w' => w' = w ++ ((rowT s i).take e).map fun y => b.getD y.toNat 0) (fun x => x = spec_l28Steps.l4 k b n (stepsT s) (u ++ [(blkT s b)[j]'(by rw [blkT_length]; exact hj)]) ((j : Int) + 1)) (fun q' w' hw' => ?_) (fun q' e w' he hw' ih2 => ?_) (by omega) (by simp)
        · simp (disch := omega) only [spec_l28Steps.s11, gd_t, toNat_nat, hri, w64_id]
          rw [if_neg (by simp)]
          refine ih _ ?_
          rw [hw', hW, accB_succ, getD_get hib, if_pos hbj, List.take_length]
        · have hre := rowT_get hS he
          have hwl : w'.length ≤ i * 8 + e := by rw [hw', hW]; simp; omega
          simp (disch := omega) only [spec_l28Steps.s11, gd_t, toNat_nat, hri, getD_get he, getD_get hib, w64_id]
          rw [if_pos (by simpa using he), if_pos (by simpa using hbj), gd_t (by simp; omega)]
          refine ih2 _ ?_
          rw [hw', List.take_succ_eq_append_getElem he, List.map_append, List.append_assoc]
          rfl
      · obtain ⟨k', rfl⟩ : ∃ q, k = q + 1 := ⟨k - 1, by omega⟩
        have hnext : w = accB s b (j : Int) (i + 1) := by rw [hW, accB_succ, getD_get hib, if_neg hbj, List.append_nil]
        simp (disch := omega) only [spec_l28Steps.s11, gd_t, toNat_nat, hri, getD_get hib, w64_id]
        by_cases hz : (rowT s i).length = 0
        · rw [if_neg (by simp [hz])]; exact ih _ hnext
        · rw [if_pos (by simp; omega), if_neg (by simpa using hbj)]; exact ih _ hnext
    · -- none below j is of block j
      have : ∀ i, i ≤ j → accB s b (j : Int) i = [] := by
        intro i
        induction i with
        | zero => intro _; simp [accB]
        | succ i ih =>
          intro hi
          have hib : i < b.length := by omega
          have := hb.low i hib
          rw [accB_succ, ih (by omega), getD_get hib, if_neg (by omega)]; rfl
      exact (this j (Nat.le_refl _)).symm
  · simp only [spec_l28Steps.s4]
    rw [if_neg (by rw [stepsT_length]; simp)]
end Go.Ev

set_option linter.unusedVariables false
set_option linter.unusedSimpArgs false
namespace Go.Ev

/-! ### one level of the search -/
structure Up (N : Nat) (old : List Int) (d : Nat) (R : Nat → Prop) (u : List Int) (sm : Bool) : Prop where
  len : u.length = N
  keep : ∀ x, x < N → 0 ≤ old.getD x 0 → u.getD x 0 = old.getD x 0
  new : ∀ x, x < N → ¬ 0 ≤ old.getD x 0 → R x → u.getD x 0 = ((d + 1 : Nat) : Int)
  non : ∀ x, x < N → ¬ 0 ≤ old.getD x 0 → ¬ R x → u.getD x 0 = -1
  some : sm = true ↔ ∃ x, x < N ∧ ¬ 0 ≤ old.getD x 0 ∧ R x
theorem Up.imp {N : Nat} {old u : List Int} {d : Nat} {R R' : Nat → Prop} {sm : Bool} (U : Up N old d R u sm) (h : ∀ x, x < N → (R x ↔ R' x)) : Up N old d R' u sm :=
  ⟨U.len, U.keep, fun x hx h0 hr => U.new x hx h0 ((h x hx).2 hr), fun x hx h0 hr => U.non x hx h0 fun hr' => hr ((h x hx).1 hr'),
    U.some.trans ⟨fun ⟨x, hx, h0, hr⟩ => ⟨x, hx, h0, (h x hx).1 hr⟩, fun ⟨x, hx, h0, hr⟩ => ⟨x, hx, h0, (h x hx).2 hr⟩⟩⟩
theorem getD_set {α : Type} (v : List α) (y x : Nat) (a e : α) : (v.set y a).getD x e = if x = y ∧ y < v.length then a else v.getD x e := by
  rw [List.getD_eq_getElem?_getD, List.getD_eq_getElem?_getD, List.getElem?_set]
  by_cases h : y = x
  · subst h
    by_cases h2 : y < v.length
    · simp [h2]
    · simp [h2]
  · rw [if_neg h, if_neg (fun h' => h h'.1.symm)]
theorem Up.set {N : Nat} {old u : List Int} {d : Nat} {R : Nat → Prop} {sm : Bool} (U : Up N old d R u sm) {y : Nat} (hy : y < N) (h0 : u.getD y 0 < 0) : Up N old d (fun x => R x ∨ x = y) (u.set y ((d + 1 : Nat) : Int)) true := by
  have ho : ¬ 0 ≤ old.getD y 0 := fun h => by rw [U.keep y hy h] at h0; omega
  refine ⟨by rw [List.length_set]; exact U.len, fun x hx h => ?_, fun x hx h hr => ?_, fun x hx h hr => ?_, ⟨fun _ => ⟨y, hy, ho, .inr rfl⟩, fun _ => rfl⟩⟩
  · rw [getD_set, if_neg (fun e => ho (by rw [← e.1]; exact h))]; exact U.keep x hx h
  · rw [getD_set]
    by_cases e : x = y
    · rw [if_pos ⟨e, by rw [U.len]; exact hy⟩]
    · rw [if_neg (fun h' => e h'.1)]
      exact U.new x hx h (hr.resolve_right e)
  · rw [getD_set, if_neg (fun h' => hr (.inr h'.1))]
    exact U.non x hx h fun h' => hr (.inl h')
theorem Up.skip {N : Nat} {old u : List Int} {d : Nat} {R : Nat → Prop} {sm : Bool} (U : Up N old d R u sm) {y : Nat} (hy : y < N) (h0 : ¬ u.getD y 0 < 0) : Up N old d (fun x => R x ∨ x = y) u sm := by
  by_cases ho : 0 ≤ old.getD y 0
  · refine ⟨U.len, U.keep, fun x hx h hr => U.new x hx h (hr.resolve_right fun e => h (by rw [e]; exact ho)), fun x hx h hr => U.non x hx h fun h' => hr (.inl h'), U.some.trans ⟨fun ⟨x, hx, h, hr⟩ => ⟨x, hx, h, .inl hr⟩, fun ⟨x, hx, h, hr⟩ => ⟨x, hx, h, hr.resolve_right fun e => h (by rw [e]; exact ho)⟩⟩⟩
  · have hR : R y := Classical.byContradiction fun h => by rw [U.non y hy ho h] at h0; omega
    exact U.imp fun x hx => ⟨.inl, fun h => by rcases h with h | h; exact h; rw [h]; exact hR⟩

variable {T : List (List Int)} {v : List Bool}
theorem TabP.row (hT : TabP T) {j : Nat} (hj : j < T.length) {i : Nat} (hi : i < T[j].length) : 0 ≤ T[j][i] ∧ T[j][i] < (T.length : Int) := hT _ (List.getElem_mem hj) _ (List.getElem_mem hi)
/-- Who is put at level d by the numbers below j. -/
def Put (T : List (List Int)) (v : List Bool) (d j : Nat) (x : Nat) : Prop := ∃ m, m < j ∧ (lv T v d).getD m 0 = (d : Int) ∧ (x : Int) ∈ T.getD m []
theorem level {k : Nat} (n d : Nat) (hT : TabP T) (hN : T.length ≤ 1048576) (hr : ∀ r ∈ T, r.length ≤ 1048576) (hd : d ≤ 1048577) (hk : 1048577 < k) : ∃ sm : Bool, (sm = true ↔ lv T v (d + 1) ≠ lv T v d) ∧
    spec_l5Steps.l14 k n T (d : Int) k (lv T v d) false 0 = spec_l5Steps.l10 k T n (lv T v (d + 1)) sm ((d + 1 : Nat) : Int) := by
  refine for_post (m := T.length) (l := fun q (u : List Int × Bool) j => spec_l5Steps.l14 k n T (d : Int) q u.1 u.2 j) (fun j u => Up T.length (lv T v d) d (Put T v d j) u.1 u.2) (fun x => ∃ sm : Bool, (sm = true ↔ lv T v (d + 1) ≠ lv T v d) ∧ x = spec_l5Steps.l10 k T n (lv T v (d + 1)) sm ((d + 1 : Nat) : Int))
    (fun q u hI => ?_) (fun q j u hj hI ih => ?_) (s := (lv T v d, false)) (by omega) ?_
  · have e : u.1 = lv T v (d + 1) := by
      refine lv_ext (T := T) hI.len (lv_length _) fun x hx => ?_
      obtain ⟨h1, h2, h3⟩ := lv_succ (v := v) (d := d) hx
      by_cases h0 : 0 ≤ (lv T v d).getD x 0
      · rw [h1 h0]; exact hI.keep x hx h0
      · by_cases hR : Put T v d T.length x
        · rw [h2 h0 hR]; exact hI.new x hx h0 hR
        · rw [h3 h0 hR]; exact hI.non x hx h0 hR
    refine ⟨u.2, ⟨fun hs he => ?_, fun hne => ?_⟩, ?_⟩
    · obtain ⟨x, hx, h0, hR⟩ := hI.some.1 hs
      have := hI.new x hx h0 hR
      rw [e, he] at this
      omega
    · refine hI.some.2 (Classical.byContradiction fun hn => hne (lv_ext (T := T) (lv_length _) (lv_length _) fun x hx => ?_))
      obtain ⟨h1, h2, h3⟩ := lv_succ (v := v) (d := d) hx
      by_cases h0 : 0 ≤ (lv T v d).getD x 0
      · exact h1 h0
      · rw [h3 h0 fun hR => hn ⟨x, hx, h0, hR⟩]
        rcases lv_range (v := v) hx d with q | q
        · exact q.symm
        · omega
    · simp (disch := omega) only [spec_l5Steps.s14, w64_id]
      rw [if_neg (by simp), e]; rfl
  · have hrow : T.getD j [] = T[j] := getD_get hj
    have hrl := hr _ (List.getElem_mem hj)
    simp only [spec_l5Steps.s14]
    rw [if_pos (by simpa using hj)]
    -- the level of j is as it was
    have hsame : ∀ {R : Nat → Prop} {u : List Int} {sm : Bool}, Up T.length (lv T v d) d R u sm → (u.getD j 0 = (d : Int) ↔ (lv T v d).getD j 0 = (d : Int)) := by
      intro R u sm U
      by_cases h0 : 0 ≤ (lv T v d).getD j 0
      · rw [U.keep j hj h0]
      · by_cases hR : R j
        · rw [U.new j hj h0 hR]; omega
        · rw [U.non j hj h0 hR]; omega
    by_cases hjd : (lv T v d).getD j 0 = (d : Int)
    · refine for_post (m := T[j].length) (l := fun q' (u : List Int × Bool) i => spec_l5Steps.l17 k n q T (d : Int) (j : Int) q' u.1 u.2 i) (fun i u => Up T.length (lv T v d) d (fun x => Put T v d j x ∨ (x : Int) ∈ T[j].take i) u.1 u.2) (fun x => ∃ sm : Bool, (sm = true ↔ lv T v (d + 1) ≠ lv T v d) ∧ x = spec_l5Steps.l10 k T n (lv T v (d + 1)) sm ((d + 1 : Nat) : Int))
        (fun q' u hu => ?_) (fun q' i u hi hu ih2 => ?_) (s := u) (by omega) (hI.imp fun x _ => by simp)
      · simp (disch := omega) only [spec_l5Steps.s17, gd_t, toNat_nat, hrow, w64_id]
        rw [if_neg (by simp)]
        refine ih u (hu.imp fun x hx => ?_)
        rw [List.take_length]
        constructor
        · rintro (⟨m, hm, h1, h2⟩ | h)
          · exact ⟨m, by omega, h1, h2⟩
          · exact ⟨j, by omega, hjd, by rw [hrow]; exact h⟩
        · rintro ⟨m, hm, h1, h2⟩
          rcases Nat.lt_or_ge m j with h | h
          · exact .inl ⟨m, h, h1, h2⟩
          · have : m = j := by omega
            subst this
            exact .inr (by rw [← hrow]; exact h2)
      · have hx := hT.row hj hi
        have hul := hu.len
        simp (disch := omega) only [spec_l5Steps.s17, gd_t, toNat_nat, hrow, getD_get hi, w64_id]
        rw [if_pos (by simpa using hi), if_pos (by simpa [-List.getD_eq_getElem?_getD] using (hsame hu).2 hjd)]
        have hin : ∀ x : Nat, x < T.length → (((Put T v d j x ∨ (x : Int) ∈ T[j].take i) ∨ x = T[j][i].toNat) ↔ (Put T v d j x ∨ (x : Int) ∈ T[j].take (i + 1))) := by
          intro x hx'
          rw [mem_take1 hi, or_assoc]
          have : x = T[j][i].toNat ↔ (x : Int) = T[j][i] := by omega
          rw [this]
        have hy : T[j][i].toNat < T.length := by omega
        by_cases h0 : u.1.getD T[j][i].toNat 0 < 0
        · rw [if_pos (by simpa [-List.getD_eq_getElem?_getD] using h0)]
          exact ih2 (u.1.set T[j][i].toNat ((d : Int) + 1), true) ((hu.set hy h0).imp hin)
        · rw [if_neg (by simpa [-List.getD_eq_getElem?_getD] using h0)]
          exact ih2 u ((hu.skip hy h0).imp hin)
    · obtain ⟨k', rfl⟩ : ∃ q, k = q + 1 := ⟨k - 1, by omega⟩
      have hul := hI.len
      have next : Up T.length (lv T v d) d (Put T v d (j + 1)) u.1 u.2 := by
        refine hI.imp fun x hx => Iff.intro (fun ⟨m, hm, h1, h2⟩ => ⟨m, by omega, h1, h2⟩) (fun ⟨m, hm, h1, h2⟩ => ?_)
        rcases Nat.lt_or_ge m j with h | h
        · exact ⟨m, h, h1, h2⟩
        · have : m = j := by omega
          subst this
          exact absurd h1 hjd
      simp (disch := omega) only [spec_l5Steps.s17, gd_t, toNat_nat, hrow, w64_id]
      by_cases hz : T[j].length = 0
      · rw [if_neg (by simp [hz])]
        exact ih u next
      · rw [if_pos (by simp; omega), if_neg (by simpa [-List.getD_eq_getElem?_getD] using fun h => hjd ((hsame hI).1 h))]
        exact ih u next
  · refine ⟨lv_length _, fun _ _ _ => rfl, fun x hx h0 ⟨m, hm, _⟩ => by omega, fun x hx h0 _ => ?_, ⟨fun h => (by cases h), fun ⟨x, hx, h0, m, hm, _⟩ => by omega⟩⟩
    rcases lv_range (v := v) hx d with q | q
    · exact q
    · omega
theorem l5Steps_eq {k : Nat} (hT : TabP T) (hl : v.length = T.length) (hN : T.length ≤ 1048576) (hr : ∀ r ∈ T, r.length ≤ 1048576) (hk : 1048577 < k) : spec_l5Steps.f k T v = some (farT T v, ()) := by
  rw [spec_l5Steps.s]
  have main : spec_l5Steps.l10 k T k (lv T v 0) true 0 = some (farT T v, ()) := by
    refine while_post (l := fun n (q : Nat × Bool) => spec_l5Steps.l10 k T n (lv T v q.1) q.2 (q.1 : Int)) (fun q => (if q.2 = true then 1 else 0) + (T.length - cnt (lv T v q.1) T.length))
      (fun q => (q.2 = true → q.1 ≤ cnt (lv T v q.1) T.length) ∧ (q.2 = false → ∃ e, q.1 = e + 1 ∧ lv T v (e + 1) = lv T v e ∧ e ≤ T.length)) (fun x => x = some (farT T v, ())) (fun n q hI ih => ?_) (k := k) (s := (0, true)) (by simp; omega) ⟨fun _ => Nat.zero_le _, fun h => by cases h⟩
    obtain ⟨d, sm⟩ := q
    cases sm with
    | false =>
      obtain ⟨e, h1, h2, h3⟩ := hI.2 rfl
      have h1 : d = e + 1 := h1
      subst h1
      simp only [spec_l5Steps.s10]
      rw [if_neg (by simp), h2, lv_far h2 h3]
    | true =>
      have hc : d ≤ cnt (lv T v d) T.length := hI.1 rfl
      have hcl := cnt_le (lv T v d) T.length
      simp only [spec_l5Steps.s10, if_true]
      obtain ⟨sm, h1, h2⟩ := level (v := v) n d hT hN hr (by omega) hk
      rw [h2]
      cases sm with
      | true =>
        have hlt := cnt_lt (h1.1 rfl)
        refine ih (d + 1, true) ⟨fun _ => by simp only; omega, fun h => by cases h⟩ ?_
        have := cnt_le (lv T v (d + 1)) T.length
        simp only [if_true]; omega
      | false =>
        have he : lv T v (d + 1) = lv T v d := Classical.byContradiction fun h => by have := h1.2 h; cases this
        refine ih (d + 1, false) ⟨fun h => (by cases h), fun _ => ⟨d, rfl, he, by omega⟩⟩ ?_
        simp only [he]
        simp
  refine push_loop (l := fun n u j => spec_l5Steps.l3 k T v n u j) (ys := lv T v 0) (m := T.length) (lv_length 0) (fun n j u hj hu => ?_) (fun n => ?_) (by omega)
  · have hz := lv_zero (v := v) hj
    rw [getD_get (by rw [lv_length]; exact hj)] at hz
    simp (disch := omega) only [spec_l5Steps.s3, gd_t, toNat_nat, w64_id]
    rw [if_pos (by simpa using hj), hz]
    by_cases hv : v.getD j false = true
    · rw [if_pos hv, if_pos hv, gd_t (by simp; omega)]
    · rw [if_neg hv, if_neg hv, gd_t (by simp; omega)]
  · simp only [spec_l5Steps.s3]
    rw [if_neg (by simp)]
    exact main
end Go.Ev

set_option linter.unusedVariables false
set_option linter.unusedSimpArgs false
namespace Go.Ev

/-! ### where one comes, with a row of those still to be looked at -/
noncomputable def rchT (T : List (List Int)) (v : List Bool) : List Bool := (farT T v).map fun x => decide (0 ≤ x)
theorem rchT_length (T : List (List Int)) (v : List Bool) : (rchT T v).length = T.length := by simp [rchT, farT_length]
theorem rchT_get {T : List (List Int)} {v : List Bool} {x : Nat} (h : x < T.length) : ((rchT T v).getD x false = true ↔ RchT T v x) := by
  rw [getD_get (by rw [rchT_length]; exact h)]
  simp only [rchT, List.getElem_map, decide_eq_true_eq]
  unfold RchT
  rw [getD_get (by rw [farT_length]; exact h)]
structure BfsI (T : List (List Int)) (v : List Bool) (is : List Bool) (row : List Int) (D : Nat → Nat → Prop) : Prop where
  len : is.length = T.length
  rows : ∀ y ∈ row, 0 ≤ y ∧ y < (T.length : Int) ∧ is.getD y.toNat false = true
  snd : ∀ x, x < T.length → is.getD x false = true → RchT T v x
  start : ∀ x, x < T.length → v.getD x false = true → is.getD x false = true
  cls : ∀ m x, m < T.length → x < T.length → is.getD m false = true → (x : Int) ∈ T.getD m [] → D m x → is.getD x false = true ∨ (m : Int) ∈ row
variable {T : List (List Int)} {v : List Bool}
theorem BfsI.done {is : List Bool} (I : BfsI T v is [] fun _ _ => True) : is = rchT T v := by
  refine list_ext_getD (d := false) I.len (rchT_length T v) fun x hx => ?_
  rw [Bool.eq_iff_iff, rchT_get hx]
  refine ⟨I.snd x hx, RchT.least (C := fun x => is.getD x false = true) I.start (fun m x hm hx h1 h2 => ?_) x hx⟩
  rcases I.cls m x hm hx h1 h2 trivial with h | h
  · exact h
  · simp at h
/-- Which numbers are in a list. -/
theorem marks_set (p : List Int) (n : Nat) {j : Nat} (hj : j < p.length) (h0 : 0 ≤ p[j]) (h1 : p[j] < (n : Int)) : (marksOf (p.take j) n).set p[j].toNat true = marksOf (p.take (j + 1)) n := by
  refine list_ext_getD (d := false) (n := n) (by simp [marksOf]) (by simp [marksOf]) fun x hx => ?_
  rw [getD_set' _ _ x _ _ (by simp [marksOf]; omega), getD_get (by simpa [marksOf] using hx), getD_get (by simpa [marksOf] using hx), marksOf_get _ _ hx, marksOf_get _ _ hx]
  by_cases e : x = p[j].toNat
  · rw [if_pos e]
    have : (x : Int) ∈ p.take (j + 1) := by rw [mem_take1 hj]; right; omega
    rw [decide_eq_true this]
  · rw [if_neg e]
    have : (x : Int) ≠ p[j] := by omega
    congr 1
    rw [mem_take1 hj]
    simp [this]
theorem marksOf_nil (n : Nat) : marksOf [] n = List.replicate n false := by
  apply List.ext_getElem
  · simp [marksOf]
  · intro i h1 h2; simp [marksOf]
theorem marksOf_getD {p : List Int} {n x : Nat} (h : x < n) : ((marksOf p n).getD x false = true ↔ (x : Int) ∈ p) := by
  rw [getD_get (by rw [marksOf_length]; exact h), marksOf_get _ _ h, decide_eq_true_iff]
theorem l4Marks_eq {k : Nat} {p : List Int} {n : Nat} (h : ∀ x ∈ p, 0 ≤ x ∧ x < (n : Int)) (hn : n ≤ 1048576) (hp : p.length ≤ 1048576) (hk : 1048577 < k) : spec_l4Marks.f k p (n : Int) = some (marksOf p n, ()) := by
  rw [spec_l4Marks.s, gd_t (by omega), gd_t (by omega)]
  refine for_post (m := p.length) (l := fun q u j => spec_l4Marks.l3 k p q u j) (fun j u => u = marksOf (p.take j) n) (fun x => x = some (marksOf p n, ())) (fun q u hI => ?_) (fun q j u hj hI ih => ?_) (by omega) (by simp [marksOf_nil])
  · rw [spec_l4Marks.s3, if_neg (by simp), hI, List.take_length]
  · obtain ⟨h0, h1⟩ := h _ (List.getElem_mem hj)
    have hul : u.length = n := by rw [hI, marksOf_length]
    simp (disch := omega) only [spec_l4Marks.s3, gd_t, toNat_nat, getD_get hj, w64_id]
    rw [if_pos (by simpa using hj)]
    exact ih _ (by rw [hI, marks_set p n hj h0 h1])
end Go.Ev

set_option linter.unusedVariables false
set_option linter.unusedSimpArgs false
namespace Go.Ev

/-! ### BlockReach -/
theorem firstT_StP {s : SY} (hS : SysP s) : StP s.1 (firstT s) := by
  rw [StP_iff]
  refine ⟨firstT_length s, fun i h h' => ?_⟩
  have := hS.vp _ (List.getElem_mem h)
  simp only [firstT, List.getElem_map]
  exact ⟨this.2.2.2.2.1, this.2.2.2.2.2⟩
noncomputable def n0 (s : SY) : Nat := noOf s.1 (firstT s)
theorem n0_lt {s : SY} (hS : SysP s) : n0 s < prodW s.1 := noOf_lt (firstT_StP hS) hS.vp
theorem first_eq {k : Nat} {s : SY} (hS : SysP s) (hk : 1000 < k) : impl_first.f k s = some (firstT s, ()) := by
  have h5 := hS.v5
  rw [impl_first.s]
  refine push_loop (l := fun n v j => impl_first.l3 k s n v j) (ys := firstT s) (m := s.1.length) (firstT_length s) (fun n j v hj hv' => ?_) (fun n => ?_) (by omega)
  · simp (disch := omega) only [impl_first.s3, getD_get, w64_id, toNat_nat, gd_t]
    rw [if_pos (by simpa using hj), gd_t (by simp; omega)]
    simp [firstT]
  · rw [impl_first.s3, if_neg (by simp), clone_int_eq (k := k) (p := firstT s) (by rw [firstT_length]; omega)]
    rfl
theorem mem_one {x y : Int} : x ∈ [y] ↔ x = y := by simp
theorem l28First_eq {k : Nat} {s : SY} {b : List Int} (E : Env k s) (hb : BlkP (prodW s.1) b) (hk : 1048577 < k) : spec_l28First.f k s b = some (marksOf [b.getD (n0 s) 0] (prodW s.1), ()) := by
  have hS := E.S
  have hsz := hS.sz
  have hn := n0_lt hS
  have hbl := hb.len
  have hnb : n0 s < b.length := by omega
  have hlow := hb.low _ hnb
  rw [spec_l28First.s, FirstState_eq hS E.hv (by omega)]
  simp only [Option.bind_some]
  rw [l4Number_eq hS (firstT_StP hS) (by omega)]
  simp only [Option.bind_some, toNat_nat]
  rw [show noOf s.1 (firstT s) = n0 s from rfl, gd_t (by omega), gd_t (by omega), hbl, getD_get hnb, l4Marks_eq (fun x hx => by rw [mem_one] at hx; omega) (by omega) (by simp) hk]
  rfl
theorem listT_length (v : List Bool) : (listT v).length ≤ v.length := by
  have := List.length_filter_le (fun i => v.getD i false) (List.range v.length)
  simpa [listT] using this
end Go.Ev

set_option linter.unusedVariables false
set_option linter.unusedSimpArgs false
namespace Go.Ev

/-! ### where an expression is true -/
noncomputable def whereT (s : SY) (p : List TM) : List Bool := (List.range (prodW s.1)).map fun n => evalT p (stOf s.1 n) == 1
theorem whereT_length (s : SY) (p : List TM) : (whereT s p).length = prodW s.1 := by simp [whereT]
theorem whereT_getD {s : SY} {p : List TM} {n : Nat} (h : n < prodW s.1) : (whereT s p).getD n false = (evalT p (stOf s.1 n) == 1) := by
  rw [getD_get (by rw [whereT_length]; exact h)]; simp [whereT]
theorem where_eq {k : Nat} {s : SY} {p : List TM} (E : Env k s) (hp : KindIs p s.1.length 2) (hk : 1048577 < k) : impl_where.f k s p = some (whereT s p, ()) := by
  have hS := E.S
  have hsz := hS.sz
  rw [impl_where.s, E.iz]
  simp only [Option.bind_some]
  rw [gd_t (by omega), gd_t (by omega)]
  simp only [toNat_nat, List.length_replicate]
  refine for_post (m := prodW s.1) (l := fun n u j => impl_where.l3 k s p n u ((prodW s.1 : Nat) : Int) j) (fun j u => u.length = prodW s.1 ∧ ∀ x, x < j → u.getD x false = (whereT s p).getD x false) (fun x => x = some (whereT s p, ())) (fun n u hI => ?_) (fun n j u hj hI ih => ?_) (by omega) ⟨by simp, fun x hx => by omega⟩
  · rw [impl_where.s3, if_neg (by simp), list_ext_getD (d := false) hI.1 (whereT_length s p) hI.2]
  · have hul := hI.1
    have hst := (stOf_StP j hS.vp).range hS.vp
    simp only [impl_where.s3]
    rw [if_pos (by simpa using hj), stateAt_eq hS j (by omega) (by omega)]
    simp only [Option.bind_some]
    rw [eval_eq hp hst (by omega)]
    simp (disch := omega) only [Option.bind_some, gd_t, toNat_nat, w64_id]
    refine ih _ ⟨by rw [List.length_set]; exact hul, fun x hx => ?_⟩
    rw [getD_set' u j x _ false (by omega)]
    by_cases e : x = j
    · rw [if_pos e, e, whereT_getD hj]
    · rw [if_neg e]; exact hI.2 x (by omega)
theorem StatesWhere_eq {k : Nat} {s : SY} {p : List TM} (E : Env k s) (hp : KindIs p s.1.length 2) (hi : spec_l2Is.f k p (s.1.length : Int) 2 = some (true, ())) (hk : 1048577 < k) : spec_StatesWhere.f k s p = some (listT (whereT s p), ()) := by
  have hS := E.S
  have hsz := hS.sz
  rw [spec_StatesWhere.s, E.hv]
  simp only [Option.bind_some]
  rw [if_neg (by simp), hi]
  simp only [Option.bind_some]
  rw [if_neg (by simp)]
  refine for_post (m := prodW s.1) (l := fun n l j => spec_StatesWhere.l5 k s p n l j) (fun j l => l = ((List.range j).filter fun i => (whereT s p).getD i false).map (fun (i : Nat) => (i : Int)) ∧ l.length ≤ j) (fun x => x = some (listT (whereT s p), ())) (fun n l hI => ?_) (fun n j l hj hI ih => ?_) (by omega) (by simp)
  · rw [spec_StatesWhere.s5, E.hz]
    simp only [Option.bind_some]
    rw [if_neg (by simp), hI.1]
    simp [listT, whereT_length]
  · have hst := (stOf_StP j hS.vp).range hS.vp
    rw [spec_StatesWhere.s5, E.hz]
    simp only [Option.bind_some]
    rw [if_pos (by simpa using hj), l4State_eq hS E.hv j (by omega) (by omega)]
    simp only [Option.bind_some]
    rw [l2Last_eq hp hst (by omega)]
    simp (disch := omega) only [Option.bind_some, w64_id]
    rw [← whereT_getD hj]
    by_cases hb : (whereT s p).getD j false = true
    · rw [if_pos hb, gd_t (by have := hI.2; simp; omega)]
      exact ih _ ⟨by rw [hI.1, List.range_succ, List.filter_append]; simp [hb, -List.getD_eq_getElem?_getD], by have := hI.2; simp; omega⟩
    · rw [if_neg hb]
      exact ih _ ⟨by rw [hI.1, List.range_succ, List.filter_append]; simp [hb, -List.getD_eq_getElem?_getD], by omega⟩
/-! ### sets without others -/
theorem listT_bd {v : List Bool} {n : Nat} (h : v.length ≤ n) : ∀ x ∈ listT v, 0 ≤ x ∧ x < (n : Int) := by
  intro x hx
  obtain ⟨i, hi, _, rfl⟩ := mem_listT.1 hx
  omega
theorem mem_listT' {v : List Bool} {n : Nat} (hn : n < v.length) : ((n : Int) ∈ listT v ↔ v.getD n false = true) := by
  rw [mem_listT]
  constructor
  · rintro ⟨i, _, h, e⟩
    have : i = n := by omega
    subst this; exact h
  · exact fun h => ⟨n, hn, h, rfl⟩

/-! ### AlwaysByBlocks -/
end Go.Ev

set_option linter.unusedVariables false
set_option linter.unusedSimpArgs false
namespace Go.Ev

/-! ### functions of the library that take a test -/
theorem IndexFunc_eq4 {k : Nat} {p : List Int} {f : Int → Option Bool} {b : Int → Bool} (hf : ∀ x ∈ p, f x = some (b x)) (hp : p.length < 4611686018427387904) (hk : p.length < k) :
    slices_IndexFunc_int_int.f k p f = some (if p.findIdx b < p.length then ((p.findIdx b : Nat) : Int) else -1, ()) := by
  rw [slices_IndexFunc_int_int.s]
  refine for_post (m := p.length) (l := fun n (_ : Unit) j => slices_IndexFunc_int_int.l2 k p f n j) (fun j _ => ∀ i (h : i < p.length), i < j → b p[i] = false) (fun x => x = _) (fun n _ hI => ?_) (fun n j _ hj hI ih => ?_) (s := ()) (by omega) (fun i h hi => by omega)
  · have : ¬ p.findIdx b < p.length := fun h => by
      have h1 := hI _ h h
      have h2 := List.findIdx_getElem (p := b) (xs := p) (w := h)
      rw [h1] at h2; cases h2
    rw [slices_IndexFunc_int_int.s2, if_neg (by simp), if_neg this]
  · simp (disch := omega) only [slices_IndexFunc_int_int.s2, gd_t, toNat_nat, getD_get hj, hf _ (List.getElem_mem hj), Option.bind_some, w64_id]
    rw [if_pos (by simpa using hj)]
    cases hb : b p[j] with
    | true =>
      have hidx : p.findIdx b = j := (List.findIdx_eq hj).2 ⟨hb, fun i hi => hI i (by omega) hi⟩
      rw [if_pos rfl, hidx, if_pos hj]
    | false =>
      rw [if_neg (by simp)]
      exact ih () fun i h hi => by
        by_cases e : i = j
        · subst e; exact hb
        · exact hI i h (by omega)
/-! ### what is behind a set -/
/-- A row of marks, by what is marked. -/
structure MarkI (N : Nat) (R : Nat → Prop) (u : List Bool) : Prop where
  len : u.length = N
  iff : ∀ x, x < N → (u.getD x false = true ↔ R x)
theorem MarkI.imp {N : Nat} {R R' : Nat → Prop} {u : List Bool} (M : MarkI N R u) (h : ∀ x, x < N → (R x ↔ R' x)) : MarkI N R' u := ⟨M.len, fun x hx => (M.iff x hx).trans (h x hx)⟩
theorem MarkI.set {N : Nat} {R : Nat → Prop} {u : List Bool} (M : MarkI N R u) {y : Nat} (hy : y < N) : MarkI N (fun x => R x ∨ x = y) (u.set y true) := by
  refine ⟨by rw [List.length_set]; exact M.len, fun x hx => ?_⟩
  rw [getD_set' u y x _ _ (by rw [M.len]; exact hy)]
  by_cases e : x = y
  · simp [e]
  · simp [e, M.iff x hx, -List.getD_eq_getElem?_getD]
theorem MarkI.nil (N : Nat) {R : Nat → Prop} (h : ∀ x, x < N → ¬ R x) : MarkI N R (List.replicate N false) := ⟨by simp, fun x hx => by
  rw [getD_get (by simpa using hx)]; simp [h x hx]⟩
theorem MarkI.uniq {N : Nat} {R : Nat → Prop} {u v : List Bool} (M : MarkI N R u) (M' : MarkI N R v) : u = v := list_ext_getD (d := false) M.len M'.len fun x hx => by
  rw [Bool.eq_iff_iff, M.iff x hx, M'.iff x hx]
end Go.Ev

set_option linter.unusedVariables false
set_option linter.unusedSimpArgs false
namespace Go.Ev

/-! ### both sets -/
/-! ### states of a block -/
/-- The states of a set that are of a block. -/
def inB (b : List Int) (w : Int) (now : List Int) : List Int := now.filter fun n => b.getD n.toNat 0 == w
/-- A set of numbers below n. -/
structure SetN (n : Nat) (p : List Int) : Prop where
  asc : Asc p
  bd : ∀ x ∈ p, 0 ≤ x ∧ x < (n : Int)
theorem asc_len : ∀ {p : List Int} {a n : Nat}, Asc p → (∀ x ∈ p, (a : Int) ≤ x ∧ x < (n : Int)) → p.length ≤ n - a
  | [], a, n, _, _ => by simp
  | x :: l, a, n, h, hb => by
    obtain ⟨h1, h2⟩ := List.pairwise_cons.1 h
    have hx := hb x (by simp)
    have := asc_len (p := l) (a := x.toNat + 1) (n := n) h2 fun y hy => by
      have := h1 y hy
      have := hb y (by simp [hy])
      omega
    simp only [List.length_cons]; omega
theorem SetN.len {n : Nat} {p : List Int} (h : SetN n p) : p.length ≤ n := by
  have := asc_len (a := 0) (n := n) h.asc fun x hx => by have := h.bd x hx; omega
  omega
end Go.Ev

set_option linter.unusedVariables false
set_option linter.unusedSimpArgs false
namespace Go.Ev
variable {T : List (List Int)} {v : List Bool}

/-! ### how far it is: what holds of it -/
theorem far_range {x : Nat} (h : x < T.length) : (farT T v).getD x 0 = -1 ∨ 0 ≤ (farT T v).getD x 0 ∧ (farT T v).getD x 0 ≤ (T.length : Int) := lv_range h T.length
theorem far_of {x d : Nat} (hx : x < T.length) (h : 0 ≤ (lv T v d).getD x 0) : (farT T v).getD x 0 = (lv T v d).getD x 0 := by
  have := lv_mono hx h T.length
  rw [← this, ← lv_end (T := T) (v := v) d, Nat.add_comm]
theorem far_first {x e : Nat} (hx : x < T.length) (h : (farT T v).getD x 0 = (e : Int)) : (lv T v e).getD x 0 = (e : Int) := lv_first hx T.length e h
theorem far_zero {x : Nat} (hx : x < T.length) : (farT T v).getD x 0 = 0 ↔ v.getD x false = true := by
  constructor
  · intro h
    have := far_first (e := 0) hx (by simpa using h)
    rw [lv_zero hx] at this
    by_cases hv : v.getD x false = true
    · exact hv
    · rw [if_neg hv] at this; omega
  · intro h
    have h0 : (lv T v 0).getD x 0 = 0 := by rw [lv_zero hx, if_pos h]
    rw [far_of hx (d := 0) (by omega), h0]
theorem far_step {m x : Nat} (hm : m < T.length) (hx : x < T.length) (h : 0 ≤ (farT T v).getD m 0) (hmem : (x : Int) ∈ T.getD m []) : 0 ≤ (farT T v).getD x 0 ∧ (farT T v).getD x 0 ≤ (farT T v).getD m 0 + 1 := by
  obtain ⟨e, he⟩ : ∃ e : Nat, (farT T v).getD m 0 = (e : Int) := ⟨((farT T v).getD m 0).toNat, by omega⟩
  have h1 := far_first hm he
  have h2 : 0 ≤ (lv T v (e + 1)).getD x 0 := by
    obtain ⟨g1, g2, g3⟩ := lv_succ (v := v) (d := e) hx
    by_cases h0 : 0 ≤ (lv T v e).getD x 0
    · rw [g1 h0]; exact h0
    · rw [g2 h0 ⟨m, hm, h1, hmem⟩]; omega
  have h3 := far_of hx h2
  rcases lv_range (v := v) hx (e + 1) with q | q <;> omega
theorem far_pred {x e : Nat} (hx : x < T.length) (h : (farT T v).getD x 0 = ((e + 1 : Nat) : Int)) : ∃ m, m < T.length ∧ (farT T v).getD m 0 = (e : Int) ∧ (x : Int) ∈ T.getD m [] := by
  have h1 := far_first hx h
  obtain ⟨g1, g2, g3⟩ := lv_succ (v := v) (d := e) hx
  have h0 : ¬ 0 ≤ (lv T v e).getD x 0 := fun h0 => by
    have := far_of hx h0
    rcases lv_range (v := v) hx e with q | q <;> omega
  by_cases hm : ∃ m, m < T.length ∧ (lv T v e).getD m 0 = (e : Int) ∧ (x : Int) ∈ T.getD m []
  · obtain ⟨m, m1, m2, m3⟩ := hm
    exact ⟨m, m1, by rw [far_of m1 (d := e) (by omega), m2], m3⟩
  · have := g3 h0 hm; omega
/-- The search with a row, by what it has told so far. -/
structure FarI (T : List (List Int)) (v : List Bool) (out : List Int) (A B : List Int) (D : Nat) (y : Option (Nat × List Int)) : Prop where
  len : out.length = T.length
  val : ∀ x, x < T.length → out.getD x 0 = -1 ∨ (0 ≤ out.getD x 0 ∧ out.getD x 0 = (farT T v).getD x 0)
  low : ∀ x, x < T.length → 0 ≤ (farT T v).getD x 0 → (farT T v).getD x 0 ≤ (D : Int) → 0 ≤ out.getD x 0
  inA : ∀ z ∈ A, 0 ≤ z ∧ z < (T.length : Int) ∧ out.getD z.toNat 0 = (D : Int)
  inB : ∀ z ∈ B, 0 ≤ z ∧ z < (T.length : Int) ∧ out.getD z.toNat 0 = (D : Int) + 1
  top : ∀ x, x < T.length → out.getD x 0 ≤ (D : Int) + 1 ∧ (out.getD x 0 = (D : Int) + 1 → (x : Int) ∈ B)
  cls : ∀ m x, m < T.length → x < T.length → out.getD m 0 = (D : Int) → (x : Int) ∈ T.getD m [] → (m : Int) ∈ A ∨ 0 ≤ out.getD x 0 ∨ (∃ z l, y = some (z, l) ∧ m = z ∧ (x : Int) ∉ l)
theorem FarI.shift {out B : List Int} {D : Nat} (I : FarI T v out [] B D none) : FarI T v out B [] (D + 1) none := by
  refine ⟨I.len, I.val, fun x hx h0 h1 => ?_, fun z hz => ?_, fun z hz => by simp at hz, fun x hx => ?_, fun m x hm hx h1 h2 => ?_⟩
  · by_cases h2 : (farT T v).getD x 0 ≤ (D : Int)
    · exact I.low x hx h0 h2
    · obtain ⟨m, m1, m2, m3⟩ := far_pred (v := v) (e := D) hx (by omega)
      have hm0 := I.low m m1 (by omega) (by omega)
      have hmv : out.getD m 0 = (D : Int) := by rcases I.val m m1 with q | q <;> omega
      rcases I.cls m x m1 hx hmv m3 with h | h | ⟨z, l, h, _⟩
      · simp at h
      · exact h
      · cases h
  · have := I.inB z hz; omega
  · have := I.top x hx
    refine ⟨by omega, fun h => by omega⟩
  · left
    exact (I.top m hm).2 (by omega)
theorem FarI.done {out : List Int} {D : Nat} (I : FarI T v out [] [] D none) : out = farT T v := by
  refine lv_ext (T := T) I.len (farT_length) fun x hx => ?_
  rcases I.val x hx with h | h
  · rcases far_range (v := v) hx with q | q
    · omega
    · have hC := RchT.least (T := T) (v := v) (C := fun x => 0 ≤ out.getD x 0) (fun x hx hv => I.low x hx (by rw [(far_zero hx).2 hv]; omega) (by rw [(far_zero hx).2 hv]; omega)) (fun m x hm hx h1 h2 => ?_) x hx q.1
      · have hC : 0 ≤ out.getD x 0 := hC
        omega
      · have h1 : 0 ≤ out.getD m 0 := h1
        have ht := I.top m hm
        have hne : out.getD m 0 ≠ (D : Int) + 1 := fun e => by have := ht.2 e; simp at this
        have hf : out.getD m 0 = (farT T v).getD m 0 := by rcases I.val m hm with q | q <;> omega
        by_cases hD : out.getD m 0 = (D : Int)
        · rcases I.cls m x hm hx hD h2 with h | h | ⟨z, l, h, _⟩
          · simp at h
          · exact h
          · cases h
        · have := far_step (v := v) hm hx (by omega) h2
          exact I.low x hx this.1 (by omega)
  · exact h.2
/-- How many are not told yet. -/
def neg (l : List Int) (n : Nat) : Nat := ((List.range n).filter fun x => decide (l.getD x 0 < 0)).length
theorem neg_le (l : List Int) (n : Nat) : neg l n ≤ n := by
  have := List.length_filter_le (fun x => decide (l.getD x 0 < 0)) (List.range n)
  simpa [neg] using this
end Go.Ev

set_option linter.unusedVariables false
set_option linter.unusedSimpArgs false
namespace Go.Ev

/-! ### how far it is, with a row of those still to be looked at -/
variable {T : List (List Int)} {v : List Bool}
theorem neg_set {l : List Int} {n y : Nat} {a : Int} (hl : l.length = n) (hy : y < n) (h : l.getD y 0 < 0) (ha : 0 ≤ a) : neg (l.set y a) n < neg l n := by
  refine (filter_lt (fun x hx => ?_)).2 ⟨y, List.mem_range.2 hy, by simpa [-List.getD_eq_getElem?_getD] using h, by rw [getD_set' l y y _ _ (by omega), if_pos rfl]; simp; omega⟩
  rw [getD_set' l y x _ _ (by omega)] at hx
  by_cases e : x = y
  · rw [if_pos e] at hx; simp at hx; omega
  · rw [if_neg e] at hx; exact hx
theorem FarI.begin {out A B : List Int} {D : Nat} {y : Int} (I : FarI T v out (y :: A) B D none) : FarI T v out A B D (some (y.toNat, [])) :=
  ⟨I.len, I.val, I.low, fun z hz => I.inA z (by simp [hz]), I.inB, I.top, fun m x hm hx h1 h2 => by
    rcases I.cls m x hm hx h1 h2 with h | h | ⟨_, _, h, _⟩
    · rcases List.mem_cons.1 h with h | h
      · exact .inr (.inr ⟨y.toNat, [], rfl, by omega, by simp⟩)
      · exact .inl h
    · exact .inr (.inl h)
    · cases h⟩
theorem FarI.finish {out A B : List Int} {D : Nat} {y : Nat} (I : FarI T v out A B D (some (y, T.getD y []))) : FarI T v out A B D none :=
  ⟨I.len, I.val, I.low, I.inA, I.inB, I.top, fun m x hm hx h1 h2 => by
    rcases I.cls m x hm hx h1 h2 with h | h | ⟨z, l, h, hz, hl⟩
    · exact .inl h
    · exact .inr (.inl h)
    · injection h with h
      injection h with h1 h2'
      subst h1; subst h2'; subst hz
      exact absurd h2 hl⟩
theorem steps_loop {k : Nat} (hT : TabP T) (hN : T.length ≤ 1048576) (hr : ∀ r ∈ T, r.length ≤ 1048576) (hk : 3000000 < k) {out row : List Int} (hrow : row.length ≤ 1048576) (I : ∃ A B D, row = A ++ B ∧ FarI T v out A B D none) : impl_steps.l4 k T k out row = some (farT T v, ()) := by
  refine while_post (l := fun n (q : List Int × List Int) => impl_steps.l4 k T n q.1 q.2) (fun q => neg q.1 T.length + q.2.length) (fun q => (∃ A B D, q.2 = A ++ B ∧ FarI T v q.1 A B D none) ∧ neg q.1 T.length + q.2.length ≤ 2097152) (fun x => x = some (farT T v, ())) (fun n q hI ih => ?_) (k := k) (s := (out, row))
    (by have := neg_le out T.length; simp only; omega) ⟨I, by have := neg_le out T.length; simp only; omega⟩
  obtain ⟨out, row⟩ := q
  obtain ⟨⟨A, B, D, hAB, I⟩, hμ⟩ := hI
  simp only at I hμ ih hAB ⊢
  cases row with
  | nil =>
    have hA : A = [] := (List.append_eq_nil_iff.1 hAB.symm).1
    have hB : B = [] := (List.append_eq_nil_iff.1 hAB.symm).2
    subst hA; subst hB
    rw [impl_steps.s4, if_neg (by simp), I.done]
  | cons y rest =>
    -- the first is of the nearest
    obtain ⟨A', B, D, hrest, I⟩ : ∃ A' B D, rest = A' ++ B ∧ FarI T v out (y :: A') B D none := by
      cases A with
      | nil =>
        have hB : B = y :: rest := by simpa using hAB.symm
        subst hB
        exact ⟨rest, [], D + 1, by simp, I.shift⟩
      | cons a A' =>
        simp only [List.cons_append, List.cons.injEq] at hAB
        obtain ⟨rfl, h⟩ := hAB
        exact ⟨A', B, D, h, I⟩
    obtain ⟨hy0, hy1, hy2⟩ := I.inA y (by simp)
    have hyT : y.toNat < T.length := by omega
    have hg : (y :: rest).getD (Int.toNat 0) 0 = y := rfl
    have hd : (((y :: rest).take ((((y :: rest).length : Nat) : Int).toNat)).drop (Int.toNat 1)) = rest := by
      rw [toNat_nat, List.take_length]; rfl
    have hTy : T.getD y.toNat [] = T[y.toNat] := getD_get hyT
    have hrl := hr _ (List.getElem_mem hyT)
    rw [impl_steps.s4, if_pos (by simp), gd_t (by omega), gd_t (by simp), gd_t (by omega), gd_t (by simp; omega), gd_t (by omega), hg, gd_t hy0, gd_t hy1, hd]
    simp only [List.length_cons] at hμ
    refine for_post (m := T[y.toNat].length) (l := fun q (u : List Int × List Int) i => impl_steps.l8 k n T (y :: rest) q u.1 u.2 i) (fun i u => (∃ B', u.2 = A' ++ B' ∧ FarI T v u.1 A' B' D (some (y.toNat, T[y.toNat].take i))) ∧ u.1.getD y.toNat 0 = (D : Int) ∧ neg u.1 T.length + u.2.length ≤ neg out T.length + rest.length) (fun x => x = some (farT T v, ()))
      (fun q u hU => ?_) (fun q i u hi hU ih2 => ?_) (s := (out, rest)) (by omega) ⟨⟨B, hrest, by simpa using I.begin⟩, hy2, by simp only; omega⟩
    · obtain ⟨⟨B', hB', U⟩, _, hu⟩ := hU
      rw [impl_steps.s8, hg, hTy, if_neg (by simp)]
      refine ih u ⟨⟨A', B', D, hB', ?_⟩, by omega⟩ (by simp only [List.length_cons]; omega)
      rw [List.take_length, ← hTy] at U
      exact U.finish
    · obtain ⟨⟨B', hB', U⟩, huy, hu⟩ := hU
      have hx := hT.row hyT hi
      have hul := U.len
      have hx' : T[y.toNat][i].toNat < T.length := by omega
      have hcast : ∀ x : Nat, (x : Int) = T[y.toNat][i] ↔ x = T[y.toNat][i].toNat := fun x => by omega
      have hDr := far_range (v := v) hyT
      have hfy : (farT T v).getD y.toNat 0 = (D : Int) := by rcases U.val _ hyT with q | q <;> omega
      have hmem : ((T[y.toNat][i].toNat : Nat) : Int) ∈ T.getD y.toNat [] := by
        rw [hTy, (hcast _).2 rfl]; exact List.getElem_mem hi
      have hfx := far_step (v := v) hyT hx' (by omega) hmem
      simp (disch := omega) only [impl_steps.s8, hg, hTy, gd_t, toNat_nat, getD_get hi, w64_id, huy]
      rw [if_pos (by simpa using hi)]
      by_cases h0 : u.1.getD T[y.toNat][i].toNat 0 < 0
      · have hull : u.2.length ≤ 2097152 := by omega
        have hfx' : (farT T v).getD T[y.toNat][i].toNat 0 = (D : Int) + 1 := by
          have : ¬ (farT T v).getD T[y.toNat][i].toNat 0 ≤ (D : Int) := fun h => by
            have := U.low _ hx' hfx.1 h; omega
          omega
        have hum := neg_set (a := (D : Int) + 1) hul hx' h0 (by omega)
        rw [if_pos (by simpa [-List.getD_eq_getElem?_getD] using h0), gd_t (by simp; omega)]
        have hset : ∀ x, (u.1.set T[y.toNat][i].toNat ((D : Int) + 1)).getD x 0 = if x = T[y.toNat][i].toNat then (D : Int) + 1 else u.1.getD x 0 := fun x => getD_set' u.1 _ x _ 0 (by omega)
        have hne : ∀ x, 0 ≤ u.1.getD x 0 → x ≠ T[y.toNat][i].toNat := fun x h e => by rw [e] at h; omega
        have hge : ∀ x, 0 ≤ u.1.getD x 0 → 0 ≤ (u.1.set T[y.toNat][i].toNat ((D : Int) + 1)).getD x 0 := fun x h => by
          rw [hset, if_neg (hne x h)]; exact h
        refine ih2 (u.1.set T[y.toNat][i].toNat ((D : Int) + 1), u.2 ++ [T[y.toNat][i]]) ⟨⟨B' ++ [T[y.toNat][i]], by rw [hB', List.append_assoc], ⟨by rw [List.length_set]; exact hul, fun x hx => ?_, fun x hx h1 h2 => hge x (U.low x hx h1 h2), fun z hz => ?_, fun z hz => ?_, fun x hx => ?_, fun m x hm hx h1 h2 => ?_⟩⟩, ?_, ?_⟩
        · rw [hset]
          by_cases e : x = T[y.toNat][i].toNat
          · rw [if_pos e, e, hfx']; right; omega
          · rw [if_neg e]; exact U.val x hx
        · obtain ⟨z1, z2, z3⟩ := U.inA z hz
          exact ⟨z1, z2, by rw [hset, if_neg (hne _ (by omega))]; exact z3⟩
        · rcases List.mem_append.1 hz with hz | hz
          · obtain ⟨z1, z2, z3⟩ := U.inB z hz
            exact ⟨z1, z2, by rw [hset, if_neg (hne _ (by omega))]; exact z3⟩
          · rw [List.mem_singleton.1 hz]
            exact ⟨hx.1, hx.2, by rw [hset, if_pos rfl]⟩
        · rw [hset]
          by_cases e : x = T[y.toNat][i].toNat
          · rw [if_pos e]
            exact ⟨by omega, fun _ => List.mem_append.2 (.inr (List.mem_singleton.2 ((hcast x).2 e)))⟩
          · rw [if_neg e]
            have := U.top x hx
            exact ⟨this.1, fun h => List.mem_append.2 (.inl (this.2 h))⟩
        · rw [hset] at h1
          by_cases e : m = T[y.toNat][i].toNat
          · rw [if_pos e] at h1; omega
          · rw [if_neg e] at h1
            rcases U.cls m x hm hx h1 h2 with h | h | ⟨z, l, h, hz, hl⟩
            · exact .inl h
            · exact .inr (.inl (hge x h))
            · by_cases ex : x = T[y.toNat][i].toNat
              · right; left; rw [hset, if_pos ex]; omega
              · injection h with h
                injection h with e1 e2
                refine .inr (.inr ⟨y.toNat, _, rfl, by rw [hz, e1], fun hh => ?_⟩)
                rcases (mem_take1 hi _).1 hh with hh | hh
                · rw [← e2] at hl; exact hl hh
                · exact ex ((hcast x).1 hh)
        · simp only
          rw [hset, if_neg (hne _ (by omega))]; exact huy
        · simp only [List.length_append, List.length_singleton]; omega
      · rw [if_neg (by simpa [-List.getD_eq_getElem?_getD] using h0)]
        refine ih2 u ⟨⟨B', hB', ⟨hul, U.val, U.low, U.inA, U.inB, U.top, fun m x hm hx h1 h2 => ?_⟩⟩, huy, hu⟩
        rcases U.cls m x hm hx h1 h2 with h | h | ⟨z, l, h, hz, hl⟩
        · exact .inl h
        · exact .inr (.inl h)
        · by_cases ex : x = T[y.toNat][i].toNat
          · right; left; rw [ex]; omega
          · injection h with h
            injection h with e1 e2
            refine .inr (.inr ⟨y.toNat, _, rfl, by rw [hz, e1], fun hh => ?_⟩)
            rcases (mem_take1 hi _).1 hh with hh | hh
            · rw [← e2] at hl; exact hl hh
            · exact ex ((hcast x).1 hh)
theorem steps_eq {k : Nat} {x0 : Int} (hT : TabP T) (hN : T.length ≤ 1048576) (hr : ∀ r ∈ T, r.length ≤ 1048576) (h0 : 0 ≤ x0) (h1 : x0 < (T.length : Int)) (hk : 3000000 < k) : impl_steps.f k T x0 = some (farT T (marksOf [x0] T.length), ()) := by
  rw [impl_steps.s, slices_Repeat_int_int.s, gd_t (by simp), gd_t (by omega), gd_t (by omega)]
  simp only [Option.bind_some, toNat_nat]
  have hx0 : x0.toNat < T.length := by omega
  rw [gd_t (by omega), gd_t (by simpa using h1)]
  have hset : ∀ x, ((List.replicate T.length ([(-1 : Int)].getD 0 0)).set x0.toNat 0).getD x 0 = if x = x0.toNat then 0 else (List.replicate T.length (-1 : Int)).getD x 0 := fun x => getD_set' _ _ x _ 0 (by simpa using hx0)
  have hrep : ∀ x, x < T.length → (List.replicate T.length (-1 : Int)).getD x 0 = -1 := fun x hx => by rw [getD_get (by simpa using hx)]; simp
  have hf0 : (farT T (marksOf [x0] T.length)).getD x0.toNat 0 = 0 := (far_zero hx0).2 ((marksOf_getD hx0).2 (by rw [mem_one]; omega))
  refine steps_loop hT hN hr hk (by simp) ⟨[x0], [], 0, by simp, ⟨by simp, fun x hx => ?_, fun x hx h2 h3 => ?_, fun z hz => ?_, fun z hz => by simp at hz, fun x hx => ?_, fun m x hm hx h2 h3 => ?_⟩⟩
  · rw [hset]
    by_cases e : x = x0.toNat
    · rw [if_pos e, e, hf0]; right; exact ⟨by omega, rfl⟩
    · rw [if_neg e, hrep x hx]; left; rfl
  · have := (marksOf_getD (p := [x0]) hx).1 ((far_zero (T := T) (v := marksOf [x0] T.length) hx).1 (by omega))
    rw [mem_one] at this
    rw [hset, if_pos (by omega)]; omega
  · rw [mem_one] at hz
    subst hz
    exact ⟨h0, h1, by rw [hset, if_pos rfl]; rfl⟩
  · rw [hset]
    by_cases e : x = x0.toNat
    · rw [if_pos e]; exact ⟨by omega, fun h => by omega⟩
    · rw [if_neg e, hrep x hx]; exact ⟨by omega, fun h => by omega⟩
  · rw [hset] at h2
    by_cases e : m = x0.toNat
    · left; rw [mem_one]; omega
    · rw [if_neg e, hrep m hm] at h2; omega
end Go.Ev

set_option linter.unusedVariables false
set_option linter.unusedSimpArgs false
namespace Go.Ev
variable {T : List (List Int)} {v : List Bool}

/-! ### those behind which a number comes -/
def accP (T : List (List Int)) (x : Int) (n : Nat) : List Int := (List.range n).flatMap fun m => ((T.getD m []).filter (· == x)).map fun _ => (m : Int)
theorem accP_succ (T : List (List Int)) (x : Int) (n : Nat) : accP T x (n + 1) = accP T x n ++ ((T.getD n []).filter (· == x)).map fun _ => (n : Int) := by
  simp [accP, List.range_succ, List.flatMap_append]
theorem accP_len {R : Nat} (hr : ∀ r ∈ T, r.length ≤ R) (x : Int) : ∀ n, n ≤ T.length → (accP T x n).length ≤ n * R
  | 0, _ => by simp [accP]
  | n + 1, h => by
    have ih := accP_len hr x n (by omega)
    have hn : n < T.length := by omega
    have h1 := List.length_filter_le (· == x) (T.getD n [])
    have h2 := hr _ (List.getElem_mem hn)
    rw [accP_succ, List.length_append, List.length_map, Nat.succ_mul]
    rw [getD_get hn] at *
    omega
theorem mem_accP {x y : Int} : ∀ {n : Nat}, y ∈ accP T x n ↔ ∃ m, m < n ∧ (m : Int) = y ∧ x ∈ T.getD m []
  | 0 => by simp [accP]
  | n + 1 => by
    rw [accP_succ, List.mem_append, mem_accP (n := n)]
    simp only [List.mem_map, List.mem_filter, beq_iff_eq]
    constructor
    · rintro (⟨m, h1, h2, h3⟩ | ⟨z, ⟨h1, h2⟩, h3⟩)
      · exact ⟨m, by omega, h2, h3⟩
      · exact ⟨n, by omega, h3, by rw [← h2]; exact h1⟩
    · rintro ⟨m, h1, h2, h3⟩
      by_cases e : m = n
      · subst e; exact .inr ⟨x, ⟨h3, rfl⟩, h2⟩
      · exact .inl ⟨m, by omega, h2, h3⟩
theorem accP_sorted {x : Int} : ∀ n, (accP T x n).Pairwise (· ≤ ·)
  | 0 => by simp [accP]
  | n + 1 => by
    rw [accP_succ, List.pairwise_append]
    refine ⟨accP_sorted n, ?_, fun a ha b hb => ?_⟩
    · rw [List.pairwise_map]; exact List.pairwise_of_forall fun _ _ => Int.le_refl _
    · obtain ⟨m, h1, h2, _⟩ := mem_accP.1 ha
      obtain ⟨_, _, rfl⟩ := List.mem_map.1 hb
      omega
def pastT (T : List (List Int)) : List (List Int) := (List.range T.length).map fun (x : Nat) => accP T (x : Int) T.length
theorem pastT_length : (pastT T).length = T.length := by simp [pastT]
theorem pastT_getD {x : Nat} (h : x < T.length) : (pastT T).getD x [] = accP T (x : Int) T.length := by rw [getD_get (by rw [pastT_length]; exact h)]; simp [pastT]
theorem pasts_eq {k : Nat} (hT : TabP T) (hN : T.length ≤ 1024) (hr : ∀ r ∈ T, r.length ≤ 4096) (hk : 1048577 < k) : impl_pasts.f k T = some (pastT T, ()) := by
  rw [impl_pasts.s, gd_t (by omega), gd_t (by omega)]
  simp only [toNat_nat]
  refine for_post (m := T.length) (l := fun n u j => impl_pasts.l3 k T n u j) (fun j u => u.length = T.length ∧ ∀ x, x < T.length → u.getD x [] = accP T (x : Int) j) (fun x => x = some (pastT T, ())) (fun n u hI => ?_) (fun n j u hj hI ih => ?_) (by omega) ⟨by simp, fun x hx => by simp [accP, List.getD_eq_getElem?_getD, List.getElem?_replicate, hx]⟩
  · rw [impl_pasts.s3, if_neg (by simp), list_ext_getD (d := []) hI.1 pastT_length fun x hx => by rw [hI.2 x hx, pastT_getD hx]]
  · obtain ⟨hul, hu⟩ := hI
    have hrow : T.getD j [] = T[j] := getD_get hj
    have hrl := hr _ (List.getElem_mem hj)
    simp (disch := omega) only [impl_pasts.s3, gd_t]
    rw [if_pos (by simpa using hj)]
    refine for_post (m := T[j].length) (l := fun q w i => impl_pasts.l6 k n T (j : Int) q w i) (fun i w => w.length = T.length ∧ ∀ x, x < T.length → w.getD x [] = accP T (x : Int) j ++ ((T[j].take i).filter (· == (x : Int))).map fun _ => (j : Int)) (fun x => x = some (pastT T, ())) (fun q w hW => ?_) (fun q i w hi hW ih2 => ?_) (by omega) ⟨hul, fun x hx => by rw [hu x hx]; simp⟩
    · simp (disch := omega) only [impl_pasts.s6, toNat_nat, hrow, w64_id]
      rw [if_neg (by simp)]
      refine ih _ ⟨hW.1, fun x hx => ?_⟩
      rw [hW.2 x hx, List.take_length, accP_succ, hrow]
    · obtain ⟨hwl, hw⟩ := hW
      have hx := hT.row hj hi
      have hx' : T[j][i].toNat < T.length := by omega
      have hwx := hw _ hx'
      have hal := accP_len hr ((T[j][i].toNat : Nat) : Int) j (by omega)
      have hfl := List.length_filter_le (· == ((T[j][i].toNat : Nat) : Int)) (T[j].take i)
      have htl : (T[j].take i).length ≤ 4096 := by rw [List.length_take]; omega
      have hjr : j * 4096 ≤ 1024 * 4096 := Nat.mul_le_mul_right _ (by omega)
      simp (disch := omega) only [impl_pasts.s6, gd_t, toNat_nat, hrow, getD_get hi, w64_id]
      rw [if_pos (by simpa using hi), hwx, gd_t (by simp only [List.length_append, List.length_map, List.length_singleton]; omega)]
      simp only [gd_true]
      refine ih2 _ (And.intro ?_ ?_)
      · rw [List.length_set]; exact hwl
      intro x hxT
      rw [getD_set' w T[j][i].toNat x _ [] (by omega), List.take_succ_eq_append_getElem hi, List.filter_append, List.map_append]
      by_cases e : x = T[j][i].toNat
      · rw [if_pos e, e]
        have : (T[j][i] == ((T[j][i].toNat : Nat) : Int)) = true := by rw [beq_iff_eq]; omega
        simp only [List.filter_cons, this, if_true, List.filter_nil, List.map_cons, List.map_nil, List.append_assoc]
      · rw [if_neg e, hw x hxT]
        have : (T[j][i] == ((x : Nat) : Int)) = false := by simp; omega
        simp [this]

/-! ### one step back -/
theorem exists_least {P : Nat → Prop} : ∀ n, P n → ∃ m, m ≤ n ∧ P m ∧ ∀ m', m' < m → ¬ P m' := by
  intro n
  induction n using Nat.strongRecOn with
  | _ n ih =>
    intro h
    by_cases hx : ∃ m, m < n ∧ P m
    · obtain ⟨m, h1, h2⟩ := hx
      obtain ⟨m', g1, g2, g3⟩ := ih m h1 h2
      exact ⟨m', by omega, g2, g3⟩
    · exact ⟨n, Nat.le_refl _, h, fun m' hm hp => hx ⟨m', hm, hp⟩⟩
/-- The first one from which one comes to n, and that is one step nearer. -/
structure BackP (T : List (List Int)) (v : List Bool) (n m : Nat) : Prop where
  lt : m < T.length
  far : (farT T v).getD m 0 = (farT T v).getD n 0 - 1
  mem : (n : Int) ∈ T.getD m []
  least : ∀ m', m' < m → ¬ ((farT T v).getD m' 0 = (farT T v).getD n 0 - 1 ∧ (n : Int) ∈ T.getD m' [])
theorem BackP.uniq {n m m' : Nat} (h : BackP T v n m) (h' : BackP T v n m') : m = m' := by
  rcases Nat.lt_trichotomy m m' with e | e | e
  · exact absurd ⟨h.far, h.mem⟩ (h'.least m e)
  · exact e
  · exact absurd ⟨h'.far, h'.mem⟩ (h.least m' e)
theorem back_ex {n : Nat} (hn : n < T.length) (h : 0 < (farT T v).getD n 0) : ∃ m, BackP T v n m := by
  obtain ⟨m, h1, h2, h3⟩ := far_pred (v := v) (e := ((farT T v).getD n 0).toNat - 1) hn (by omega)
  obtain ⟨m', g1, g2, g3⟩ := exists_least (P := fun m => (farT T v).getD m 0 = (farT T v).getD n 0 - 1 ∧ (n : Int) ∈ T.getD m []) m ⟨by omega, h3⟩
  exact ⟨m', by omega, g2.1, g2.2, g3⟩
noncomputable def backT (T : List (List Int)) (v : List Bool) (n : Nat) : Nat := by
  classical
  exact if h : ∃ m, BackP T v n m then h.choose else 0
theorem backT_spec {n : Nat} (hn : n < T.length) (h : 0 < (farT T v).getD n 0) : BackP T v n (backT T v n) := by
  unfold backT
  rw [dif_pos (back_ex hn h)]
  exact (back_ex hn h).choose_spec
/-- The way to a number. -/
noncomputable def pathT (T : List (List Int)) (v : List Bool) : Nat → Nat → List Int
  | 0, n => [(n : Int)]
  | d + 1, n => pathT T v d (backT T v n) ++ [(n : Int)]
theorem pathT_length : ∀ d n, (pathT T v d n).length = d + 1
  | 0, n => rfl
  | d + 1, n => by rw [pathT, List.length_append, pathT_length d]; rfl
theorem l5Back_eq {k : Nat} {n : Nat} (hN : T.length ≤ 1048576) (hr : ∀ r ∈ T, r.length ≤ 1048576) (hn : n < T.length) (h : 0 < (farT T v).getD n 0) (hk : 1048577 < k) : spec_l5Back.f k T (farT T v) (n : Int) = some (((backT T v n : Nat) : Int), ()) := by
  have hB := backT_spec hn h
  have hfl := farT_length (T := T) (v := v)
  have hfr := far_range (v := v) hn
  rw [spec_l5Back.s]
  refine for_post (m := T.length) (l := fun q (_ : Unit) j => spec_l5Back.l2 k T (farT T v) (n : Int) q j) (fun j _ => j ≤ backT T v n) (fun x => x = _) (fun q _ hI => ?_) (fun q j _ hj hI ih => ?_) (s := ()) (by omega) (Nat.zero_le _)
  · have := hB.lt; omega
  · have hrow : T.getD j [] = T[j] := getD_get hj
    have hrl := hr _ (List.getElem_mem hj)
    simp (disch := omega) only [spec_l5Back.s2, gd_t, toNat_nat, w64_id, hrow, l2Has_eq (p := T[j]) (show T[j].length < 4611686018427387904 by omega) (show T[j].length < k by omega), Option.bind_some]
    rw [if_pos (by simpa using hj)]
    by_cases e : (farT T v).getD j 0 = (farT T v).getD n 0 - 1
    · rw [if_pos (by simpa [-List.getD_eq_getElem?_getD] using e)]
      by_cases hm : (n : Int) ∈ T[j]
      · rw [if_pos (by simpa using hm)]
        have : j = backT T v n := by
          rcases Nat.lt_or_ge j (backT T v n) with h' | h'
          · exact absurd ⟨e, by rw [hrow]; exact hm⟩ (hB.least j h')
          · omega
        rw [this]
      · rw [if_neg (by simpa using hm)]
        refine ih () ?_
        rcases Nat.lt_or_ge j (backT T v n) with h' | h'
        · omega
        · have : j = backT T v n := by omega
          exact absurd (by rw [← hrow, this]; exact hB.mem) hm
    · rw [if_neg (by simpa [-List.getD_eq_getElem?_getD] using e)]
      refine ih () ?_
      rcases Nat.lt_or_ge j (backT T v n) with h' | h'
      · omega
      · have : j = backT T v n := by omega
        exact absurd (by rw [this]; exact hB.far) e
/-- Among those ahead of a number, in order, the first that is nearer. -/
theorem past_find {n : Nat} (hn : n < T.length) (h : 0 < (farT T v).getD n 0) :
    ∃ hi : (accP T (n : Int) T.length).findIdx (fun k => (farT T v).getD k.toNat 0 == (farT T v).getD n 0 - 1) < (accP T (n : Int) T.length).length,
      (accP T (n : Int) T.length)[(accP T (n : Int) T.length).findIdx (fun k => (farT T v).getD k.toNat 0 == (farT T v).getD n 0 - 1)] = ((backT T v n : Nat) : Int) := by
  have hB := backT_spec hn h
  generalize hp : (fun k : Int => (farT T v).getD k.toNat 0 == (farT T v).getD n 0 - 1) = p
  have hbm : ((backT T v n : Nat) : Int) ∈ accP T (n : Int) T.length := mem_accP.2 ⟨_, hB.lt, rfl, hB.mem⟩
  have hpb : p ((backT T v n : Nat) : Int) = true := by
    rw [← hp]; simp only [toNat_nat, beq_iff_eq]; exact hB.far
  have hi : (accP T (n : Int) T.length).findIdx p < (accP T (n : Int) T.length).length := List.findIdx_lt_length_of_exists ⟨_, hbm, hpb⟩
  refine ⟨hi, ?_⟩
  have hpe := List.findIdx_getElem (p := p) (xs := accP T (n : Int) T.length) (w := hi)
  obtain ⟨m, m1, m2, m3⟩ := mem_accP.1 (List.getElem_mem hi)
  rw [← m2] at hpe ⊢
  have hfm : (farT T v).getD m 0 = (farT T v).getD n 0 - 1 := by
    rw [← hp] at hpe
    simpa [-List.getD_eq_getElem?_getD] using hpe
  have hge : ¬ m < backT T v n := fun hlt => hB.least m hlt ⟨hfm, m3⟩
  obtain ⟨j, hj, hje⟩ := List.mem_iff_getElem.1 hbm
  rcases Nat.lt_or_ge j ((accP T (n : Int) T.length).findIdx p) with hlt | hle
  · have := List.not_of_lt_findIdx (p := p) (xs := accP T (n : Int) T.length) hlt
    rw [hje, hpb] at this
    simp at this
  · have := le_get (accP_sorted (T := T) (x := (n : Int)) T.length) hle hj
    rw [hje, ← m2] at this
    omega
end Go.Ev

set_option linter.unusedVariables false
set_option linter.unusedSimpArgs false
namespace Go.Ev
variable {T : List (List Int)} {v : List Bool}

/-! ### the nearest of some -/
def NearP (far : List Int) (S : Nat → Prop) (r : Int) : Prop :=
  (r = -1 ∧ ∀ x, S x → far.getD x 0 < 0) ∨ ∃ c : Nat, r = (c : Int) ∧ S c ∧ 0 ≤ far.getD c 0 ∧ ∀ x, S x → 0 ≤ far.getD x 0 → far.getD c 0 < far.getD x 0 ∨ (far.getD c 0 = far.getD x 0 ∧ c ≤ x)
theorem NearP.congr {far : List Int} {S S' : Nat → Prop} {r : Int} (h : NearP far S r) (e : ∀ x, S' x ↔ S x) : NearP far S' r := by
  rcases h with ⟨h1, h2⟩ | ⟨c, h1, h2, h3, h4⟩
  · exact .inl ⟨h1, fun x hx => h2 x ((e x).1 hx)⟩
  · exact .inr ⟨c, h1, (e c).2 h2, h3, fun x hx => h4 x ((e x).1 hx)⟩
theorem NearP.uniq {far : List Int} {S : Nat → Prop} {r r' : Int} (h : NearP far S r) (h' : NearP far S r') : r = r' := by
  rcases h with ⟨h1, h2⟩ | ⟨c, h1, h2, h3, h4⟩ <;> rcases h' with ⟨g1, g2⟩ | ⟨c', g1, g2, g3, g4⟩
  · omega
  · have := h2 _ g2; omega
  · have := g2 _ h2; omega
  · have := h4 _ g2 g3; have := g4 _ h2 h3; omega
theorem NearP.low {far : List Int} {S : Nat → Prop} {r : Int} (h : NearP far S r) {y : Nat} (hy : far.getD y 0 < 0) : NearP far (fun x => S x ∨ x = y) r := by
  rcases h with ⟨h1, h2⟩ | ⟨c, h1, h2, h3, h4⟩
  · exact .inl ⟨h1, fun x hx => hx.elim (h2 x) (fun e => by rw [e]; exact hy)⟩
  · exact .inr ⟨c, h1, .inl h2, h3, fun x hx h0 => hx.elim (fun h => h4 x h h0) (fun e => by subst e; omega)⟩
theorem NearP.new {far : List Int} {S : Nat → Prop} {r : Int} (h : NearP far S r) {y : Nat} (hy : 0 ≤ far.getD y 0) (hr : r < 0 ∨ far.getD y 0 < far.getD r.toNat 0 ∨ (far.getD y 0 = far.getD r.toNat 0 ∧ (y : Int) < r)) : NearP far (fun x => S x ∨ x = y) (y : Int) := by
  refine .inr ⟨y, rfl, .inr rfl, hy, fun x hx h0 => ?_⟩
  rcases hx with hx | rfl
  · rcases h with ⟨h1, h2⟩ | ⟨c, h1, h2, h3, h4⟩
    · have := h2 x hx; omega
    · subst h1
      rw [toNat_nat] at hr
      have := h4 x hx h0; omega
  · exact .inr ⟨rfl, Nat.le_refl _⟩
theorem NearP.old {far : List Int} {S : Nat → Prop} {r : Int} (h : NearP far S r) {y : Nat} (h0 : ¬ r < 0) (hr : far.getD r.toNat 0 < far.getD y 0 ∨ (far.getD r.toNat 0 = far.getD y 0 ∧ r ≤ (y : Int))) : NearP far (fun x => S x ∨ x = y) r := by
  rcases h with ⟨h1, h2⟩ | ⟨c, h1, h2, h3, h4⟩
  · omega
  · subst h1
    rw [toNat_nat] at hr
    refine .inr ⟨c, rfl, .inl h2, h3, fun x hx hx0 => ?_⟩
    rcases hx with hx | rfl
    · exact h4 x hx hx0
    · omega
theorem NearP.bd {far : List Int} {S : Nat → Prop} {r : Int} {n : Nat} (h : NearP far S r) (hS : ∀ x, S x → x < n) (h0 : ¬ r < 0) : r < (n : Int) := by
  rcases h with ⟨h1, h2⟩ | ⟨c, h1, h2, h3, h4⟩
  · omega
  · have := hS _ h2; omega
theorem l5Nearest_eq {k : Nat} {far : List Int} {is : List Bool} (hl : is.length = far.length) (hn : far.length ≤ 1048576) (hk : 1048577 < k) :
    ∃ r, spec_l5Nearest.f k far is = some (r, ()) ∧ NearP far (fun x => x < far.length ∧ is.getD x false = true) r := by
  rw [spec_l5Nearest.s]
  refine for_post (m := far.length) (l := fun n r j => spec_l5Nearest.l3 k far is n r j) (fun j r => NearP far (fun x => x < j ∧ is.getD x false = true) r) (fun x => ∃ r, x = some (r, ()) ∧ NearP far (fun x => x < far.length ∧ is.getD x false = true) r) (fun n r hI => ?_) (fun n j r hj hI ih => ?_) (by omega) (.inl ⟨rfl, fun x hx => by omega⟩)
  · rw [spec_l5Nearest.s3, if_neg (by simp)]
    exact ⟨r, rfl, hI⟩
  · have hS : ∀ x, (x < j ∧ is.getD x false = true) → x < j := fun x h => h.1
    have hb : ¬ r < 0 → r < (j : Int) := hI.bd hS
    simp (disch := omega) only [spec_l5Nearest.s3, gd_t, toNat_nat, w64_id]
    rw [if_pos (by simpa using hj)]
    by_cases hi : is.getD j false = true
    · have hc : ∀ x, (x < j + 1 ∧ is.getD x false = true) ↔ ((x < j ∧ is.getD x false = true) ∨ x = j) := fun x => by
        constructor
        · rintro ⟨h1, h2⟩
          by_cases e : x = j
          · exact .inr e
          · exact .inl ⟨by omega, h2⟩
        · rintro (⟨h1, h2⟩ | rfl)
          · exact ⟨by omega, h2⟩
          · exact ⟨by omega, hi⟩
      rw [if_pos hi]
      by_cases h0 : 0 ≤ far.getD j 0
      · rw [if_pos (by simpa [-List.getD_eq_getElem?_getD] using h0)]
        by_cases hr : r < 0
        · rw [if_pos (by simpa using hr)]
          exact ih _ ((hI.new h0 (.inl hr)).congr hc)
        · have := hb hr
          rw [if_neg (by simpa using hr), gd_t (by omega)]
          by_cases hd : far.getD j 0 < far.getD r.toNat 0
          · rw [if_pos (by simpa [-List.getD_eq_getElem?_getD] using hd)]
            exact ih _ ((hI.new h0 (.inr (.inl hd))).congr hc)
          · rw [if_neg (by simpa [-List.getD_eq_getElem?_getD] using hd)]
            exact ih _ ((hI.old hr (by omega)).congr hc)
      · rw [if_neg (by simpa [-List.getD_eq_getElem?_getD] using h0)]
        exact ih _ ((hI.low (by omega)).congr hc)
    · rw [if_neg hi]
      refine ih _ (hI.congr fun x => ?_)
      constructor
      · rintro ⟨h1, h2⟩
        exact ⟨(Nat.lt_or_ge x j).elim id fun h => absurd (by rw [show x = j by omega] at h2; exact h2) hi, h2⟩
      · rintro ⟨h1, h2⟩; exact ⟨by omega, h2⟩

/-! ### the way, from behind and from ahead -/
theorem turned_l {k : Nat} {p : List Int} (hp : p.length ≤ 1048576) : ∀ (j n : Nat) (out : List Int), j ≤ p.length → j < n → out.length + j ≤ 1048576 → spec_l22Turned.l3 k p n out ((j : Int) - 1) = some (out ++ (p.take j).reverse, ())
  | 0, n + 1, out, hj, hn, ho => by
    rw [spec_l22Turned.s3, if_neg (by simp)]; simp
  | j + 1, n + 1, out, hj, hn, ho => by
    have hw : w64 (((j + 1 : Nat) : Int) - 1 - 1) = (j : Int) - 1 := by rw [w64_id (by omega) (by omega)]; omega
    have ht : ((j + 1 : Nat) : Int) - 1 = (j : Int) := by omega
    rw [spec_l22Turned.s3, if_pos (by simp), hw, ht, toNat_nat, gd_t (by omega), gd_t (by omega), gd_t (by simp only [List.length_singleton]; omega), turned_l hp j n _ (by omega) (by omega) (by simp only [List.length_append, List.length_singleton]; omega), getD_get (show j < p.length by omega), List.take_succ_eq_append_getElem (show j < p.length by omega), List.reverse_append]
    simp
theorem Turned_eq {k : Nat} {p : List Int} (hp : p.length ≤ 1048576) (hk : 1048577 < k) : spec_l22Turned.f k p = some (p.reverse, ()) := by
  rw [spec_l22Turned.s, w64_id (by omega) (by omega), turned_l hp p.length k [] (by omega) (by omega) (by simpa using hp), List.take_length, List.nil_append]
theorem specWay {k : Nat} (hN : T.length ≤ 1024) (hr : ∀ r ∈ T, r.length ≤ 4096) (hk : 1048577 < k) : ∀ (d n f : Nat) (pre : List Int), n < T.length → (farT T v).getD n 0 = (d : Int) → d < f → pre.length + d ≤ 1048000 →
    spec_BlockWay.l16 k f T (farT T v) (pre ++ [(n : Int)]) = some ((pathT T v d n ++ pre.reverse, true), ())
  | d, n, f + 1, pre, hn, hd, hf, hp => by
    have hfl := farT_length (T := T) (v := v)
    have hll : ((pre ++ [(n : Int)]).length : Int) = pre.length + 1 := by simp
    have hlast : (pre ++ [(n : Int)]).getD (w64 (((pre ++ [(n : Int)]).length : Int) - 1)).toNat 0 = (n : Int) := by
      rw [hll, w64_id (by omega) (by omega), show ((pre.length : Int) + 1 - 1).toNat = pre.length by omega]
      simp [List.getD_eq_getElem?_getD]
    have hw : w64 (((pre ++ [(n : Int)]).length : Int) - 1) = (pre.length : Int) := by rw [hll, w64_id (by omega) (by omega)]; omega
    rw [spec_BlockWay.s16]
    simp only [hlast, toNat_nat]
    rw [gd_t (by rw [hw]; omega), gd_t (by rw [hw, hll]; omega), gd_t (by omega), gd_t (by omega), hd]
    cases d with
    | zero =>
      rw [if_neg (by simp), Turned_eq (by simp only [List.length_append, List.length_singleton]; omega) hk]
      simp [pathT]
    | succ d =>
      rw [if_pos (by simp), gd_t (by rw [hw]; omega), gd_t (by rw [hw, hll]; omega), l5Back_eq (by omega) (fun r h => by have := hr r h; omega) hn (by omega) hk]
      have hB := backT_spec (v := v) hn (by omega)
      have hbf := hB.far
      simp only [Option.bind_some]
      rw [gd_t (by rw [hll]; simp only [List.length_singleton]; omega), specWay hN hr hk d _ f _ hB.lt (by omega) (by omega) (by simp only [List.length_append, List.length_singleton]; omega)]
      simp [pathT]
theorem implWay {k : Nat} (hN : T.length ≤ 1024) (hr : ∀ r ∈ T, r.length ≤ 4096) (hk : 5000000 < k) : ∀ (d n f : Nat) (rest : List Int), n < T.length → (farT T v).getD n 0 = (d : Int) → d < f → rest.length + d ≤ 1048000 →
    impl_blockWay.l15 k (farT T v) f ((n : Int) :: rest) (pastT T) = some (pathT T v d n ++ rest, ())
  | d, n, f + 1, rest, hn, hd, hf, hp => by
    have hfl := farT_length (T := T) (v := v)
    have hpl := pastT_length (T := T)
    have hg : ((n : Int) :: rest).getD (Int.toNat 0) 0 = (n : Int) := rfl
    rw [impl_blockWay.s15]
    simp only [hg, toNat_nat, List.length_cons, hd]
    rw [gd_t (by omega), gd_t (by omega), gd_t (by omega), gd_t (by omega)]
    cases d with
    | zero =>
      rw [if_neg (by simp), gd_t (by simp)]
      simp [pathT]
    | succ d =>
      have hrow : (pastT T).getD n [] = accP T (n : Int) T.length := pastT_getD hn
      have hal := accP_len hr (n : Int) T.length (Nat.le_refl _)
      have hjr : T.length * 4096 ≤ 1024 * 4096 := Nat.mul_le_mul_right _ (by omega)
      obtain ⟨hi, hie⟩ := past_find (v := v) hn (by omega)
      have hB := backT_spec (v := v) hn (by omega)
      have hbf := hB.far
      rw [if_pos (by simp), gd_t (by omega), gd_t (by omega), gd_t (by omega), gd_t (by omega), hrow, IndexFunc_eq4 (b := fun k => (farT T v).getD k.toNat 0 == (farT T v).getD n 0 - 1) (fun x hx => by
        obtain ⟨m, m1, rfl, m3⟩ := mem_accP.1 hx
        have := far_range (v := v) hn
        rw [impl_blockWay_1.s, gd_t (by omega), gd_t (by omega), gd_t (by omega), gd_t (by omega), toNat_nat, toNat_nat, w64_id (by omega) (by omega)]
        rfl) (by omega) (by omega)]
      simp only [Option.bind_some]
      rw [gd_t (by omega), gd_t (by omega), if_pos hi, gd_t (by omega), gd_t (by omega), gd_t (by simp only [List.length_cons, List.length_nil]; omega), toNat_nat, getD_get hi, hie]
      have := implWay hN hr hk d (backT T v n) f ((n : Int) :: rest) hB.lt (by omega) (by omega) (by simp only [List.length_cons]; omega)
      simp only [List.singleton_append]
      rw [this]
      simp [pathT]
end Go.Ev

set_option linter.unusedVariables false
set_option linter.unusedSimpArgs false
namespace Go.Ev

/-! ### a way to what is not good -/
def evB (b : List Int) (w : List Bool) (n : Nat) (x : Nat) : Prop := ∃ m, m < n ∧ w.getD m false = false ∧ b.getD m 0 = (x : Int)
theorem evB_succ {b : List Int} {w : List Bool} {n y : Nat} (h : w.getD n false = false) (hy : b.getD n 0 = (y : Int)) (x : Nat) : evB b w (n + 1) x ↔ (evB b w n x ∨ x = y) := by
  constructor
  · rintro ⟨m, h1, h2, h3⟩
    by_cases e : m = n
    · subst e; right; omega
    · exact .inl ⟨m, by omega, h2, h3⟩
  · rintro (⟨m, h1, h2, h3⟩ | rfl)
    · exact ⟨m, by omega, h2, h3⟩
    · exact ⟨n, by omega, h, hy⟩
theorem evB_skip {b : List Int} {w : List Bool} {n : Nat} (h : w.getD n false = true) (x : Nat) : evB b w (n + 1) x ↔ evB b w n x := by
  constructor
  · rintro ⟨m, h1, h2, h3⟩
    by_cases e : m = n
    · subst e; rw [h] at h2; cases h2
    · exact ⟨m, by omega, h2, h3⟩
  · rintro ⟨m, h1, h2, h3⟩
    exact ⟨m, by omega, h2, h3⟩
noncomputable def wayT (s : SY) (b : List Int) (r : Int) : List Int := if r < 0 then [] else pathT (blkT s b) (marksOf [b.getD (n0 s) 0] (prodW s.1)) ((farT (blkT s b) (marksOf [b.getD (n0 s) 0] (prodW s.1))).getD r.toNat 0).toNat r.toNat
theorem blkB {n : Nat} {b : List Int} (hb : BlkP n b) {j : Nat} (hj : j < n) : 0 ≤ b.getD j 0 ∧ b.getD j 0 < (n : Int) := by
  have h1 := hb.len
  have := hb.low j (by omega)
  rw [getD_get (by omega)]; omega
theorem implBlockWay {k : Nat} {s : SY} {b : List Int} {w : List Bool} (E : Env k s) (hb : BlkP (prodW s.1) b) (hw : w.length = prodW s.1) (hk : 5000000 < k) :
    ∃ r, impl_blockWay.f k s b w = some (wayT s b r, ()) ∧ NearP (farT (blkT s b) (marksOf [b.getD (n0 s) 0] (prodW s.1))) (evB b w (prodW s.1)) r := by
  have hS := E.S
  have hsz := hS.sz
  have hT := blkT_tab hS hb
  have htl := blkT_length s b
  have hrl := blkT_rows hS (b := b)
  have hn0 := n0_lt hS
  have hbn := blkB hb hn0
  have hbl := hb.len
  have hfl := farT_length (T := blkT s b) (v := marksOf [b.getD (n0 s) 0] (prodW s.1))
  rw [impl_blockWay.s, blockSteps_eq E hb (by omega)]
  simp only [Option.bind_some]
  rw [first_eq hS (by omega)]
  simp only [Option.bind_some]
  rw [number_eq hS (firstT_StP hS) (by omega)]
  simp only [Option.bind_some, toNat_nat]
  rw [show noOf s.1 (firstT s) = n0 s from rfl, gd_t (by omega), gd_t (by omega), steps_eq hT (by omega) (fun r h => by have := hrl r h; omega) hbn.1 (by omega) (by omega), htl]
  simp only [Option.bind_some]
  refine for_post (m := prodW s.1) (l := fun n r j => impl_blockWay.l5 k b w n (blkT s b) (farT (blkT s b) (marksOf [b.getD (n0 s) 0] (prodW s.1))) r j) (fun j r => NearP (farT (blkT s b) (marksOf [b.getD (n0 s) 0] (prodW s.1))) (evB b w j) r) (fun x => ∃ r, x = some (wayT s b r, ()) ∧ NearP (farT (blkT s b) (marksOf [b.getD (n0 s) 0] (prodW s.1))) (evB b w (prodW s.1)) r) (fun n r hI => ?_) (fun n j r hj hI ih => ?_) (by omega) (.inl ⟨rfl, fun x hx => by obtain ⟨m, h, _⟩ := hx; omega⟩)
  · rw [impl_blockWay.s5, if_neg (by simp [hw])]
    refine ⟨r, ?_, hI⟩
    rcases hI with ⟨h1, h2⟩ | ⟨c, rfl, ⟨m, m1, m2, m3⟩, h3, h4⟩
    · rw [if_pos (by simp; omega)]
      unfold wayT
      rw [if_pos (by omega)]
    · have hc : c < prodW s.1 := by have := blkB hb m1; omega
      have hfr := far_range (T := blkT s b) (v := marksOf [b.getD (n0 s) 0] (prodW s.1)) (x := c) (by omega)
      rw [if_neg (by simp), pasts_eq hT (by omega) (fun r h => by have := hrl r h; omega) (by omega)]
      simp only [Option.bind_some]
      have := implWay (v := marksOf [b.getD (n0 s) 0] (prodW s.1)) (T := blkT s b) (k := k) (by omega) (fun r h => by have := hrl r h; omega) hk ((farT (blkT s b) (marksOf [b.getD (n0 s) 0] (prodW s.1))).getD c 0).toNat c k [] (by omega) (by omega) (by omega) (by simp only [List.length_nil]; omega)
      rw [this]
      unfold wayT
      rw [if_neg (by omega), toNat_nat, List.append_nil]
  · have hbj := blkB hb hj
    have hbound : ¬ r < 0 → r < (prodW s.1 : Int) := hI.bd fun x hx => by
      obtain ⟨m, m1, _, m3⟩ := hx
      have := blkB hb (show m < prodW s.1 by omega); omega
    obtain ⟨y, hy⟩ : ∃ y : Nat, b.getD j 0 = (y : Int) := ⟨(b.getD j 0).toNat, by omega⟩
    simp (disch := omega) only [impl_blockWay.s5, gd_t, toNat_nat, w64_id, hy, hw]
    rw [if_pos (by simpa using hj)]
    cases hi : w.getD j false with
    | false =>
      have hc := evB_succ hi hy
      rw [if_pos (by rfl)]
      by_cases h0 : 0 ≤ (farT (blkT s b) (marksOf [b.getD (n0 s) 0] (prodW s.1))).getD y 0
      · rw [if_pos (by simpa [-List.getD_eq_getElem?_getD] using h0)]
        by_cases hr : r < 0
        · rw [if_pos (by simpa using hr)]
          exact ih _ ((hI.new h0 (.inl hr)).congr hc)
        · have := hbound hr
          rw [if_neg (by simpa using hr)]
          simp (disch := omega) only [gd_t]
          by_cases hd : (farT (blkT s b) (marksOf [b.getD (n0 s) 0] (prodW s.1))).getD y 0 < (farT (blkT s b) (marksOf [b.getD (n0 s) 0] (prodW s.1))).getD r.toNat 0
          · rw [if_pos (by simpa [-List.getD_eq_getElem?_getD] using hd)]
            exact ih _ ((hI.new h0 (.inr (.inl hd))).congr hc)
          · rw [if_neg (by simpa [-List.getD_eq_getElem?_getD] using hd)]
            by_cases he : (farT (blkT s b) (marksOf [b.getD (n0 s) 0] (prodW s.1))).getD y 0 = (farT (blkT s b) (marksOf [b.getD (n0 s) 0] (prodW s.1))).getD r.toNat 0
            · rw [if_pos (by simpa [-List.getD_eq_getElem?_getD] using he)]
              by_cases hlt : (y : Int) < r
              · rw [if_pos (by simpa using hlt)]
                exact ih _ ((hI.new h0 (.inr (.inr ⟨he, hlt⟩))).congr hc)
              · rw [if_neg (by simpa using hlt)]
                exact ih _ ((hI.old hr (by omega)).congr hc)
            · rw [if_neg (by simpa [-List.getD_eq_getElem?_getD] using he)]
              exact ih _ ((hI.old hr (by omega)).congr hc)
      · rw [if_neg (by simpa [-List.getD_eq_getElem?_getD] using h0)]
        exact ih _ ((hI.low (by omega)).congr hc)
    | true =>
      rw [if_neg (by simp)]
      exact ih _ (hI.congr (evB_skip hi))
theorem marks_listT {w : List Bool} {n : Nat} (hw : w.length = n) : marksOf (listT w) n = w :=
  list_ext_getD (d := false) (by simp [marksOf]) hw fun x hx => by
    rw [Bool.eq_iff_iff, marksOf_getD hx, mem_listT' (by omega)]
theorem l15Good_eq {k : Nat} {s : SY} {p : List TM} (E : Env k s) (hp : KindIs p s.1.length 2) (hi : spec_l2Is.f k p (s.1.length : Int) 2 = some (true, ())) (hk : 1048577 < k) : spec_l15Good.f k s p = some (whereT s p, ()) := by
  have hsz := E.S.sz
  have hwl := whereT_length s p
  rw [spec_l15Good.s, StatesWhere_eq E hp hi hk]
  simp only [Option.bind_some]
  rw [E.hz]
  simp only [Option.bind_some]
  rw [l4Marks_eq (listT_bd (by omega)) (by omega) (by have := listT_length (whereT s p); omega) hk, marks_listT hwl]
  rfl
theorem specBlockWay {k : Nat} {s : SY} {b : List Int} {w : List Bool} (E : Env k s) (hb : BlkP (prodW s.1) b) (hw : w.length = prodW s.1) (hk : 5000000 < k) :
    ∃ r, spec_BlockWay.l6 k s b k w (List.replicate (prodW s.1) false) 0 = some ((wayT s b r, !decide ((wayT s b r).length = 0)), ()) ∧ NearP (farT (blkT s b) (marksOf [b.getD (n0 s) 0] (prodW s.1))) (evB b w (prodW s.1)) r ∧ (wayT s b r).length ≤ 1048576 := by
  have hS := E.S
  have hsz := hS.sz
  have hT := blkT_tab hS hb
  have htl := blkT_length s b
  have hrl := blkT_rows hS (b := b)
  have hbl := hb.len
  have hfl := farT_length (T := blkT s b) (v := marksOf [b.getD (n0 s) 0] (prodW s.1))
  refine for_post (m := prodW s.1) (l := fun n is j => spec_BlockWay.l6 k s b n w is j) (fun j is => is.length = prodW s.1 ∧ ∀ x, x < prodW s.1 → (is.getD x false = true ↔ evB b w j x)) (fun x => ∃ r, x = some ((wayT s b r, !decide ((wayT s b r).length = 0)), ()) ∧ NearP (farT (blkT s b) (marksOf [b.getD (n0 s) 0] (prodW s.1))) (evB b w (prodW s.1)) r ∧ (wayT s b r).length ≤ 1048576) (fun n is hI => ?_) (fun n j is hj hI ih => ?_) (by omega) ⟨by simp, fun x hx => by simp [List.getD_eq_getElem?_getD, List.getElem?_replicate, hx, evB]⟩
  · obtain ⟨hl, hI⟩ := hI
    rw [spec_BlockWay.s6, if_neg (by simp [hbl]), l28Steps_eq E hb (by omega)]
    simp only [Option.bind_some]
    rw [l28First_eq E hb (by omega)]
    simp only [Option.bind_some]
    rw [l5Steps_eq hT (by rw [marksOf_length, htl]) (by omega) (fun r h => by have := hrl r h; omega) (by omega)]
    simp only [Option.bind_some]
    obtain ⟨r, e, hr⟩ := l5Nearest_eq (k := k) (far := farT (blkT s b) (marksOf [b.getD (n0 s) 0] (prodW s.1))) (is := is) (by omega) (by omega) (by omega)
    have hN : NearP (farT (blkT s b) (marksOf [b.getD (n0 s) 0] (prodW s.1))) (evB b w (prodW s.1)) r := hr.congr fun x => by
      constructor
      · intro hx
        have : x < prodW s.1 := by
          obtain ⟨m, m1, _, m3⟩ := hx
          have := blkB hb m1; omega
        exact ⟨by omega, (hI x this).2 hx⟩
      · rintro ⟨h1, h2⟩
        exact (hI x (by omega)).1 h2
    rw [e]
    simp only [Option.bind_some]
    refine ⟨r, ?_, hN, ?_⟩
    · rcases hN with ⟨h1, h2⟩ | ⟨c, rfl, ⟨m, m1, m2, m3⟩, h3, h4⟩
      · rw [if_pos (by simp; omega)]
        unfold wayT
        rw [if_pos (by omega)]
        rfl
      · have hc : c < prodW s.1 := by have := blkB hb m1; omega
        have hfr := far_range (T := blkT s b) (v := marksOf [b.getD (n0 s) 0] (prodW s.1)) (x := c) (by omega)
        rw [if_neg (by simp)]
        have := specWay (v := marksOf [b.getD (n0 s) 0] (prodW s.1)) (T := blkT s b) (k := k) (by omega) (fun r h => by have := hrl r h; omega) (by omega) ((farT (blkT s b) (marksOf [b.getD (n0 s) 0] (prodW s.1))).getD c 0).toNat c k [] (by omega) (by omega) (by omega) (by simp only [List.length_nil]; omega)
        rw [List.nil_append] at this
        rw [this]
        unfold wayT
        rw [if_neg (by omega), toNat_nat, List.reverse_nil, List.append_nil, pathT_length]
        simp
    · unfold wayT
      split
      · simp
      · have hc : r.toNat < prodW s.1 := by
          rcases hN with ⟨h1, h2⟩ | ⟨c, rfl, ⟨m, m1, m2, m3⟩, h3, h4⟩
          · omega
          · have := blkB hb m1; omega
        have hfr := far_range (T := blkT s b) (v := marksOf [b.getD (n0 s) 0] (prodW s.1)) (x := r.toNat) (by omega)
        rw [pathT_length]; omega
  · obtain ⟨hl, hI⟩ := hI
    have hbj := blkB hb hj
    obtain ⟨y, hy⟩ : ∃ y : Nat, b.getD j 0 = (y : Int) := ⟨(b.getD j 0).toNat, by omega⟩
    simp (disch := omega) only [spec_BlockWay.s6, gd_t, toNat_nat, w64_id, hy, hw]
    rw [if_pos (by simpa [hbl] using hj)]
    cases hi : w.getD j false with
    | false =>
      rw [if_pos (by rfl)]
      refine ih _ ⟨by rw [List.length_set]; exact hl, fun x hx => ?_⟩
      rw [getD_set' is y x _ _ (by omega), evB_succ hi hy, ← hI x hx]
      by_cases e : x = y
      · simp [e]
      · simp [e]
    | true =>
      rw [if_neg (by simp)]
      refine ih _ ⟨hl, fun x hx => ?_⟩
      rw [evB_skip hi]; exact hI x hx
theorem BlockWay_eq {k : Nat} (hk : 5000000 < k) (s : SY) (b : List Int) (p : List TM) (hb : BigS s) (hs : SmS s) (hbl : b.length ≤ 1048576) (hp : p.length ≤ 1048576) : ∃ r, spec_BlockWay.f k s b p = some (r, ()) ∧ impl_BlockWay.f k s b p = some (r, ()) ∧ r.1.length ≤ 1048576 := by
  rw [spec_BlockWay.s, impl_BlockWay.s, impl_goodIn.s, impl_truthOf.s]
  obtain ⟨g, g1, g2, g3⟩ := isKind_eq (k := k) (by omega) p (s.1.length : Int) 2 (by omega) (by omega)
  have main : Env k s → g = 2 → impl_where.f k s p = some (whereT s p, ()) := fun E hg => where_eq E (g3 hg) (by omega)
  rcases blocks_cases0 (k := k) (by omega) s b hb hs hbl with ⟨e1, i2 | ⟨E, hr⟩⟩ | ⟨e1, hb2, E, hB⟩
  · exact ⟨([], false), by rw [e1]; rfl, by rw [i2]; rfl, by simp⟩
  · refine ⟨([], false), by rw [e1]; rfl, ?_, by simp⟩
    rw [E.iv]
    simp only [Option.bind_some, if_true, g1]
    by_cases hg : g = 2
    · rw [show (g == 2) = true by simp [hg]]
      simp only [Option.bind_some, Bool.not_true, if_false, main E hg, Bool.false_eq_true, hr, Bool.not_false, if_true]
    · rw [show (g == 2) = false by simp [hg]]
      rfl
  · rw [e1, E.iv]
    simp only [Option.bind_some, if_true, g1, g2]
    by_cases hg : g = 2
    · have hK := g3 hg
      have hi : spec_l2Is.f k p (s.1.length : Int) 2 = some (true, ()) := by rw [g2, hg]; rfl
      have hbl := hB.len
      have hsz := E.S.sz
      rw [show (g == 2) = true by simp [hg]]
      obtain ⟨r, r1, r2⟩ := implBlockWay E hB (whereT_length s p) hk
      obtain ⟨r', q1, q2, q3⟩ := specBlockWay E hB (whereT_length s p) hk
      have := r2.uniq q2
      subst this
      simp only [Option.bind_some, Bool.not_true, if_false, main E hg, Bool.false_eq_true, hb2, r1]
      rw [l15Good_eq E hK hi (by omega), clone_int_eq (by omega)]
      simp only [Option.bind_some]
      rw [gd_t (by omega), gd_t (by omega), toNat_nat, hbl, q1]
      exact ⟨_, rfl, rfl, q3⟩
    · rw [show (g == 2) = false by simp [hg]]
      exact ⟨([], false), rfl, rfl, by simp⟩
theorem FnExactBlockWay_pure {k : Nat} (hk : 5000000 < k) (s : SY) (b : List Int) (p : List TM) (hb : BigS s) (hbl : b.length < 9223372036854775808) (hp : p.length < 9223372036854775808) : laws_FnExactBlockWay.f k s b p = some (true, ()) := by
  rw [laws_FnExactBlockWay.s]
  obtain ⟨r, e, hr⟩ := szSystem_ok (k := k) (by omega) hb 1048576 (by omega) (by omega)
  rw [e]; simp only [Option.bind_some]
  rcases hr with hr | ⟨h1, h2, hs⟩
  · rw [if_pos (by simpa using hr)]
  rw [if_neg (by simpa using h1)]
  obtain ⟨r2, e2, hr2⟩ := szBlocks_ok (k := k) hbl r h1 h2
  rw [e2]; simp only [Option.bind_some]
  rcases hr2 with hr | ⟨g1, g2, hpl⟩
  · rw [if_pos (by simpa using hr)]
  rw [if_neg (by simpa using g1)]
  obtain ⟨r3, e3, hr3⟩ := szTermS_ok (k := k) hp r2 g1 (by omega)
  rw [e3]; simp only [Option.bind_some]
  rcases hr3 with hr | ⟨q1, q2, hpp⟩
  · rw [if_pos (by simpa using hr)]
  rw [if_neg (by simpa using q1)]
  have hk' : 1048576 < k := by omega
  obtain ⟨x, s1, s2, hx⟩ := BlockWay_eq hk s b p hb hs hpl hpp
  obtain ⟨m1, q1', a1, a2, a3, -⟩ := markSystem_ok hk' hs 1 (by omega) (by omega)
  obtain ⟨m2, q2', b1, b2, b3, -⟩ := markBlocks_ok hk' hpl m1 (by omega) (by omega)
  obtain ⟨m3, q3', c1, c2, c3, -⟩ := markTermS_ok hk' hpp m2 (by omega) (by omega)
  obtain ⟨m4, q4, d1, d2, d3, d4, d5⟩ := markIntS_ok hk' hx 1 (by omega) (by omega)
  have hh := heldIntS_ok (k := k) (q := q4) (by omega) (by omega) (by omega) (by omega) d5
  have ei : laws_eqIntS.f k x.1 x.1 = some (true, ()) := by rw [eqIntS_eq (by omega) (by omega)]; simp
  simp only [toSystem_eq hk' hs, toBlocks_eq hk' hpl, toTermS_eq hk' hpp, Option.bind_some, s1, s2, eqSystem_eq hk' hs, eqBlocks_eq hk' hpl, eqTermS_eq hk' hpp, ei, a1, b1, c1, d1, hh]
  simp [show ¬ m3 < 0 by omega, show ¬ m4 < 0 by omega]
theorem FnExactBlockWay_true (s : SY) (b : List Int) (p : List TM) (w0 : Wf sSY s) (w1 : Wf (.agg (.slice false I)) b) (w2 : Wf sTMs p) : ∃ k, laws_FnExactBlockWay.f k s b p = some (true, ()) := by
  have hm := maxLen_eq
  exact ⟨5000001, FnExactBlockWay_pure (by omega) s b p (BigS_of w0) (by have := w1.1; omega) (by have := w2.1; omega)⟩
end Go.Ev
