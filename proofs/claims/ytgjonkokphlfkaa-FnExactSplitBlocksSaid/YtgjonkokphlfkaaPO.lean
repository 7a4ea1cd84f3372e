/- Plain mathematics on what the functions compute. -/
import Derived.Test.YtgjonkokphlfkaaPN
import Derived.Test.YtgjonkokphlfkaaPU
set_option linter.unusedVariables false
set_option linter.unusedSimpArgs false
namespace Go.Ev

/-! ### sets of numbers -/
/-- Ascending numbers below n. -/
def SetAt (p : List Int) (n : Int) (i : Nat) : Prop := ∃ h : i < p.length, (0 ≤ p[i] ∧ p[i] ≤ n - 1) ∧ ∀ h0 : 0 < i, p[i - 1] < p[i]
theorem SetValid_l {k : Nat} (p : List Int) (n : Int) (hn : 0 ≤ n ∧ n ≤ 1048576) (hp : p.length ≤ 1048576) (hk : 1048576 < k) : ∃ b, spec_SetValid.l3 k p k n 0 = some (b, ()) ∧ (b = true ↔ decide (n > 0) = true ∧ ∀ i, i < p.length → SetAt p n i) := by
  refine check_loop (l := fun q j => spec_SetValid.l3 k p q n j) (m := p.length) (SetAt p n) (fun q j hj hI => ?_) (fun q hI => ?_) (by omega)
  · have e1 : w64 (n - 1) = n - 1 := w64_id (by omega) (by omega)
    simp (disch := omega) only [spec_SetValid.s3, getD_get, w64_id, toNat_nat, gd_t, spec_in_eq, Option.bind_some]
    rw [if_pos (by simpa using hj)]
    by_cases h1 : 0 ≤ p[j] ∧ p[j] ≤ n - 1
    · rw [if_neg (by simp; omega)]
      by_cases h0 : 0 < j
      · have e2 : w64 ((j : Int) - 1) = ((j - 1 : Nat) : Int) := by rw [w64_id (by omega) (by omega)]; omega
        rw [if_pos (by simp; omega)]
        simp (disch := omega) only [e2, toNat_nat, getD_get, gd_t]
        by_cases h2 : p[j - 1] < p[j]
        · rw [if_neg (by simp; omega)]
          exact .inl ⟨⟨hj, h1, fun _ => h2⟩, rfl⟩
        · rw [if_pos (by simp; omega)]
          exact .inr ⟨fun ⟨_, _, h⟩ => h2 (h h0), rfl⟩
      · rw [if_neg (by simp; omega)]
        exact .inl ⟨⟨hj, h1, fun h => absurd h h0⟩, rfl⟩
    · rw [if_pos (by simp; omega)]
      exact .inr ⟨fun ⟨_, h, _⟩ => h1 h, rfl⟩
  · simp [spec_SetValid.s3]
theorem setOk_l {k : Nat} (p : List Int) (n : Int) (hn : 0 ≤ n ∧ n ≤ 1048576) (hp : p.length ≤ 1048576) (hk : 1048576 < k) : ∃ b, impl_setOk.f k p n = some (b, ()) ∧ (b = true ↔ true = true ∧ ∀ i, i < p.length → SetAt p n i) := by
  rw [impl_setOk.s]
  refine check_loop (l := fun q j => impl_setOk.l2 k p n q j) (m := p.length) (SetAt p n) (fun q j hj hI => ?_) (fun q hI => ?_) (by omega)
  · have e1 : w64 (n - 1) = n - 1 := w64_id (by omega) (by omega)
    simp (disch := omega) only [impl_setOk.s2, getD_get, w64_id, toNat_nat, gd_t, impl_in_eq, Option.bind_some]
    rw [if_pos (by simpa using hj)]
    by_cases h1 : 0 ≤ p[j] ∧ p[j] ≤ n - 1
    · rw [if_neg (by simp; omega)]
      by_cases h0 : 0 < j
      · have e2 : w64 ((j : Int) - 1) = ((j - 1 : Nat) : Int) := by rw [w64_id (by omega) (by omega)]; omega
        rw [if_pos (by simp; omega)]
        simp (disch := omega) only [e2, toNat_nat, getD_get, gd_t]
        by_cases h2 : p[j - 1] < p[j]
        · rw [if_neg (by simp; omega)]
          exact .inl ⟨⟨hj, h1, fun _ => h2⟩, rfl⟩
        · rw [if_pos (by simp; omega)]
          exact .inr ⟨fun ⟨_, _, h⟩ => h2 (h h0), rfl⟩
      · rw [if_neg (by simp; omega)]
        exact .inl ⟨⟨hj, h1, fun h => absurd h h0⟩, rfl⟩
    · rw [if_pos (by simp; omega)]
      exact .inr ⟨fun ⟨_, h, _⟩ => h1 h, rfl⟩
  · simp [impl_setOk.s2]
/-- The reference's look at a set, and the program's, at a system of n states. -/
theorem SetValid_eq {k : Nat} (s : SY) (p : List Int) (n : Int) (hn : 0 < n ∧ n ≤ 1048576) (hs : spec_SizeOf.f k s = some (n, ())) (hp : p.length ≤ 1048576) (hk : 1048576 < k) :
    ∃ b, spec_SetValid.f k s p = some (b, ()) ∧ impl_setOk.f k p n = some (b, ()) ∧ (b = true → ∀ i, i < p.length → SetAt p n i) := by
  obtain ⟨b, h1, h2⟩ := SetValid_l (k := k) p n (by omega) hp hk
  obtain ⟨b', h3, h4⟩ := setOk_l (k := k) p n (by omega) hp hk
  have : b' = b := by
    rw [Bool.eq_iff_iff, h2, h4]
    simp [hn.1]
  subst this
  refine ⟨b', ?_, h3, fun h => (h2.1 h).2⟩
  rw [spec_SetValid.s, hs]
  exact h1
/-- The marks of a set: true at each of its numbers. -/
def marksOf (p : List Int) (n : Nat) : List Bool := (List.range n).map fun (i : Nat) => decide ((i : Int) ∈ p)
theorem marksOf_length (p : List Int) (n : Nat) : (marksOf p n).length = n := by simp [marksOf]
theorem marksOf_get (p : List Int) (n : Nat) {i : Nat} (h : i < n) : (marksOf p n)[i]'(by rw [marksOf_length]; exact h) = decide ((i : Int) ∈ p) := by simp [marksOf]
theorem marks_eq {k : Nat} (p : List Int) (n : Nat) (hn : n ≤ 1048576) (hp : p.length ≤ 1048576) (hk : 1048576 < k) (h : ∀ i, i < p.length → SetAt p n i) : impl_marks.f k p n = some (marksOf p n, ()) := by
  rw [impl_marks.s, gd_t (by omega), gd_t (by omega)]
  refine for_post (m := p.length) (l := fun q s j => impl_marks.l3 k p q s j) (fun j v => v = marksOf (p.take j) n) (fun r => r = some (marksOf p n, ())) (fun q s hI => ?_) (fun q j s hj hI ih => ?_) (by omega) ?_
  · rw [hI, List.take_of_length_le (by omega)]
    simp [impl_marks.s3]
  · obtain ⟨_, h1, _⟩ := h j hj
    have hl : s.length = n := by rw [hI, marksOf_length]
    simp (disch := omega) only [impl_marks.s3, getD_get, w64_id, toNat_nat, gd_t]
    rw [if_pos (by simpa using hj)]
    refine ih _ ?_
    rw [hI]
    apply List.ext_getElem (by simp [marksOf])
    intro i hi1 hi2
    have hin : i < n := by rw [marksOf_length] at hi2; exact hi2
    rw [marksOf_get _ _ hin]
    simp only [List.getElem_set, marksOf_get _ _ hin, mem_take1 hj]
    by_cases e : p[j].toNat = i
    · have : (i : Int) = p[j] := by omega
      simp [e, this]
    · have : (i : Int) ≠ p[j] := by omega
      simp [e, this]
  · apply List.ext_getElem (by simp [marksOf])
    intro i hi1 hi2
    rw [marksOf_get _ _ (by rw [marksOf_length] at hi2; exact hi2)]
    simp

/-! ### blocks by a key -/
abbrev AR2 := Unit × Int × Int
theorem blocksOf2_eq {k : Nat} (ks : List AR2) (f : Int → Option AR2) (hf : ∀ j (h : j < ks.length), f (j : Int) = some ks[j]) (hl : ks.length ≤ 1048576) (hk : 1048576 < k) : impl_blocksOf_2_int.f k (ks.length : Int) f = some (firsts ks, ()) := by
  rw [impl_blocksOf_2_int.s, gd_t (by omega), gd_t (by omega)]
  have hz : impl_blocksOf_2_int.l4 k (ks.length : Int) f k [] (List.replicate ((ks.length : Int)).toNat 0) 0 = some (firsts ks, ()) := by
    refine blocksOf_loop ks (mget (.agg (.pair .unit (.pair I I))) I) (mput (.agg (.pair .unit (.pair I I))) I) (fun n m v j => impl_blocksOf_2_int.l4 k (ks.length : Int) f n m v j) (fun m x z y => ?_) (fun n m v j hj hv hg => ?_) (fun n m v j hj z hv hg => ?_) (fun n m v hv => ?_) (fun x => rfl) (by simp) (by omega)
    · rw [mget_mput (eqEl_arr2 .i64)]
      by_cases h : y = x
      · rw [if_pos ((eqEl_arr2 _ _ _).2 h), if_pos h]
      · rw [if_neg fun e => h ((eqEl_arr2 _ _ _).1 e), if_neg h]
    · simp (disch := omega) only [impl_blocksOf_2_int.s4, List.length_replicate, toNat_nat, hf j hj, Option.bind_some, hg, gd_t, w64_id, mget_mput (eqEl_arr2 .i64)]
      have he : eqEl (.agg (.pair .unit (.pair I I))) ks[j] ks[j] = true := (eqEl_arr2 .i64 _ _).2 rfl
      simp [hj, he]
    · simp (disch := omega) only [impl_blocksOf_2_int.s4, List.length_replicate, toNat_nat, hf j hj, Option.bind_some, hg, gd_t, w64_id]
      simp [hj]
    · simp (disch := omega) only [impl_blocksOf_2_int.s4, List.length_replicate, toNat_nat, clone_int_eq (p := v) (by omega), Option.bind_some]
      simp
  exact hz
def bitOf (b : Bool) : Int := if b = true then 1 else 0
theorem bit_eq (k : Nat) (b : Bool) : impl_bit.f k b = some (bitOf b, ()) := by rw [impl_bit.s]; cases b <;> rfl
theorem l1Truth_eq (k : Nat) (b : Bool) : spec_l1Truth.f k b = some (bitOf b, ()) := by rw [spec_l1Truth.s]; cases b <;> rfl
/-- Blocks, cut along marks. -/
def splitOf (b : List Int) (m : List Bool) : List Int := firsts (b.zip m)
theorem splitBlocks_eq {k : Nat} (b : List Int) (m : List Bool) (hl : m.length = b.length) (hb : b.length ≤ 1048576) (hk : 1048576 < k) : impl_splitBlocks.f k b m = some (splitOf b m, ()) := by
  rw [impl_splitBlocks.s]
  have e : (b.zip m).length = b.length := by rw [List.length_zip]; omega
  have h := blocksOf2_eq (k := k) ((b.zip m).map fun x => (((), x.1, bitOf x.2) : AR2)) (fun p => (impl_splitBlocks_1.f k p b m).bind fun r => some r.1) (fun j hj => ?_) (by rw [List.length_map, e]; exact hb) hk
  · rw [List.length_map, e] at h
    rw [h, firsts_inj]
    · rfl
    · rintro ⟨x, c⟩ _ ⟨y, d⟩ _ hxy
      simp only [Prod.mk.injEq, true_and] at hxy
      cases c <;> cases d <;> simp_all [bitOf]
  · rw [List.length_map, e] at hj
    rw [impl_splitBlocks_1.s]
    simp (disch := omega) only [gd_t, toNat_nat, getD_get, bit_eq, Option.bind_some]
    simp
theorem specSplit_l {k : Nat} (b p : List Int) (hb : b.length ≤ 1048576) (hp : p.length ≤ 1048576) (hk : 1048576 < k) : spec_SplitBlocks.l5 k b p k [] 0 = some ((splitOf b (marksOf p b.length), true), ()) := by
  have e : (b.zip (marksOf p b.length)).length = b.length := by rw [List.length_zip, marksOf_length]; omega
  refine push_loop (l := fun n v j => spec_SplitBlocks.l5 k b p n v j) (ys := (b.zip (marksOf p b.length)).map fun x => [x.1, bitOf x.2]) (m := b.length) (by rw [List.length_map, e]) (fun n j v hj hv => ?_) (fun n => ?_) (by omega)
  · simp (disch := omega) only [spec_SplitBlocks.s5, getD_get, w64_id, toNat_nat, gd_t, l2Has_eq (p := p) (show p.length < 4611686018427387904 by omega) (show p.length < k by omega), l1Truth_eq, Option.bind_some]
    rw [if_pos (by simpa using hj), gd_t (by simp; omega)]
    simp [marksOf]
  · simp (disch := omega) only [spec_SplitBlocks.s5]
    rw [if_neg (by simp), l28Rows_eq _ (fun r hr => by
      simp only [List.mem_map] at hr
      obtain ⟨x, _, rfl⟩ := hr
      simp) hk (by rw [List.length_map, e]; exact hb)]
    simp only [Option.bind_some]
    rw [firsts_inj]
    · rfl
    · rintro ⟨x, c⟩ _ ⟨y, d⟩ _ hxy
      simp at hxy
      cases c <;> cases d <;> simp_all [bitOf]
end Go.Ev
