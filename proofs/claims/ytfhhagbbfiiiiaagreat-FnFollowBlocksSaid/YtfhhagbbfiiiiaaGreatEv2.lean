/- A verified evaluator for the operations of a translated program, part 2. -/
import Derived.Test.YtfhhagbbfiiiiaaGreatEv1
import Derived.Laws.AppendOwn
noncomputable section
namespace Go.Ev
variable {P : Program}
theorem fold_set (off : Nat) : ∀ (vs : List Value) (k : Nat) (arr : Array Value), off + k + vs.length ≤ arr.size →
    ((vs.zipIdx k).foldl (fun (cs : Array Value) (x : Value × Nat) => cs.setIfInBounds (off + x.2) x.1) arr).toList = arr.toList.take (off + k) ++ vs ++ arr.toList.drop (off + k + vs.length)
  | [], k, arr, _ => by simp
  | v :: vs, k, arr, h => by
    simp only [List.zipIdx_cons, List.foldl_cons]
    rw [fold_set off vs (k + 1) _ (by simp at h ⊢; omega)]
    simp only [Array.toList_setIfInBounds, List.length_cons]
    have hk : off + k < arr.toList.length := by simp at h ⊢; omega
    rw [List.take_set, List.drop_set_of_lt (by omega)]
    have e : off + (k + 1) = (off + k) + 1 := by omega
    rw [e, List.take_succ_eq_append_getElem hk, List.set_append_right _ _ (by rw [List.length_take]; omega)]
    have hmin : min (off + k) arr.toList.length = off + k := by omega
    simp only [List.length_take, hmin, Nat.sub_self, List.set_cons_zero]
    rw [show off + k + 1 + vs.length = off + k + (vs.length + 1) from by omega]
    simp
theorem fill_step (place : Nat → Option (Nat × Nat)) {cells : Array Value} {i off n : Nat} {v : Value} {vs : List Value} {rest : List (Nat × Value)} (hp : place i = some (off, n)) (hv : v.cells = vs.toArray) (hl : vs.length = n)
    (hfit : off + n ≤ cells.size) : Instr.fill place cells ((i, v) :: rest) = Instr.fill place (cells.toList.take off ++ vs ++ cells.toList.drop (off + n)).toArray rest := by
  have h1 : (v.cells.size ≠ n || off + v.cells.size > cells.size) = false := by
    rw [hv]
    simp [hl]
    omega
  have h2 : v.cells.zipIdx.foldl (fun (cs : Array Value) (x : Value × Nat) => cs.setIfInBounds (off + x.2) x.1) cells = (cells.toList.take off ++ vs ++ cells.toList.drop (off + n)).toArray := by
    rw [hv]
    apply Array.ext'
    have := fold_set off vs 0 cells (by omega)
    rw [← hl]
    rw [← Array.foldl_toList, Array.toList_zipIdx]
    simpa using this
  rw [Instr.fill]
  simp only [hp]
  split
  · rename_i hc
    simp only [Bool.or_eq_false_iff, decide_eq_false_iff_not] at h1
    simp at hc
    rw [hv] at hc
    simp [hl] at hc
    omega
  · exact congrArg (fun z => Instr.fill place z rest) h2
def offS : S → Nat → Nat
  | .pair a b, j + 1 => size a + offS b j
  | _, _ => 0
theorem FitsF.off : ∀ (s : S) {off : Nat} {fs : List Field} {j : Nat} {f : Field}, FitsF P s off fs → fs[j]? = some f → f.offset = off + offS s j := by
  have one : ∀ (s : S) {off : Nat} {fs : List Field} {j : Nat} {f : Field}, FOne P (Fits P s) off fs → fs[j]? = some f → f.offset = off ∧ j = 0 := by
    intro s off fs j f ⟨g, e, h1, _⟩ hj
    subst e
    match j, hj with
    | 0, hj => simp at hj; subst hj; exact ⟨h1, rfl⟩
  intro s
  induction s with
  | pair a b _ ihb =>
    intro off fs j f ⟨g, fs', e, h1, _, _, h4⟩ hj
    subst e
    match j with
    | 0 => simp at hj; subst hj; exact h1
    | j + 1 =>
      have := ihb h4 (show fs'[j]? = some f by simpa using hj)
      rw [this]; simp only [offS]; omega
  | unit => intro off fs j f h; exact absurd h id
  | map k v => intro off fs j f h hj; obtain ⟨h1, h2⟩ := one (.map k v) h hj; subst h2; simpa [offS] using h1
  | agg s => intro off fs j f h hj; obtain ⟨h1, h2⟩ := one (.agg s) h hj; subst h2; simpa [offS] using h1
  | slice nl s => intro off fs j f h hj; obtain ⟨h1, h2⟩ := one (.slice nl s) h hj; subst h2; simpa [offS] using h1
  | ptr s => intro off fs j f h hj; obtain ⟨h1, h2⟩ := one (.ptr s) h hj; subst h2; simpa [offS] using h1
  | int k => intro off fs j f h hj; obtain ⟨h1, h2⟩ := one (.int k) h hj; subst h2; simpa [offS] using h1
  | bool => intro off fs j f h hj; obtain ⟨h1, h2⟩ := one (.bool) h hj; subst h2; simpa [offS] using h1
  | str => intro off fs j f h hj; obtain ⟨h1, h2⟩ := one (.str) h hj; subst h2; simpa [offS] using h1
  | func p r => intro off fs j f h hj; obtain ⟨h1, h2⟩ := one (.func p r) h hj; subst h2; simpa [offS] using h1
theorem sameS_refl : ∀ s : S, sameS s s = true := by
  intro s; induction s <;> simp_all [sameS]
theorem fp_same : ∀ (s s' : S) (j : Nat), sameS s s' = true → fp s j = fp s' j ∧ (fields s).length = (fields s').length := by
  intro s
  induction s with
  | pair a b _ ihb =>
    intro s' j h
    cases s' <;> simp [sameS] at h
    rename_i a' b'
    cases j with
    | zero => exact ⟨rfl, by simp [fields, (ihb _ 0 h.2).2]⟩
    | succ j => exact ⟨by simp [fp, (ihb _ j h.2).1], by simp [fields, (ihb _ j h.2).2]⟩
  | _ => intro s' j h; cases s' <;> simp [sameS] at h <;> exact ⟨by cases j <;> rfl, rfl⟩
theorem sameS_trans : ∀ (a b c : S), sameS a b = true → sameS b c = true → sameS a c = true := by
  intro a
  induction a with
  | pair x y ihx ihy =>
    intro b c h h'
    cases b <;> simp [sameS] at h
    cases c <;> simp [sameS] at h'
    simp [sameS, ihx _ _ h.1 h'.1, ihy _ _ h.2 h'.2]
  | agg x ih => intro b c h h'; cases b <;> simp [sameS] at h; cases c <;> simp [sameS] at h'; simpa [sameS] using ih _ _ h h'
  | ptr x ih => intro b c h h'; cases b <;> simp [sameS] at h; cases c <;> simp [sameS] at h'; simpa [sameS] using ih _ _ h h'
  | slice nl x ih => intro b c h h'; cases b <;> simp [sameS] at h; cases c <;> simp [sameS] at h'; simpa [sameS] using ih _ _ h h'
  | func x y ihx ihy =>
    intro b c h h'
    cases b <;> simp [sameS] at h
    cases c <;> simp [sameS] at h'
    simp [sameS, ihx _ _ h.1 h'.1, ihy _ _ h.2 h'.2]
  | map x y ihx ihy =>
    intro b c h h'
    cases b <;> simp [sameS] at h
    cases c <;> simp [sameS] at h'
    simp [sameS, h, h']
  | int k => intro b c h h'; cases b <;> simp [sameS] at h; cases c <;> simp [sameS] at h'; simp [sameS, h, h']
  | _ => intro b c h h'; cases b <;> simp [sameS] at h; cases c <;> simp [sameS] at h'; rfl
theorem seg (c1 c2 cc : List Value) (o : Nat) : (c1 ++ c2).take (c1.length + o) ++ cc ++ (c1 ++ c2).drop (c1.length + o + cc.length) = c1 ++ (c2.take o ++ cc ++ c2.drop (o + cc.length)) := by
  rw [List.take_append, List.drop_append, List.take_of_length_le (by omega), List.drop_eq_nil_of_le (as := c1) (by omega)]
  rw [show c1.length + o - c1.length = o by omega, show c1.length + o + cc.length - c1.length = o + cc.length by omega]
  simp
theorem setFld_ok : ∀ (s : S) {w : World} {col : Col} {p : List Nat} {m : M} {x : El s} {L : List Value} {j : Nat} {c : Comp} {cc : List Value}, Rep P s w col none p m x L → j < (fields s).length → sameS (subS s (fp s j)) c.s = true →
    Rep P c.s w col none (p ++ fp s j) c.m c.x cc →
    Rep P (setFld s m x j c).s w col none p (setFld s m x j c).m (setFld s m x j c).x (L.take (offS s j) ++ cc ++ L.drop (offS s j + cc.length)) ∧ sameS s (setFld s m x j c).s = true := by
  have one : ∀ (s : S) {w : World} {col : Col} {p : List Nat} {m : M} {x : El s} {L : List Value} {j : Nat} {c : Comp} {cc : List Value}, Rep P s w col none p m x L → sameS s c.s = true →
    Rep P c.s w col none (p ++ []) c.m c.x cc → Rep P c.s w col none p c.m c.x (L.take 0 ++ cc ++ L.drop (0 + cc.length)) := by
    intro s w col p m x L j c cc h hs hc
    have hl := h.len
    have hl' := hc.len
    rw [size_same _ _ hs] at hl
    rw [List.append_nil] at hc
    simp [List.drop_eq_nil_of_le (show L.length ≤ cc.length by omega)]
    exact hc
  intro s
  induction s with
  | pair a b _ ihb =>
    intro w col p m x L j c cc h hj hs hc
    obtain ⟨c1, c2, e, h1, h2⟩ := h
    have l1 := Rep.len (P := P) a h1
    subst e
    match j with
    | 0 =>
      have hs : sameS a c.s = true := by simpa [fp, subS_nil, subS] using hs
      have hcl : cc.length = c1.length := by rw [hc.len, l1, size_same _ _ hs]
      refine ⟨⟨cc, c2, ?_, hc, h2⟩, by simp [setFld, sameS, hs, sameS_refl]⟩
      simp [offS, hcl]
    | j + 1 =>
      have hc' : Rep P c.s w col none (p ++ [1] ++ fp b j) c.m c.x cc := by rw [List.append_assoc]; exact hc
      obtain ⟨g1, g2⟩ := ihb h2 (by simpa [fields] using hj) hs hc'
      refine ⟨⟨c1, _, ?_, h1, g1⟩, by simp [setFld, sameS, sameS_refl, g2]⟩
      have hoff : offS (.pair a b) (j + 1) = c1.length + offS b j := by rw [l1]; rfl
      rw [hoff]
      exact seg c1 c2 cc _
  | unit =>
    intro w col p m x L j c cc h hj hs hc
    obtain rfl : j = 0 := by simp [fields] at hj; omega
    exact ⟨one _ (j := 0) h hs hc, hs⟩
  | _ =>
    intro w col p m x L j c cc h hj hs hc
    obtain rfl : j = 0 := by simp [fields] at hj; omega
    exact ⟨one _ (j := 0) h hs hc, hs⟩
end Go.Ev

noncomputable section
namespace Go.Ev
variable {P : Program}
theorem FitsF.each : ∀ (s : S) {off : Nat} {fs : List Field} {f : Field}, FitsF P s off fs → f ∈ fs → ∃ s', Fits P s' f.type := by
  intro s off fs f h hf
  obtain ⟨j, hj, e⟩ := List.getElem_of_mem hf
  exact ⟨_, (FitsF.at_ s h (show fs[j]? = some f by rw [List.getElem?_eq_getElem hj, e])).1⟩
theorem run_places {w : World} : ∀ (fs : List Field), (∀ f ∈ fs, ∃ s', Fits P s' f.type) →
    (fs.mapM fun (f : Field) => do pure (f.offset, ← Go.sizeOf f.type) : _root_.Go.Sem (List (Nat × Nat))).run P w = .ok (fs.map fun f => (f.offset, P.cellsOf f.type)) w
  | [], _ => rfl
  | f :: fs, h => by
    obtain ⟨s', hs⟩ := h f (by simp)
    have ih := run_places (w := w) fs (fun g hg => h g (by simp [hg]))
    obtain ⟨i, z, h1, h2, _⟩ := hs.info
    have hc : P.cellsOf f.type = size s' := by simp [Program.cellsOf, h1, h2]
    simp only [List.mapM_cons, Sem.run_bind, hs.sizeOf, Result.andThen_ok, Sem.run_pure, ih, List.map_cons, hc]
theorem offS_le : ∀ (s : S) (j : Nat), j < (fields s).length → offS s j + size (subS s (fp s j)) ≤ size s := by
  intro s
  induction s with
  | pair a b _ ihb =>
    intro j h
    match j with
    | 0 =>
      have : subS (.pair a b) (fp (.pair a b) 0) = a := subS_nil a
      rw [this]; simp only [offS, size]; omega
    | j + 1 =>
      have := ihb j (by simpa [fields] using h)
      have e : subS (.pair a b) (fp (.pair a b) (j + 1)) = subS b (fp b j) := rfl
      rw [e]; simp only [offS, size]; omega
  | _ =>
    intro j h
    obtain rfl : j = 0 := by simp [fields] at h; omega
    simp [offS, fp, subS_nil]
theorem partSlots_len (C : Ctx) (σ : List Slot) (ty : Nat → Option S) : ∀ l : List (Nat × Operand), (partSlots C σ ty l).length = l.length
  | [] => rfl
  | (i, o) :: l => by simp [partSlots, partSlots_len C σ ty l]
section
variable {C : Ctx} {B : Base} {R : Type} {K : List Slot → Option R} {res : R} {next : Act → World → Prop} {Q : Exit → Act → World → Prop} {o : Oper} {σ : List Slot} {a : Act} {w : World} {col : Col}
theorem slots_ok (hC : CtxOk P C) (I : InvC P B col σ a w) (ty : Nat → Option S) : ∀ (l : List (Nat × Operand)), SlotsOk P w col σ a (partSlots C σ ty l) (l.map fun x => a.eval x.2)
  | [] => trivial
  | (i, o) :: l => ⟨I.rdo' hC _ o, slots_ok hC I ty l⟩
theorem fill_build {fs : List Field} {d : Nat} : ∀ (l : List (Nat × Operand)) (cs : List Comp) {acc fin_ : Comp} {L : List Value}, FitsF P acc.s 0 fs →
    Rep P acc.s w col none [d, 0] acc.m acc.x L → (∀ j, (fp acc.s j) = fp acc.s j) →
    TakenOk P w col d (l.map fun x => 0 :: fp acc.s x.1) cs (l.map fun x => a.eval x.2) → buildC (zipIdx' l cs) acc = some fin_ →
    ∃ L', Instr.fill (fun j => (fs.map fun f => (f.offset, P.cellsOf f.type))[j]?) L.toArray (l.map fun x => (x.1, a.eval x.2)) = some L'.toArray ∧ Rep P fin_.s w col none [d, 0] fin_.m fin_.x L' ∧ sameS acc.s fin_.s = true
  | [], [], acc, fin_, L, hf, hr, _, _, hb => by
    simp only [zipIdx', buildC, Option.some.injEq] at hb
    subst hb
    exact ⟨L, rfl, hr, sameS_refl _⟩
  | (i, x) :: l, c :: cs, acc, fin_, L, hf, hr, _, hT, hb => by
    simp only [zipIdx', buildC] at hb
    obtain ⟨⟨ds, h1, h2⟩, hT⟩ := hT
    cases hc : (ltb i (fields acc.s).length && sameS (subS acc.s (fp acc.s i)) c.s)
    · rw [hc] at hb; simp [bif3] at hb
    · rw [hc] at hb
      simp only [bif3] at hb
      simp only [Bool.and_eq_true] at hc
      have hlt := ltb_lt hc.1
      obtain ⟨g1, g2⟩ := setFld_ok acc.s hr hlt hc.2 (show Rep P c.s w col none ([d, 0] ++ fp acc.s i) c.m c.x ds from h1)
      have hlen := FitsF.fields acc.s hf
      have hjl : i < fs.length := by omega
      have hfj : fs[i]? = some fs[i] := List.getElem?_eq_getElem hjl
      have hoff := FitsF.off acc.s hf hfj
      have hfit := (FitsF.at_ acc.s hf hfj).1
      obtain ⟨inf, z, k1, k2, _⟩ := hfit.info
      have hcz : P.cellsOf fs[i].type = size c.s := by simp [Program.cellsOf, k1, k2, size_same _ _ hc.2]
      have hL := hr.len
      have hfitL : offS acc.s i + size c.s ≤ L.length := by
        have := offS_le acc.s i hlt
        rw [size_same _ _ hc.2] at this
        omega
      have hstep := fill_step (fun j => (fs.map fun f => (f.offset, P.cellsOf f.type))[j]?) (cells := L.toArray) (i := i) (off := offS acc.s i) (n := size c.s) (v := a.eval x) (vs := ds) (rest := l.map fun x => (x.1, a.eval x.2))
        (by simp [hfj, hoff, hcz]) (h1.cells h2) h1.len (by simpa using hfitL)
      have hfp : ∀ j, fp acc.s j = fp (setFld acc.s acc.m acc.x i c).s j := fun j => (fp_same _ _ j g2).1
      have hT' : TakenOk P w col d (l.map fun x => 0 :: fp (setFld acc.s acc.m acc.x i c).s x.1) cs (l.map fun x => a.eval x.2) := by
        have : (l.map fun x => 0 :: fp (setFld acc.s acc.m acc.x i c).s x.1) = (l.map fun x => 0 :: fp acc.s x.1) := by
          apply List.map_congr_left; intro y _; rw [hfp]
        rw [this]; exact hT
      have g1' : Rep P (setFld acc.s acc.m acc.x i c).s w col none [d, 0] (setFld acc.s acc.m acc.x i c).m (setFld acc.s acc.m acc.x i c).x (L.take (offS acc.s i) ++ ds ++ L.drop (offS acc.s i + size c.s)) := by
        have e := h1.len
        rw [← e]; exact g1
      obtain ⟨L', q1, q2, q3⟩ := fill_build l cs (acc := setFld acc.s acc.m acc.x i c) ((Fits.same' acc.s _ g2).2 0 fs hf) g1' (fun _ => rfl) hT' hb
      refine ⟨L', ?_, q2, sameS_trans _ _ _ g2 q3⟩
      rw [List.map_cons, hstep]
      exact q1
  | [], _ :: _, _, _, _, _, _, _, hT, _ => absurd hT id
  | _ :: _, [], _, _, _, _, _, _, hT, _ => absurd hT id
theorem Build.ok (hC : CtxOk P C) (I : InvC P B col σ a w) (hG : Good P B K res next) {T : TypeId} {parts : Array (Nat × Operand)} {s : S} {fz : Bool} {d : Nat} (hop : o.op = .build T parts) (hd : o.dst = some d) (hT : C.ty T = some (.agg s)) (hns : isArr s = false)
    (he : (match takeAll (Ev.put σ d .dead) fz (partSlots C (Ev.put σ d .dead) (fun i => nth (fields s) i) parts.toList) with
      | some (cs, σ) => bif3 (zeroable s) (match buildC (zipIdx' parts.toList cs) ⟨s, topM s, zero s⟩ with
        | some c => chk C T (.agg c.s) (K (Ev.put σ d (.val (.agg c.s) (.ag c.m) c.x)))
        | none => none) none
      | none => none) = some res) : o.wp P a w next Q := by
  have I1 := I.dead d
  split at he
  · rename_i cs σ2 ht
    obtain ⟨fs, k1, k2, _⟩ := (hC.ty T _ hT).struct hns
    obtain ⟨_, inf, z, i1, i2, i3, i4, i5⟩ := hC.ty T _ hT
    cases hz : zeroable s
    · rw [hz] at he; simp [bif3] at he
    · rw [hz] at he
      simp only [bif3] at he
      split at he
      · rename_i c hb
        obtain ⟨hfit, he⟩ := chk_ok hC.ty he
        obtain ⟨col2, I2, hd2, hT2, _, _⟩ := takeAll_ok (d := d) _ (parts.toList.map fun x => 0 :: fp s x.1) _ I1 (Later.refl _ _ _) gs_put_dead (slots_ok hC I1 _ parts.toList) (by simp [partSlots_len]) ht
        have hz0 : Rep P s w col2 none [d, 0] (topM s) (zero s) (zcells s) := Rep_zero s _ _ _ hz
        obtain ⟨L', q1, q2, q3⟩ := fill_build (a := a) parts.toList cs (acc := ⟨s, topM s, zero s⟩) k2 hz0 (fun _ => rfl) hT2 hb
        have hzc : z.cells = (zcells s).toArray := by rw [show zcells s = zcells (.agg s) from rfl, ← i5]
        have hpl := run_places (P := P) (w := w) fs.toList (fun f hf => FitsF.each s k2 hf)
        have hrun : (execOp a.eval o).run P w = .ok (.value (.agg L'.toArray)) w := by
          simp only [execOp, hop, Instr.build, Sem.run_bind, zeroValue, typeInfo, run_program, Result.andThen_ok, i1, i4, Sem.run_pure, run_underlying k1, Array.mapM_eq_mapM_toList, Sem.run_map]
          simp only [hpl, Result.andThen_ok, hzc]
          have q1' : Instr.fill (fun x => (List.map (fun f => (f.offset, P.cellsOf f.type)) fs.toList).toArray[x]?) (zcells s).toArray (parts.map fun x => (x.1, a.eval x.2)).toList = some L'.toArray := by
            simpa using q1
          rw [q1']
          rfl
        exact op_value hrun (hG _ _ _ ⟨col2, by rw [hd]; exact I2.put (y := .val (.agg c.s) (.ag c.m) c.x) ⟨L', q2, rfl⟩⟩ he)
      · cases he
  · cases he
end
end Go.Ev

noncomputable section
namespace Go.Ev
variable {P : Program}
theorem coer_ok {R : Type} : ∀ (s s' : S) {x : El s} {K : El s' → Option R} {res : R}, coer s s' x K = some res → ∃ y, K y = some res ∧ sameS s s' = true ∧
    ∀ {w : World} {col : Col} {h : Option (List Nat)} {p : List Nat} {m : M} {cs : List Value}, Rep P s w col h p m x cs → Rep P s' w col h p m y cs := by
  intro s
  induction s with
  | slice nl s _ =>
    intro s' x K res he
    cases s' <;> simp only [coer] at he <;> try cases he
    rename_i nl' s'
    rw [dif_eq] at he
    split at he
    · rename_i hs
      subst hs
      have key : ∀ {w : World} {col : Col} {h : Option (List Nat)} {p : List Nat} {m : M} {cs : List Value}, (nl' = true → nl = true ∨ x ≠ []) → Rep P (.slice nl s) w col h p m x cs → Rep P (.slice nl' s) w col h p m x cs := by
        intro w col h p m cs hnl H
        refine hole.imp (show hole h cs 1 (∃ a c, cs = [.slice a x.length c] ∧ x.length ≤ c ∧ (nl = true → x = [] → a = none) ∧
          (a = none → x = [] ∧ c = 0) ∧
          ∀ ad, a = some ad → (c ≠ 0 ∨ isOw m = true → ad.spot = none) ∧
          (isOw m = true → col ad.block = some p ∧ OwnB w ad.block (ad.off + c * size s)) ∧
          (isOw m = false → x = [] ∨ (col ad.block = some [] ∧ ad.block < w.heap.size)) ∧
          ∀ i y, x[i]? = some y → ∃ ds, At w ad.block (ad.off + i * size s) ds ∧ Rep P s w col (subH h i) (p ++ [i]) (elemM m) y ds) from H) (fun H => ?_)
        obtain ⟨b, c, e, h1, h2, h3, H⟩ := H
        exact ⟨b, c, e, h1, fun hh hx => (hnl hh).elim (fun hn => h2 hn hx) (fun hn => absurd hx hn), h3, H⟩
      cases hb : (nl' && !nl)
      · rw [hb] at he
        refine ⟨x, he, sameS_refl s, fun H => key (fun hh => .inl ?_) H⟩
        cases nl <;> simp_all
      · rw [hb] at he
        simp only [bif3] at he
        split at he
        · rename_i hl
          exact ⟨x, he, sameS_refl s, fun H => key (fun _ => .inr fun hx => hl (by rw [hx]; rfl)) H⟩
        · cases he
    · cases he
  | agg s ih =>
    intro s' x K res he
    cases s' <;> simp only [coer] at he <;> try cases he
    rename_i s'
    obtain ⟨y, h1, h2, h3⟩ := ih s' he
    refine ⟨y, h1, h2, fun {w col h p m cs} H => ?_⟩
    have hs := size_same _ _ h2
    refine show hole h cs (size s') (Rep P s' w col (subH h 0) (p ++ [0]) (agM m) y cs) from ?_
    rw [← hs]
    exact hole.imp (show hole h cs (size s) (Rep P s w col (subH h 0) (p ++ [0]) (agM m) x cs) from H) h3
  | pair a b iha ihb =>
    intro s' x K res he
    cases s' <;> simp only [coer] at he <;> try cases he
    rename_i a' b'
    obtain ⟨y, h1, h2, h3⟩ := iha a' he
    obtain ⟨z, k1, k2, k3⟩ := ihb b' h1
    refine ⟨(y, z), k1, by simp [sameS, h2, k2], fun {w col h p m cs} H => ?_⟩
    have hs := size_same _ _ h2
    have hs' := size_same _ _ k2
    refine show hole h cs (size a' + size b') (∃ c1 c2, cs = c1 ++ c2 ∧ Rep P a' w col (subH h 0) (p ++ [0]) (prA m) y c1 ∧ Rep P b' w col (subH h 1) (p ++ [1]) (prB m) z c2) from ?_
    rw [← hs, ← hs']
    refine hole.imp (show hole h cs (size a + size b) (∃ c1 c2, cs = c1 ++ c2 ∧ Rep P a w col (subH h 0) (p ++ [0]) (prA m) x.1 c1 ∧ Rep P b w col (subH h 1) (p ++ [1]) (prB m) x.2 c2) from H) (fun H => ?_)
    obtain ⟨c1, c2, e, g1, g2⟩ := H
    exact ⟨c1, c2, e, h3 g1, k3 g2⟩
  | int k =>
    intro s' x K res he
    cases s' <;> simp only [coer] at he <;> try cases he
    obtain ⟨hk, he⟩ := bif3_some he
    have hk := eq_of_beq hk
    subst hk
    exact ⟨x, he, sameS_refl _, fun H => H⟩
  | bool => intro s' x K res he; cases s' <;> simp only [coer] at he <;> first | exact ⟨x, he, rfl, fun H => H⟩ | cases he
  | str => intro s' x K res he; cases s' <;> simp only [coer] at he <;> first | exact ⟨x, he, rfl, fun H => H⟩ | cases he
  | unit => intro s' x K res he; cases s' <;> simp only [coer] at he <;> first | exact ⟨x, he, rfl, fun H => H⟩ | cases he
  | ptr s _ =>
    intro s' x K res he
    cases s' <;> simp only [coer] at he <;> try cases he
    split at he
    · rename_i hk; subst hk; exact ⟨x, he, sameS_refl _, fun H => H⟩
    · cases he
  | func p r _ _ =>
    intro s' x K res he
    cases s' <;> simp only [coer] at he <;> try cases he
    split at he
    · rename_i hk; injection hk with h1 h2; subst h1; subst h2; exact ⟨x, he, sameS_refl _, fun H => H⟩
    · cases he
  | map p r _ _ =>
    intro s' x K res he
    cases s' <;> simp only [coer] at he <;> try cases he
    rw [dif_eq] at he
    split at he
    · rename_i hk; injection hk with h1 h2; subst h1; subst h2; exact ⟨x, he, sameS_refl _, fun H => H⟩
    · cases he
def ElemsOk (P : Program) (w : World) (col : Col) (d : Nat) (s : S) : Nat → List (M × El s) → List Value → Prop
  | _, [], L => L = []
  | i, (m, x) :: l, L => ∃ ds L', L = ds ++ L' ∧ Rep P s w col none [d, i] m x ds ∧ ElemsOk P w col d s (i + 1) l L'
theorem rowC_ok {R : Type} {w : World} {col : Col} {d : Nat} {s : S} : ∀ (cs : List Comp) {vs : List Value} {i : Nat} {m : M} {acc : List (El s)} {K : M → List (El s) → Option R} {res : R}, TakenOk P w col d ((List.range' i cs.length).map fun j => [j]) cs vs →
    rowC s m cs acc K = some res → ∃ (l : List (M × El s)) (m' : M), K m' (acc.reverse ++ l.map (·.2)) = some res ∧ l.length = cs.length ∧ le m' m = true ∧ (∀ y ∈ l, le m' y.1 = true) ∧
      ElemsOk P w col d s i l (vs.flatMap fun v => v.cells.toList) ∧ ∀ v ∈ vs, v.cells.size = size s
  | [], [], i, m, acc, K, res, _, he => ⟨[], m, by simpa [rowC] using he, rfl, le_refl _, (fun _ h => by cases h), rfl, (fun _ h => by cases h)⟩
  | c :: cs, v :: vs, i, m, acc, K, res, hT, he => by
    simp only [rowC] at he
    obtain ⟨y, h1, h2, h3⟩ := coer_ok (P := P) _ _ he
    obtain ⟨⟨ds, g1, g2⟩, hT⟩ := hT
    obtain ⟨l, m', k1, k2, k3, k4, k5, k6⟩ := rowC_ok cs (i := i + 1) hT h1
    have hc := g1.cells g2
    refine ⟨(c.m, y) :: l, m', by simpa using k1, by simp [k2], le_trans k3 (meet_le_left _ _), fun z hz => ?_, ⟨ds, _, by simp [hc], h3 g1, k5⟩, fun u hu => ?_⟩
    · rcases List.mem_cons.1 hz with rfl | hz
      · exact le_trans k3 (meet_le_right _ _)
      · exact k4 z hz
    · rcases List.mem_cons.1 hu with rfl | hu
      · rw [hc]; simp [g1.len, size_same _ _ h2]
      · exact k6 u hu
  | [], _ :: _, _, _, _, _, _, hT, _ => absurd hT id
  | _ :: _, [], _, _, _, _, _, hT, _ => absurd hT id
theorem ElemsOk.at_ {w : World} {col : Col} {d : Nat} {s : S} : ∀ {i : Nat} {l : List (M × El s)} {L : List Value}, ElemsOk P w col d s i l L → ∀ j m x, l[j]? = some (m, x) → ∃ ds, Rep P s w col none [d, i + j] m x ds ∧ ∀ q v, ds[q]? = some v → L[j * size s + q]? = some v
  | i, [], L, h, j, m, x, hj => by simp at hj
  | i, (m0, x0) :: l, L, ⟨ds, L', e, h1, h2⟩, j, m, x, hj => by
    have hl := h1.len
    match j with
    | 0 =>
      simp at hj
      obtain ⟨rfl, rfl⟩ := hj
      refine ⟨ds, h1, fun q v hq => ?_⟩
      have hlt : q < ds.length := by
        rcases Nat.lt_or_ge q ds.length with h | h
        · exact h
        · rw [List.getElem?_eq_none h] at hq; cases hq
      rw [e]; simpa [List.getElem?_append_left hlt] using hq
    | j + 1 =>
      obtain ⟨ds', k1, k2⟩ := ElemsOk.at_ h2 j m x (by simpa using hj)
      refine ⟨ds', by rw [show i + (j + 1) = i + 1 + j from by omega]; exact k1, fun q v hq => ?_⟩
      rw [e, List.getElem?_append_right (by rw [hl, Nat.succ_mul]; omega)]
      rw [show (j + 1) * size s + q - ds.length = j * size s + q from by rw [hl, Nat.succ_mul]; omega]
      exact k2 q v hq
theorem fill_row {sz : Nat} : ∀ (l : List (Nat × Value)) (k : Nat) (pre z : List Value), (∀ j x, l[j]? = some x → x.1 = k + j) → pre.length = k * sz → z.length = l.length * sz → (∀ x ∈ l, x.2.cells.size = sz) →
    Instr.fill (fun i => some (i * sz, sz)) (pre ++ z).toArray l = some (pre ++ l.flatMap fun x => x.2.cells.toList).toArray
  | [], k, pre, z, _, _, hz, _ => by
    have : z = [] := List.length_eq_zero_iff.1 (by simpa using hz)
    subst this
    simp [Instr.fill]
  | (i, v) :: l, k, pre, z, hi, hp, hz, hs => by
    obtain rfl : i = k := by have := hi 0 (i, v) rfl; simpa using this
    have hsz : v.cells.toList.length = sz := by simpa using hs (i, v) (by simp)
    have hzl : z.length = sz + l.length * sz := by rw [hz, List.length_cons, Nat.succ_mul]; omega
    rw [fill_step (fun i => some (i * sz, sz)) (off := i * sz) (n := sz) (vs := v.cells.toList) rfl (by simp) hsz (by simp; omega)]
    have e1 : (pre ++ z).toArray.toList.take (i * sz) = pre := by simp [← hp]
    have e2 : (pre ++ z).toArray.toList.drop (i * sz + sz) = z.drop sz := by
      simp only [← hp]
      rw [List.drop_append, List.drop_eq_nil_of_le (by omega)]
      simp
    rw [e1, e2]
    have ih := fill_row (sz := sz) l (i + 1) (pre ++ v.cells.toList) (z.drop sz) (fun j x hj => by have := hi (j + 1) x (by simpa using hj); omega) (by rw [List.length_append, hp, hsz, Nat.succ_mul]) (by rw [List.length_drop]; omega) (fun x hx => hs x (by simp [hx]))
    rw [ih]
    simp
section
variable {C : Ctx} {B : Base} {R : Type} {K : List Slot → Option R} {res : R} {next : Act → World → Prop} {Q : Exit → Act → World → Prop} {o : Oper} {σ : List Slot} {a : Act} {w : World} {col : Col}
theorem takeAll_len {fz : Bool} : ∀ {sls : List Slot} {σ σ2 : List Slot} {cs : List Comp}, takeAll σ fz sls = some (cs, σ2) → cs.length = sls.length
  | [], σ, σ2, cs, h => by simp only [takeAll, Option.some.injEq, Prod.mk.injEq] at h; rw [← h.1]; rfl
  | sl :: sls, σ, σ2, cs, h => by
    simp only [takeAll] at h
    split at h
    · split at h
      · rename_i cs0 σ0 h2
        simp only [Option.some.injEq, Prod.mk.injEq] at h
        rw [← h.1]
        simp [takeAll_len h2]
      · cases h
    · cases h
theorem inOrder_at : ∀ {i n : Nat} {l : List (Nat × Operand)}, inOrder i n l = true → (∀ j x, l[j]? = some x → x.1 = i + j) ∧ i + l.length = n
  | i, n, [], h => ⟨fun j x hj => by simp at hj, by simpa [inOrder] using h⟩
  | i, n, (k, x) :: l, h => by
    simp only [inOrder, Bool.and_eq_true, beq_iff_eq] at h
    obtain ⟨h1, h2⟩ := inOrder_at h.2
    refine ⟨fun j y hj => ?_, by simp; omega⟩
    match j with
    | 0 => simp at hj; subst hj; simp [h.1]
    | j + 1 => have := h1 j y (by simpa using hj); omega
theorem BuildSlice.ok (hC : CtxOk P C) (I : InvC P B col σ a w) (hG : Good P B K res next) {T : TypeId} {n : Nat} {parts : Array (Nat × Operand)} {nl : Bool} {s : S} {fz : Bool} {d : Nat} (hop : o.op = .buildSlice T n parts) (hd : o.dst = some d) (hT : C.ty T = some (.slice nl s))
    (he : bif3 (inOrder 0 n parts.toList && Nat.ble (n * size s) 10000) (match takeAll (Ev.put σ d .dead) fz (partSlots C (Ev.put σ d .dead) (fun _ => some s) parts.toList) with
      | some (cs, σ) => rowC s (topM s) cs [] fun m xs => K (Ev.put σ d (.val (.slice false s) (.ow m) xs))
      | none => none) none = some res) : o.wp P a w next Q := by
  have I1 := I.dead d
  obtain ⟨⟨e, k1, k2⟩, _⟩ := hC.ty T _ hT
  obtain ⟨inf, z, i1, i2, i3, i4, i5⟩ := Fits.info k2
  have hpos := Fits.pos k2
  cases hio : (inOrder 0 n parts.toList && Nat.ble (n * size s) 10000)
  · rw [hio] at he; simp [bif3] at he
  · rw [hio] at he
    simp only [bif3] at he
    simp only [Bool.and_eq_true, Nat.ble_eq] at hio
    obtain ⟨hord, hn⟩ := inOrder_at hio.1
    split at he
    · rename_i cs σ2 ht
      have hcl := takeAll_len ht
      rw [partSlots_len] at hcl
      obtain ⟨col2, I2, hd2, hT2, _, _⟩ := takeAll_ok (d := d) _ ((List.range' 0 cs.length).map fun j => [j]) _ I1 (Later.refl _ _ _) gs_put_dead (slots_ok hC I1 _ parts.toList) (by simp [partSlots_len, hcl]) ht
      obtain ⟨l, m, g1, g2, g3, g4, g5, g6⟩ := rowC_ok cs hT2 he
      simp only [List.reverse_nil, List.nil_append] at g1
      have hfree : FreeP σ2 [d] := by show (gs σ2 d).isRoot = false; rw [hd2]; rfl
      have I3 := I2.recol hfree (lessF (.slice false s) (.ow m) [d])
      have hel : ∀ i m0 x ds, le m m0 = true → Rep P s w col2 none [d, i] m0 x ds → Rep P s w (reCol col2 (lessF (.slice false s) (.ow m) [d]) [d]) none [d, i] m x ds := by
        intro i m0 x ds hle H
        refine H.re s ⟨hle, fun b q _ hc ho => ?_, fun b q _ hc _ ho => ?_, fun b _ hc => ?_, fun _ _ _ => rfl, Nat.le_refl _⟩
        · have hc' : col2 b = some ([d] ++ (i :: q)) := hc
          rw [reCol_own _ _ _ _ hc']
          have ho' : ownAt (.slice false s) (i :: q) (.ow m) = true := ho
          unfold lessF
          rw [if_pos ho']; rfl
        · have hc' : col2 b = some ([d] ++ (i :: q)) := hc
          rw [reCol_own _ _ _ _ hc']
          have ho' : ¬ (ownAt (.slice false s) (i :: q) (.ow m) = true) := by
            have : ownAt (.slice false s) (i :: q) (.ow m) = false := ho
            rw [this]; simp
          unfold lessF
          rw [if_neg ho']
        · rw [reCol_quiet _ _ (by simp) (.inr hc)]; exact hc
      let L := (parts.toList.map fun x => a.eval x.2).flatMap fun v => v.cells.toList
      have hfill := fill_row (sz := size s) (parts.toList.map fun x => (x.1, a.eval x.2)) 0 [] ((Array.range (n * size s)).map (z.cells[· % z.cells.size]!)).toList
        (fun j x hj => by
          rw [List.getElem?_map] at hj
          cases hp : parts.toList[j]? with
          | none => rw [hp] at hj; cases hj
          | some y => rw [hp] at hj; simp at hj; subst hj; exact hord j y hp)
        (by simp) (by have hps : parts.size = n := by simpa using hn
                      simp [hps]) (fun x hx => by
          simp only [List.mem_map] at hx
          obtain ⟨y, hy, rfl⟩ := hx
          exact g6 _ (List.mem_map.2 ⟨y, hy, rfl⟩))
      have hLe : (parts.toList.map fun x => (x.1, a.eval x.2)).flatMap (fun x => x.2.cells.toList) = L := by simp [L, List.flatMap_map]
      rw [hLe] at hfill
      simp only [List.nil_append] at hfill
      have hLlen : L.length = n * size s := by
        have : ∀ (vs : List Value), (∀ v ∈ vs, v.cells.size = size s) → (vs.flatMap fun v => v.cells.toList).length = vs.length * size s := by
          intro vs
          induction vs with
          | nil => intro _; simp
          | cons v vs ih => intro h; simp only [List.flatMap_cons, List.length_append, ih (fun u hu => h u (by simp [hu])), List.length_cons, Nat.succ_mul]; have := h v (by simp); simp at this ⊢; omega
        have := this _ g6
        simp only [List.length_map] at this
        rw [show L.length = _ from this]
        congr 1
        omega
      have hrun : (execOp a.eval o).run P w = .ok (.value (.slice (some ⟨w.heap.size, 0, none⟩) n n)) (w.alloc (.cells L.toArray e)) := by
        have hsz : ¬ (16777216 < n * size s) := by omega
        simp only [execOp, hop, Instr.buildSlice, Sem.run_bind, run_underlying k1, Result.andThen_ok, Fits.sizeOf k2]
        rw [if_neg (by show ¬ (n * size s > 2 ^ 24); omega)]
        by_cases h0 : n * size s = 0
        · have hL0 : L = [] := List.length_eq_zero_iff.1 (by omega)
          have hp0 : parts.toList = [] := by
            have : n = 0 := by
              rcases Nat.mul_eq_zero.1 h0 with h | h
              · exact h
              · omega
            exact List.length_eq_zero_iff.1 (by omega)
          have hpa : parts = #[] := by cases parts; simp at hp0; subst hp0; rfl
          simp [h0, hpa, Instr.fill, newRow, hL0, Array.range_zero']
        · simp only [h0, if_false, Sem.run_bind, zeroValue, typeInfo, run_program, Result.andThen_ok, i1, i4, Sem.run_pure]
          have hf' : Instr.fill (fun i => some (i * size s, size s)) (Array.map (fun x => z.cells[x % z.cells.size]!) (Array.range (n * size s))) (parts.map fun x => (x.1, a.eval x.2)).toList = some L.toArray := by
            rw [Array.toArray_toList] at hfill
            rw [Array.toList_map]
            exact hfill
          rw [hf']
          simp [newRow]
      let col3 := reCol col2 (lessF (.slice false s) (.ow m) [d]) [d]
      have G := grown_alloc w col3 [d] (.cells L.toArray e)
      have I4 := I3.grow G
      have hlen : (l.map (·.2)).length = n := by rw [List.length_map, g2, hcl]; omega
      suffices hrep : Rep P (.slice false s) (w.alloc (.cells L.toArray e)) (colNew w col3 [d]) none [d] (.ow m) (l.map (·.2)) [.slice (some ⟨w.heap.size, 0, none⟩) n n] by
        exact op_value hrun (hG _ _ _ ⟨colNew w col3 [d], by rw [hd]; exact I4.put (y := .val (.slice false s) (.ow m) (l.map (·.2))) ⟨_, hrep, rfl⟩⟩ g1)
      refine ⟨some ⟨w.heap.size, 0, none⟩, n, by rw [hlen], by rw [hlen]; exact Nat.le_refl _, fun h => by simp at h, fun h => by simp at h, fun ad had => ?_⟩
      injection had with had
      subst had
      refine ⟨fun _ => rfl, fun _ => ⟨colNew_new w col3 [d], OwnB_new w _ e (by show 0 + n * size s ≤ L.length; omega)⟩, fun h => by simp [isOw] at h, fun i x hi => ?_⟩
      rw [List.getElem?_map] at hi
      cases hli : l[i]? with
      | none => rw [hli] at hi; cases hi
      | some y =>
        rw [hli] at hi
        simp at hi
        subst hi
        obtain ⟨ds, q1, q2⟩ := g5.at_ i y.1 y.2 hli
        simp only [Nat.zero_add] at q1
        refine ⟨ds, At_new w _ e (fun q v hq => ?_), ?_⟩
        · have := q2 q v hq
          simpa using this
        · exact (hel i y.1 y.2 ds (g4 y (List.mem_of_getElem? hli)) q1).grow G
    · cases he
end
end Go.Ev

noncomputable section
namespace Go.Ev
variable {P : Program}
def newC : (s : S) → List Nat → List Value → List Value → List Value
  | _, [], _, ns => ns
  | .agg s, _ :: p, cs, ns => newC s p cs ns
  | .pair a _, 0 :: p, cs, ns => newC a p (cs.take (size a)) ns ++ cs.drop (size a)
  | .pair a b, (_ + 1) :: p, cs, ns => cs.take (size a) ++ newC b p (cs.drop (size a)) ns
  | _, _ :: _, cs, _ => cs
theorem newC_crosses : ∀ (s : S) (p : List Nat) (cs ns : List Value), crosses s p = true → newC s p cs ns = cs := by
  intro s
  induction s with
  | agg s ih => intro p cs ns h; cases p with | nil => simp [crosses] at h | cons i p => exact ih p cs ns h
  | pair a b iha ihb =>
    intro p cs ns h
    cases p with
    | nil => simp [crosses] at h
    | cons i p => cases i with
      | zero => show newC a p _ ns ++ _ = cs; rw [iha p _ ns h, List.take_append_drop]
      | succ i => show _ ++ newC b p _ ns = cs; rw [ihb p _ ns h, List.take_append_drop]
  | _ => intro p cs ns h; cases p <;> first | rfl | simp [crosses] at h
def okPath : S → List Nat → Prop
  | _, [] => True
  | .slice _ s, _ :: p => okPath s p
  | .agg s, _ :: p => okPath s p
  | .ptr s, _ :: p => okPath s p
  | .pair a _, 0 :: p => okPath a p
  | .pair _ b, (_ + 1) :: p => okPath b p
  | _, _ :: _ => False
theorem newC_len : ∀ (s : S) (p : List Nat) {cs ns : List Value}, cs.length = size s → ns.length = size (subS s p) → okPath s p → (newC s p cs ns).length = size s := by
  intro s
  induction s with
  | agg s ih => intro p cs ns h h' ok; cases p with | nil => exact h' | cons i p => exact ih p h h' ok
  | pair a b iha ihb =>
    intro p cs ns h h' ok
    cases p with
    | nil => exact h'
    | cons i p => cases i with
      | zero =>
        have := iha p (cs := cs.take (size a)) (ns := ns) (by rw [List.length_take, h]; simp only [size]; omega) h' ok
        show (newC a p _ ns ++ _).length = _
        rw [List.length_append, this, List.length_drop, h]; simp only [size]; omega
      | succ i =>
        have := ihb p (cs := cs.drop (size a)) (ns := ns) (by rw [List.length_drop, h]; simp only [size]; omega) h' ok
        show (_ ++ newC b p _ ns).length = _
        rw [List.length_append, this, List.length_take, h]; simp only [size]; omega
  | _ => intro p cs ns h h' ok; cases p with
    | nil => first | exact h' | (rw [subS_nil] at h'; exact h')
    | cons i p => first | exact h | exact absurd ok id
structure Wr (w w' : World) (ad : Addr) (ns : List Value) : Prop where
  sz : w'.heap.size = w.heap.size
  other : ∀ b, b ≠ ad.block → w'.heap[b]? = w.heap[b]?
  own : ∀ n, OwnB w ad.block n → OwnB w' ad.block n
  inn : At w' ad.block ad.off ns
  out : ∀ o, (o < ad.off ∨ ad.off + ns.length ≤ o) → w'.cell? ⟨ad.block, o, none⟩ = w.cell? ⟨ad.block, o, none⟩
  same : Out w w'
theorem okP_okPath : ∀ (s : S) (p : List Nat) {x : El s}, okP s p x → okPath s p := by
  intro s
  induction s with
  | agg s ih => intro p x h; cases p with | nil => trivial | cons i p => exact ih p h.2
  | ptr s ih => intro p x h; cases p with | nil => trivial | cons i p => exact ih p h.2
  | slice nl s ih => intro p x h; cases p with | nil => trivial | cons i p => obtain ⟨y, _, h⟩ := h; exact ih p h
  | pair a b iha ihb =>
    intro p x h
    cases p with
    | nil => trivial
    | cons i p => match i with
      | 0 => exact iha p h
      | 1 => exact ihb p h
      | _ + 2 => exact absurd h id
  | _ => intro p x h; have : p = [] := h; subst this; trivial
theorem Nav.pos : ∀ (s : S) (p : List Nat) {w : World} {cs cs' : List Value} {oa oa' : Option Addr}, Nav w s p cs oa cs' oa' → crosses s p = false → cs.length = size s →
    ∃ k, k + size (subS s p) ≤ size s ∧ (∀ a0, oa = some a0 → a0.spot = none → oa' = some ⟨a0.block, a0.off + k, none⟩) ∧ ∀ ns : List Value, ns.length = size (subS s p) → newC s p cs ns = cs.take k ++ ns ++ cs.drop (k + ns.length) := by
  have base : ∀ (s : S) {w : World} {cs cs' : List Value} {oa oa' : Option Addr}, Nav w s [] cs oa cs' oa' → cs.length = size s →
    ∃ k, k + size (subS s []) ≤ size s ∧ (∀ a0, oa = some a0 → a0.spot = none → oa' = some ⟨a0.block, a0.off + k, none⟩) ∧ ∀ ns : List Value, ns.length = size (subS s []) → newC s [] cs ns = cs.take k ++ ns ++ cs.drop (k + ns.length) := by
    intro s w cs cs' oa oa' h hl
    obtain ⟨rfl, rfl⟩ := Nav_nil' h
    rw [subS_nil]
    refine ⟨0, by omega, fun a0 e hs => by rw [e]; simp [addr_eta hs], fun ns hn => ?_⟩
    have : newC s [] cs' ns = ns := by cases s <;> rfl
    rw [this]; simp [List.drop_eq_nil_of_le (show cs'.length ≤ ns.length by omega)]
  intro s
  induction s with
  | agg s ih =>
    intro p w cs cs' oa oa' h hc hl
    cases p with
    | nil => exact base _ h hl
    | cons i p => exact ih p h.2 hc hl
  | pair a b iha ihb =>
    intro p w cs cs' oa oa' h hc hl
    cases p with
    | nil => exact base _ h hl
    | cons i p =>
      obtain ⟨c1, c2, e, l1, h⟩ := h
      subst e
      have l2 : c2.length = size b := by simp only [List.length_append, size] at hl; omega
      match i with
      | 0 =>
        obtain ⟨k, k1, k2, k3⟩ := iha p h hc l1
        refine ⟨k, by have e : subS (.pair a b) (0 :: p) = subS a p := rfl; rw [e]; simp only [size]; omega, k2, fun ns hn => ?_⟩
        show newC a p ((c1 ++ c2).take (size a)) ns ++ (c1 ++ c2).drop (size a) = _
        have hn : ns.length = size (subS a p) := hn
        rw [← l1, List.take_left, List.drop_left, k3 ns hn]
        rw [List.take_append_of_le_length (by omega), List.drop_append_of_le_length (by omega)]
        simp
      | 1 =>
        obtain ⟨k, k1, k2, k3⟩ := ihb p h hc l2
        refine ⟨size a + k, by have e : subS (.pair a b) (1 :: p) = subS b p := rfl; rw [e]; simp only [size]; omega, fun a0 e hs => ?_, fun ns hn => ?_⟩
        · rw [k2 ⟨a0.block, a0.off + size a, none⟩ (by rw [e]; rfl) rfl]
          simp only [Option.some.injEq, Addr.mk.injEq, true_and, and_true]
          omega
        · show (c1 ++ c2).take (size a) ++ newC b p ((c1 ++ c2).drop (size a)) ns = _
          have hn : ns.length = size (subS b p) := hn
          rw [← l1, List.take_left, List.drop_left, k3 ns hn]
          have := seg c1 c2 ns k
          rw [show c1.length + k + ns.length = c1.length + k + ns.length from rfl] at this
          rw [← this]
      | _ + 2 => exact absurd h id
  | slice nl s _ => intro p w cs cs' oa oa' h hc hl; cases p with | nil => exact base _ h hl | cons i p => simp [crosses] at hc
  | ptr s _ => intro p w cs cs' oa oa' h hc hl; cases p with | nil => exact base _ h hl | cons i p => simp [crosses] at hc
  | _ => intro p w cs cs' oa oa' h hc hl; have hp := h.1; subst hp; exact base _ h hl
theorem Wr.loc {w w' : World} {ad : Addr} {ns : List Value} (W : Wr w w' ad ns) {s : S} {p : List Nat} {cs cs' : List Value} {a0 : Addr} (hn : Nav w s p cs (some a0) cs' (some ad)) (hs : a0.spot = none) (hl : cs.length = size s) (hnl : ns.length = size (subS s p))
    (hat : At w a0.block a0.off cs) (hne : crosses s p = true → a0.block ≠ ad.block) : At w' a0.block a0.off (newC s p cs ns) := by
  cases hc : crosses s p
  · obtain ⟨k, k1, k2, k3⟩ := hn.pos s p hc hl
    have e := k2 a0 rfl hs
    injection e with e
    rw [k3 ns hnl]
    intro j v hj
    have hb : ad.block = a0.block := by rw [e]
    have ho : ad.off = a0.off + k := by rw [e]
    rcases Nat.lt_or_ge j k with h1 | h1
    · rw [List.append_assoc, List.getElem?_append_left (by rw [List.length_take]; omega), List.getElem?_take_of_lt h1] at hj
      have := W.out (a0.off + j) (.inl (by omega))
      rw [hb] at this
      rw [this]
      exact hat j v hj
    · rcases Nat.lt_or_ge j (k + ns.length) with h2 | h2
      · rw [List.append_assoc, List.getElem?_append_right (by rw [List.length_take]; omega), List.getElem?_append_left (by rw [List.length_take]; omega)] at hj
        have := W.inn (j - k) v (by rw [List.length_take] at hj; rw [show min k cs.length = k by omega] at hj; exact hj)
        rw [hb, ho, show a0.off + k + (j - k) = a0.off + j by omega] at this
        exact this
      · rw [List.getElem?_append_right (by rw [List.length_append, List.length_take]; omega), List.getElem?_drop] at hj
        have := W.out (a0.off + j) (.inr (by omega))
        rw [hb] at this
        rw [this]
        refine hat j v ?_
        rw [List.length_append, List.length_take, show min k cs.length = k by omega, show k + ns.length + (j - (k + ns.length)) = j by omega] at hj
        exact hj
  · rw [newC_crosses s p cs ns hc]
    exact hat.frame (W.other _ (hne hc))
theorem innerOw_crosses : ∀ (s : S) (p : List Nat) (m : M), innerOw s p m = true → crosses s p = true := by
  intro s
  induction s with
  | agg s ih => intro p m h; cases p with | nil => simp [innerOw] at h | cons i p => exact ih p _ h
  | pair a b iha ihb => intro p m h; cases p with
    | nil => simp [innerOw] at h
    | cons i p => cases i with | zero => exact iha p _ h | succ i => exact ihb p _ h
  | slice nl s ih => intro p m h; cases p with | nil => simp [innerOw] at h | cons i p => rfl
  | ptr s ih => intro p m h; cases p with | nil => simp [innerOw] at h | cons i p => rfl
  | _ => intro p m h; cases p <;> simp [innerOw] at h
theorem Rep.inner : ∀ (s : S) (p : List Nat) {w : World} {col : Col} {h : Option (List Nat)} {pth : List Nat} {m : M} {x : El s} {cs cs' : List Value} {oa : Option Addr} {ad : Addr},
    Rep P s w col h pth m x cs → offH h p → Nav w s p cs oa cs' (some ad) → innerOw s p m = true → ∃ q0 q1, p = q0 ++ q1 ∧ q1 ≠ [] ∧ col ad.block = some (pth ++ q0) ∧ ownAt s q0 m = true ∧ OwnB w ad.block (ad.off + size (subS s p)) := by
  intro s
  induction s with
  | agg s ih =>
    intro p w col h pth m x cs cs' oa ad H off hn hi
    cases p with
    | nil => simp [innerOw] at hi
    | cons i p =>
      obtain ⟨rfl, hn⟩ := hn
      obtain ⟨q0, q1, e, h1, h2, h3, h4⟩ := ih p (hole.get (show hole h cs (size s) (Rep P s w col (subH h 0) (pth ++ [0]) (agM m) x cs) from H) off.1) off.2 hn hi
      exact ⟨0 :: q0, q1, by rw [e]; rfl, h1, by rw [h2, List.append_assoc]; rfl, h3, h4⟩
  | pair a b iha ihb =>
    intro p w col h pth m x cs cs' oa ad H off hn hi
    cases p with
    | nil => simp [innerOw] at hi
    | cons i p =>
      obtain ⟨c1, c2, e, H1, H2⟩ := hole.get (show hole h cs (size a + size b) (∃ c1 c2, cs = c1 ++ c2 ∧ Rep P a w col (subH h 0) (pth ++ [0]) (prA m) x.1 c1 ∧ Rep P b w col (subH h 1) (pth ++ [1]) (prB m) x.2 c2) from H) off.1
      obtain ⟨d1, d2, e', l1, hn⟩ := hn
      have := List.append_inj (e.symm.trans e') (H1.len.trans l1.symm)
      obtain ⟨rfl, rfl⟩ := this
      match i with
      | 0 =>
        obtain ⟨q0, q1, e, h1, h2, h3, h4⟩ := iha p H1 off.2 hn hi
        exact ⟨0 :: q0, q1, by rw [e]; rfl, h1, by rw [h2, List.append_assoc]; rfl, h3, h4⟩
      | 1 =>
        obtain ⟨q0, q1, e, h1, h2, h3, h4⟩ := ihb p H2 off.2 hn hi
        exact ⟨1 :: q0, q1, by rw [e]; rfl, h1, by rw [h2, List.append_assoc]; rfl, h3, h4⟩
      | _ + 2 => exact absurd hn id
  | ptr s ih =>
    intro p w col h pth m x cs cs' oa ad H off hn hi
    cases p with
    | nil => simp [innerOw] at hi
    | cons i p =>
      obtain ⟨b, ds, e, hs, ho, hns, ha, H'⟩ := hole.get (show hole h cs 1 (∃ ad ds, cs = [.pointer (some ad)] ∧ ad.spot = none ∧
        (isOw m = true → col ad.block = some pth ∧ OwnB w ad.block (ad.off + size s)) ∧
        (isOw m = false → col ad.block = some [] ∧ ad.block < w.heap.size) ∧
        At w ad.block ad.off ds ∧ Rep P s w col (subH h 0) (pth ++ [0]) (elemM m) x ds) from H) off.1
      obtain ⟨rfl, b', ds', e', hs', l, ha', hn⟩ := hn
      rw [e] at e'
      simp at e'
      subst e'
      have := ha.unique ha' (H'.len.trans l.symm)
      subst this
      have hi : bif3 (crosses s p) (innerOw s p (elemM m)) (isOw m) = true := hi
      cases hc : crosses s p
      · rw [hc] at hi
        obtain ⟨k, k1, k2, _⟩ := hn.pos s p hc l
        have e := k2 b rfl hs
        injection e with e
        obtain ⟨arr, t, o1, o2⟩ := (ho hi).2
        refine ⟨[], 0 :: p, rfl, by simp, by rw [e]; simpa using (ho hi).1, hi, ?_⟩
        rw [e]
        exact ⟨arr, t, o1, by have e2 : subS (.ptr s) (0 :: p) = subS s p := rfl; rw [e2]; simp only; omega⟩
      · rw [hc] at hi
        obtain ⟨q0, q1, e, h1, h2, h3, h4⟩ := ih p H' off.2 hn hi
        exact ⟨0 :: q0, q1, by rw [e]; rfl, h1, by rw [h2, List.append_assoc]; rfl, h3, h4⟩
  | slice nl s ih =>
    intro p w col h pth m xs cs cs' oa ad H off hn hi
    cases p with
    | nil => simp [innerOw] at hi
    | cons i p =>
      obtain ⟨b, c, e, hlen, _, hnone, H⟩ := hole.get (show hole h cs 1 (∃ a c, cs = [.slice a xs.length c] ∧ xs.length ≤ c ∧ (nl = true → xs = [] → a = none) ∧
        (a = none → xs = [] ∧ c = 0) ∧
        ∀ ad, a = some ad → (c ≠ 0 ∨ isOw m = true → ad.spot = none) ∧
        (isOw m = true → col ad.block = some pth ∧ OwnB w ad.block (ad.off + c * size s)) ∧
        (isOw m = false → xs = [] ∨ (col ad.block = some [] ∧ ad.block < w.heap.size)) ∧
        ∀ i x, xs[i]? = some x → ∃ ds, At w ad.block (ad.off + i * size s) ds ∧ Rep P s w col (subH h i) (pth ++ [i]) (elemM m) x ds) from H) off.1
      obtain ⟨b', n', c', ds', e', hin, hs', l, ha', hn⟩ := hn
      rw [e] at e'
      simp at e'
      obtain ⟨rfl, rfl, rfl⟩ := e'
      obtain ⟨hs, ho, _, hx⟩ := H b' rfl
      obtain ⟨ds, ha, H'⟩ := hx i _ (List.getElem?_eq_getElem hin)
      have := ha.unique ha' (H'.len.trans l.symm)
      subst this
      have hi : bif3 (crosses s p) (innerOw s p (elemM m)) (isOw m) = true := hi
      cases hc : crosses s p
      · rw [hc] at hi
        obtain ⟨k, k1, k2, _⟩ := hn.pos s p hc l
        have e := k2 _ rfl rfl
        injection e with e
        obtain ⟨arr, t, o1, o2⟩ := (ho hi).2
        refine ⟨[], i :: p, rfl, by simp, by rw [e]; simpa using (ho hi).1, hi, ?_⟩
        rw [e]
        refine ⟨arr, t, o1, ?_⟩
        have e2 : subS (.slice nl s) (i :: p) = subS s p := rfl
        rw [e2]
        have h5 : (i + 1) * size s ≤ c * size s := Nat.mul_le_mul_right _ (by omega)
        rw [Nat.succ_mul] at h5
        simp only
        omega
      · rw [hc] at hi
        obtain ⟨q0, q1, e, h1, h2, h3, h4⟩ := ih p H' off.2 hn hi
        exact ⟨i :: q0, q1, by rw [e]; rfl, h1, by rw [h2, List.append_assoc]; rfl, h3, h4⟩
  | _ => intro p w col h pth m x cs cs' oa ad H off hn hi; obtain ⟨rfl, _⟩ := hn; simp [innerOw] at hi
end Go.Ev

noncomputable section
namespace Go.Ev
variable {P : Program}
structure Sto (s : S) (p : List Nat) (w w' : World) (col col' : Col) (pth : List Nat) (m mT : M) (B : Nat) : Prop where
  keep : ∀ b q, b < w.heap.size → col b = some (pth ++ q) → ownAt s q mT = true → (∀ q', q ≠ p ++ q') → col' b = some (pth ++ q)
  free : ∀ b q, b < w.heap.size → col b = some (pth ++ q) → ownAt s q m = true → ownAt s q mT = false → (∀ q', q ≠ p ++ q') → col' b = some []
  nil : ∀ b, b < w.heap.size → col b = some [] → col' b = some []
  own : ∃ t, col B = some t ∧ t ≠ [] ∧ ∀ q, t = pth ++ q → ∃ q1, p = q ++ q1 ∧ q1 ≠ []
theorem Sto.step {s s1 : S} {i : Nat} {p : List Nat} {w w' : World} {col col' : Col} {pth : List Nat} {m mT m1 mT1 : M} {B : Nat} (V : Sto s (i :: p) w w' col col' pth m mT B)
    (ho : ∀ q, ownAt s (i :: q) m = ownAt s1 q m1) (ho' : ∀ q, ownAt s (i :: q) mT = ownAt s1 q mT1) : Sto s1 p w w' col col' (pth ++ [i]) m1 mT1 B := by
  refine ⟨fun b q hb hc h hq => ?_, fun b q hb hc h h' hq => ?_, V.nil, ?_⟩
  · have := V.keep b (i :: q) hb (by simpa using hc) (by rw [ho']; exact h) (fun q' e => hq q' (by simpa using e))
    simpa using this
  · exact V.free b (i :: q) hb (by simpa using hc) (by rw [ho]; exact h) (by rw [ho']; exact h') (fun q' e => hq q' (by simpa using e))
  · obtain ⟨t, h1, h2, h3⟩ := V.own
    refine ⟨t, h1, h2, fun q e => ?_⟩
    obtain ⟨q1, e1, h4⟩ := h3 (i :: q) (by simpa using e)
    exact ⟨q1, by simpa using e1, h4⟩
theorem Sto.sib {s s1 : S} {i j : Nat} {p : List Nat} {w w' : World} {col col' : Col} {pth : List Nat} {m mT m1 mT1 : M} {B : Nat} (V : Sto s (i :: p) w w' col col' pth m mT B)
    (hw : ∀ b, b ≠ B → w'.heap[b]? = w.heap[b]?) (hz : w'.heap.size = w.heap.size) (hij : j ≠ i) (hle : le mT1 m1 = true)
    (ho : ∀ q, ownAt s (j :: q) m = ownAt s1 q m1) (ho' : ∀ q, ownAt s (j :: q) mT = ownAt s1 q mT1) : Moves s1 w w' col col' (pth ++ [j]) (pth ++ [j]) m1 mT1 := by
  refine ⟨hle, fun b q hb hc h => ?_, fun b q hb hc h h' => ?_, V.nil, fun b hb h => hw b ?_, Nat.le_of_eq hz.symm⟩
  · have := V.keep b (j :: q) hb (by simpa using hc) (by rw [ho']; exact h) (fun q' e => by simp at e; exact hij e.1)
    simpa using this
  · exact V.free b (j :: q) hb (by simpa using hc) (by rw [ho]; exact h) (by rw [ho']; exact h') (fun q' e => by simp at e; exact hij e.1)
  · rintro rfl
    obtain ⟨t, h1, h2, h3⟩ := V.own
    rcases h with h | ⟨q, hc, _⟩
    · rw [h] at h1; simp at h1; exact h2 h1
    · rw [hc] at h1
      simp at h1
      obtain ⟨q1, e1, _⟩ := h3 (j :: q) h1.symm
      simp at e1
      exact hij e1.1.symm
theorem noShorter_self : ∀ p : List Nat, noShorter p p = true
  | [] => rfl
  | _ :: p => noShorter_self p
theorem offH_self {h : Option (List Nat)} {p : List Nat} (hh : h = none ∨ h = some p) : offH h p := by
  rcases hh with rfl | rfl
  · exact offH_none _
  · exact offH_len (noShorter_self p)
theorem Rep.store : ∀ (s : S) (p : List Nat) {w w' : World} {col col' : Col} {h : Option (List Nat)} {pth : List Nat} {m mT my : M} {x : El s} {y : El (subS s p)} {cs cs' ns : List Value} {oa : Option Addr} {ad : Addr},
    Rep P s w col h pth m x cs → okP s p x → (h = none ∨ h = some p) → Nav w s p cs oa cs' (some ad) → (∀ a0, oa = some a0 → a0.spot = none) → Wr w w' ad ns → ns.length = size (subS s p) →
    (crosses s p = true → innerOw s p m = true) → le mT (setM s p m my) = true → Sto s p w w' col col' pth m mT ad.block →
    Rep P (subS s p) w' col' none (pth ++ p) (subM s p mT) y ns → Rep P s w' col' none pth mT (setP s p x y) (newC s p cs ns) := by
  have base : ∀ (s : S) {w' : World} {col' : Col} {pth : List Nat} {mT : M} {x : El s} {y : El (subS s [])} {cs ns : List Value},
    Rep P (subS s []) w' col' none (pth ++ []) (subM s [] mT) y ns → Rep P s w' col' none pth mT (setP s [] x y) (newC s [] cs ns) := by
    intro s w' col' pth mT x y cs ns h
    rw [List.append_nil] at h
    cases s <;> exact h
  intro s
  induction s with
  | agg s ih =>
    intro p w w' col col' h pth m mT my x y cs cs' ns oa ad H ok hh hn hsp W hl hi hle V hc
    cases p with
    | nil => exact base _ hc
    | cons i p =>
      obtain ⟨rfl, hn⟩ := hn
      have H1 := hole.get (show hole h cs (size s) (Rep P s w col (subH h 0) (pth ++ [0]) (agM m) x cs) from H) (by rcases hh with rfl | rfl <;> simp)
      have e : pth ++ 0 :: p = pth ++ [0] ++ p := by simp
      rw [e] at hc
      exact ih p H1 ok.2 (by rcases hh with rfl | rfl <;> simp [subH]) hn hsp W hl hi (le_agM hle) (V.step (fun _ => rfl) (fun _ => rfl)) hc
  | pair a b iha ihb =>
    intro p w w' col col' h pth m mT my x y cs cs' ns oa ad H ok hh hn hsp W hl hi hle V hc
    cases p with
    | nil => exact base _ hc
    | cons i p =>
      obtain ⟨c1, c2, e, H1, H2⟩ := hole.get (show hole h cs (size a + size b) (∃ c1 c2, cs = c1 ++ c2 ∧ Rep P a w col (subH h 0) (pth ++ [0]) (prA m) x.1 c1 ∧ Rep P b w col (subH h 1) (pth ++ [1]) (prB m) x.2 c2) from H) (by rcases hh with rfl | rfl <;> simp)
      obtain ⟨d1, d2, e', l1, hn⟩ := hn
      have := List.append_inj (e.symm.trans e') (H1.len.trans l1.symm)
      obtain ⟨rfl, rfl⟩ := this
      have e2 : pth ++ i :: p = pth ++ [i] ++ p := by simp
      rw [e2] at hc
      subst e
      match i with
      | 0 =>
        have hB : subH h 1 = none := by rcases hh with rfl | rfl <;> simp [subH]
        rw [hB] at H2
        have r1 := iha p H1 ok (by rcases hh with rfl | rfl <;> simp [subH]) hn hsp W hl hi (le_prA hle) (V.step (fun _ => rfl) (fun _ => rfl)) hc
        have r2 := H2.re b (V.sib W.other W.sz (j := 1) (by decide) (m1 := prB m) (mT1 := prB mT) (le_prB (b := .pr (setM a p (prA m) my) (prB m)) hle) (fun _ => rfl) (fun _ => rfl))
        refine ⟨newC a p c1 ns, c2, ?_, r1, r2⟩
        show newC a p ((c1 ++ c2).take (size a)) ns ++ (c1 ++ c2).drop (size a) = _
        rw [← l1, List.take_left, List.drop_left]
      | 1 =>
        have hA : subH h 0 = none := by rcases hh with rfl | rfl <;> simp [subH]
        rw [hA] at H1
        have r2 := ihb p H2 ok (by rcases hh with rfl | rfl <;> simp [subH]) hn (fun a0 e => by
          cases oa with
          | none => simp at e
          | some a1 => simp at e; rw [← e]) W hl hi (le_prB hle) (V.step (fun _ => rfl) (fun _ => rfl)) hc
        have r1 := H1.re a (V.sib W.other W.sz (j := 0) (by decide) (m1 := prA m) (mT1 := prA mT) (le_prA (b := .pr (prA m) (setM b p (prB m) my)) hle) (fun _ => rfl) (fun _ => rfl))
        refine ⟨c1, newC b p c2 ns, ?_, r1, r2⟩
        show (c1 ++ c2).take (size a) ++ newC b p ((c1 ++ c2).drop (size a)) ns = _
        rw [← l1, List.take_left, List.drop_left]
      | _ + 2 => exact absurd hn id
  | ptr s ih =>
    intro p w w' col col' h pth m mT my x y cs cs' ns oa ad H ok hh hn hsp W hl hi hle V hc
    cases p with
    | nil => exact base _ hc
    | cons i p =>
      obtain ⟨b, ds, e, hs, ho, hns, ha, H'⟩ := hole.get (show hole h cs 1 (∃ ad ds, cs = [.pointer (some ad)] ∧ ad.spot = none ∧
        (isOw m = true → col ad.block = some pth ∧ OwnB w ad.block (ad.off + size s)) ∧
        (isOw m = false → col ad.block = some [] ∧ ad.block < w.heap.size) ∧
        At w ad.block ad.off ds ∧ Rep P s w col (subH h 0) (pth ++ [0]) (elemM m) x ds) from H) (by rcases hh with rfl | rfl <;> simp)
      obtain ⟨rfl, b', ds', e', hs', l, ha', hn⟩ := hn
      rw [e] at e'
      simp at e'
      subst e'
      have := ha.unique ha' (H'.len.trans l.symm)
      subst this
      have hi : bif3 (crosses s p) (innerOw s p (elemM m)) (isOw m) = true := hi rfl
      have e2 : pth ++ 0 :: p = pth ++ [0] ++ p := by simp
      rw [e2] at hc
      have hle' : le mT (bif3 (isOw m) (.ow (setM s p (elemM m) my)) .sh) = true := hle
      have hleE : le (elemM mT) (setM s p (elemM m) my) = true := by
        cases hm : isOw m <;> rw [hm] at hle'
        · exact noOwn_le (noOwn_elemM (le_noOwn hle' rfl))
        · exact le_elemM hle'
      have hmm : isOw mT = true → isOw m = true := fun h => by
        cases hm : isOw m
        · rw [hm] at hle'; rw [noOwn_isOw (le_noOwn hle' rfl)] at h; cases h
        · rfl
      have hoff : subH h 0 = none ∨ subH h 0 = some p := by rcases hh with rfl | rfl <;> simp [subH]
      have r := ih p H' ok.2 hoff hn (fun a0 e => by injection e with e; rw [← e]; exact hs) W hl (fun hc => by rw [hc] at hi; exact hi) hleE (V.step (fun _ => rfl) (fun _ => rfl)) hc
      have hne : crosses s p = true → b.block ≠ ad.block := fun hc e => by
        rw [hc] at hi
        obtain ⟨q0, q1, e1, h1, h2, _⟩ := Rep.inner s p H' (offH_self hoff) hn hi
        rw [← e] at h2
        cases hm : isOw m
        · rw [(hns hm).1] at h2; simp at h2
        · rw [(ho hm).1] at h2; simp at h2
      have hat := W.loc hn hs l hl ha hne
      have hblk : ∀ n, OwnB w b.block n → OwnB w' b.block n := fun n h => by
        rcases Nat.decEq b.block ad.block with h' | h'
        · exact h.frame (W.other _ h')
        · rw [h'] at h ⊢; exact W.own n h
      have hlt : b.block < w.heap.size := by
        cases hm : isOw m
        · exact (hns hm).2
        · exact (ho hm).2.lt
      refine ⟨b, newC s p ds ns, e, hs, fun hm' => ?_, fun hm' => ⟨?_, by rw [W.sz]; exact hlt⟩, hat, r⟩
      · have hm := hmm hm'
        exact ⟨by simpa using V.keep b.block [] hlt (by simpa using (ho hm).1) hm' (fun q' e => by simp at e), hblk _ (ho hm).2⟩
      · cases hm : isOw m
        · exact V.nil _ hlt (hns hm).1
        · exact V.free _ [] hlt (by simpa using (ho hm).1) hm hm' (fun q' e => by simp at e)
  | slice nl s ih =>
    intro p w w' col col' h pth m mT my xs y cs cs' ns oa ad H ok hh hn hsp W hl hi hle V hc
    cases p with
    | nil => exact base _ hc
    | cons i p =>
      obtain ⟨ab, c, e, hlen, hnl, hnone, H⟩ := hole.get (show hole h cs 1 (∃ a c, cs = [.slice a xs.length c] ∧ xs.length ≤ c ∧ (nl = true → xs = [] → a = none) ∧
        (a = none → xs = [] ∧ c = 0) ∧
        ∀ ad, a = some ad → (c ≠ 0 ∨ isOw m = true → ad.spot = none) ∧
        (isOw m = true → col ad.block = some pth ∧ OwnB w ad.block (ad.off + c * size s)) ∧
        (isOw m = false → xs = [] ∨ (col ad.block = some [] ∧ ad.block < w.heap.size)) ∧
        ∀ i x, xs[i]? = some x → ∃ ds, At w ad.block (ad.off + i * size s) ds ∧ Rep P s w col (subH h i) (pth ++ [i]) (elemM m) x ds) from H) (by rcases hh with rfl | rfl <;> simp)
      obtain ⟨b, n', c', ds', e', hin, hs', l, ha', hn⟩ := hn
      rw [e] at e'
      simp at e'
      obtain ⟨rfl, rfl, rfl⟩ := e'
      obtain ⟨z, hz, ok⟩ := ok
      obtain ⟨hs, ho, hns, hx⟩ := H b rfl
      obtain ⟨ds, ha, H'⟩ := hx i z hz
      have := ha.unique ha' (H'.len.trans l.symm)
      subst this
      have hi : bif3 (crosses s p) (innerOw s p (elemM m)) (isOw m) = true := hi rfl
      have e2 : pth ++ i :: p = pth ++ [i] ++ p := by simp
      rw [e2] at hc
      have hle' : le mT (bif3 (isOw m) (.ow (meet (elemM m) (setM s p (elemM m) my))) .sh) = true := hle
      have hleE : le (elemM mT) (meet (elemM m) (setM s p (elemM m) my)) = true := by
        cases hm : isOw m <;> rw [hm] at hle'
        · exact noOwn_le (noOwn_elemM (le_noOwn hle' rfl))
        · exact le_elemM hle'
      have hmm : isOw mT = true → isOw m = true := fun h => by
        cases hm : isOw m
        · rw [hm] at hle'; rw [noOwn_isOw (le_noOwn hle' rfl)] at h; cases h
        · rfl
      have hoff : subH h i = none ∨ subH h i = some p := by rcases hh with rfl | rfl <;> simp [subH]
      have hsp' : ∀ a0, some (⟨b.block, b.off + i * size s, none⟩ : Addr) = some a0 → a0.spot = none := fun a0 e => by injection e with e; rw [← e]
      have r := ih p (y := y) H' ok hoff hn hsp' W hl (fun hc => by rw [hc] at hi; exact hi) (le_trans hleE (meet_le_right _ _)) (V.step (fun _ => rfl) (fun _ => rfl)) hc
      have hne : crosses s p = true → b.block ≠ ad.block := fun hc e => by
        rw [hc] at hi
        obtain ⟨q0, q1, e1, h1, h2, _⟩ := Rep.inner s p H' (offH_self hoff) hn hi
        rw [← e] at h2
        cases hm : isOw m
        · rcases hns hm with h | h
          · rw [h] at hz; simp at hz
          · rw [h.1] at h2; simp at h2
        · rw [(ho hm).1] at h2; simp at h2
      have hat := W.loc (a0 := ⟨b.block, b.off + i * size s, none⟩) hn rfl l hl ha hne
      have hlt : b.block < w.heap.size := by
        cases hm : isOw m
        · rcases hns hm with h | h
          · rw [h] at hz; simp at hz
          · exact h.2
        · exact (ho hm).2.lt
      have hblk : ∀ n, OwnB w b.block n → OwnB w' b.block n := fun n h => by
        rcases Nat.decEq b.block ad.block with h' | h'
        · exact h.frame (W.other _ h')
        · rw [h'] at h ⊢; exact W.own n h
      have hset : setP (.slice nl s) (i :: p) xs y = xs.set i (setP s p (xs.getD i (zero s)) y) := rfl
      rw [getD_some hz] at hset
      rw [hset]
      refine ⟨some b, c, by rw [List.length_set]; exact e, by rw [List.length_set]; exact hlen, (fun h1 h2 => ?_), fun h1 => (by cases h1), fun ad' e' => ?_⟩
      · have : xs = [] := by
          have := congrArg List.length h2
          simpa using this
        rw [this] at hz; simp at hz
      · injection e' with e'
        subst e'
        refine ⟨fun h => hs (h.imp id hmm), fun hm' => ?_, fun hm' => .inr ⟨?_, by rw [W.sz]; exact hlt⟩, fun j x hj => ?_⟩
        · have hm := hmm hm'
          exact ⟨by simpa using V.keep b.block [] hlt (by simpa using (ho hm).1) hm' (fun q' e => by simp at e), hblk _ (ho hm).2⟩
        · cases hm : isOw m
          · rcases hns hm with h | h
            · rw [h] at hz; simp at hz
            · exact V.nil _ hlt h.1
          · exact V.free _ [] hlt (by simpa using (ho hm).1) hm hm' (fun q' e => by simp at e)
        · rcases Nat.decEq j i with hji | hji
          · rw [List.getElem?_set_ne (fun e => hji e.symm)] at hj
            obtain ⟨dj, haj, Hj⟩ := hx j x hj
            have hsn : subH h j = none := by
              rcases hh with rfl | rfl
              · rfl
              · simp [subH, hji]
            rw [hsn] at Hj
            refine ⟨dj, ?_, Hj.re s (V.sib W.other W.sz hji (le_trans hleE (meet_le_left _ _)) (fun _ => rfl) (fun _ => rfl))⟩
            cases hcr : crosses s p
            · obtain ⟨k, k1, k2, _⟩ := hn.pos s p hcr l
              have e := k2 _ rfl rfl
              injection e with e
              have lj : dj.length = size s := Hj.len
              intro q v hq
              have hql : q < dj.length := by
                rcases Nat.lt_or_ge q dj.length with h | h
                · exact h
                · rw [List.getElem?_eq_none h] at hq; cases hq
              have e3 : ad.block = b.block := by rw [e]
              have e4 : ad.off = b.off + i * size s + k := by rw [e]
              have := W.out (b.off + j * size s + q) (by
                have hl' : ns.length = size (subS s p) := hl
                rw [e4, hl']
                rcases Nat.lt_or_gt_of_ne hji with h | h
                · left
                  have : (j + 1) * size s ≤ i * size s := Nat.mul_le_mul_right _ h
                  rw [Nat.succ_mul] at this
                  omega
                · right
                  have : (i + 1) * size s ≤ j * size s := Nat.mul_le_mul_right _ h
                  rw [Nat.succ_mul] at this
                  omega)
              rw [e3] at this
              rw [this]
              exact haj q v hq
            · exact haj.frame (W.other _ (hne hcr))
          · subst hji
            have : j < xs.length := hin
            rw [List.getElem?_set_self this] at hj
            injection hj with hj
            subst hj
            exact ⟨_, hat, r⟩
  | _ =>
    intro p w w' col col' h pth m mT my x y cs cs' ns oa ad H ok hh hn hsp W hl hi hle V hc
    have hp : p = [] := ok
    subst hp
    exact base _ hc
end Go.Ev

noncomputable section
namespace Go.Ev
variable {P : Program}
theorem Nav.stay : ∀ (s : S) (q : List Nat) {w w' : World} {col : Col} {h : Option (List Nat)} {pth : List Nat} {m : M} {x : El s} {cs cs' : List Value} {oa oa' : Option Addr},
    Rep P s w col h pth m x cs → offH h q → Nav w s q cs oa cs' oa' →
    (∀ b, b < w.heap.size → (col b = some [] ∨ ∃ q, col b = some (pth ++ q) ∧ ownAt s q m = true) → w'.heap[b]? = w.heap[b]?) → Nav w' s q cs oa cs' oa' := by
  intro s
  induction s with
  | agg s ih =>
    intro p w w' col h pth m x cs cs' oa oa' H off hn V
    cases p with
    | nil => exact hn
    | cons i p =>
      obtain ⟨rfl, hn⟩ := hn
      refine ⟨rfl, ih p (hole.get (show hole h cs (size s) (Rep P s w col (subH h 0) (pth ++ [0]) (agM m) x cs) from H) off.1) off.2 hn (fun b hb hc => V b hb (hc.imp id fun ⟨q, h1, h2⟩ => ⟨0 :: q, by simpa using h1, h2⟩))⟩
  | pair a b iha ihb =>
    intro p w w' col h pth m x cs cs' oa oa' H off hn V
    cases p with
    | nil => exact hn
    | cons i p =>
      obtain ⟨c1, c2, e, H1, H2⟩ := hole.get (show hole h cs (size a + size b) (∃ c1 c2, cs = c1 ++ c2 ∧ Rep P a w col (subH h 0) (pth ++ [0]) (prA m) x.1 c1 ∧ Rep P b w col (subH h 1) (pth ++ [1]) (prB m) x.2 c2) from H) off.1
      obtain ⟨d1, d2, e', l1, hn⟩ := hn
      have := List.append_inj (e.symm.trans e') (H1.len.trans l1.symm)
      obtain ⟨rfl, rfl⟩ := this
      refine ⟨c1, c2, e', l1, ?_⟩
      match i with
      | 0 => exact iha p H1 off.2 hn (fun b hb hc => V b hb (hc.imp id fun ⟨q, h1, h2⟩ => ⟨0 :: q, by simpa using h1, h2⟩))
      | 1 => exact ihb p H2 off.2 hn (fun b hb hc => V b hb (hc.imp id fun ⟨q, h1, h2⟩ => ⟨1 :: q, by simpa using h1, h2⟩))
      | _ + 2 => exact absurd hn id
  | ptr s ih =>
    intro p w w' col h pth m x cs cs' oa oa' H off hn V
    cases p with
    | nil => exact hn
    | cons i p =>
      obtain ⟨b, ds, e, hs, ho, hns, ha, H'⟩ := hole.get (show hole h cs 1 (∃ ad ds, cs = [.pointer (some ad)] ∧ ad.spot = none ∧
        (isOw m = true → col ad.block = some pth ∧ OwnB w ad.block (ad.off + size s)) ∧
        (isOw m = false → col ad.block = some [] ∧ ad.block < w.heap.size) ∧
        At w ad.block ad.off ds ∧ Rep P s w col (subH h 0) (pth ++ [0]) (elemM m) x ds) from H) off.1
      obtain ⟨rfl, b', ds', e', hs', l, ha', hn⟩ := hn
      rw [e] at e'
      simp at e'
      subst e'
      have := ha.unique ha' (H'.len.trans l.symm)
      subst this
      have hm : w'.heap[b.block]? = w.heap[b.block]? := by
        cases hm : isOw m
        · exact V _ (hns hm).2 (.inl (hns hm).1)
        · exact V _ (ho hm).2.lt (.inr ⟨[], by simpa using (ho hm).1, hm⟩)
      exact ⟨rfl, b, ds, e, hs, l, ha.frame hm, ih p H' off.2 hn (fun b hb hc => V b hb (hc.imp id fun ⟨q, h1, h2⟩ => ⟨0 :: q, by simpa using h1, h2⟩))⟩
  | slice nl s ih =>
    intro p w w' col h pth m xs cs cs' oa oa' H off hn V
    cases p with
    | nil => exact hn
    | cons i p =>
      obtain ⟨ab, c, e, hlen, hnl, hnone, H⟩ := hole.get (show hole h cs 1 (∃ a c, cs = [.slice a xs.length c] ∧ xs.length ≤ c ∧ (nl = true → xs = [] → a = none) ∧
        (a = none → xs = [] ∧ c = 0) ∧
        ∀ ad, a = some ad → (c ≠ 0 ∨ isOw m = true → ad.spot = none) ∧
        (isOw m = true → col ad.block = some pth ∧ OwnB w ad.block (ad.off + c * size s)) ∧
        (isOw m = false → xs = [] ∨ (col ad.block = some [] ∧ ad.block < w.heap.size)) ∧
        ∀ i x, xs[i]? = some x → ∃ ds, At w ad.block (ad.off + i * size s) ds ∧ Rep P s w col (subH h i) (pth ++ [i]) (elemM m) x ds) from H) off.1
      obtain ⟨b', n', c', ds', e', hin, hs', l, ha', hn⟩ := hn
      rw [e] at e'
      simp at e'
      obtain ⟨rfl, rfl, rfl⟩ := e'
      obtain ⟨hs, ho, hns, hx⟩ := H b' rfl
      obtain ⟨ds, ha, H'⟩ := hx i _ (List.getElem?_eq_getElem hin)
      have := ha.unique ha' (H'.len.trans l.symm)
      subst this
      have hm : w'.heap[b'.block]? = w.heap[b'.block]? := by
        cases hm : isOw m
        · rcases hns hm with h | h
          · rw [h] at hin; simp at hin
          · exact V _ h.2 (.inl h.1)
        · exact V _ (ho hm).2.lt (.inr ⟨[], by simpa using (ho hm).1, hm⟩)
      exact ⟨b', _, _, ds, e, hin, hs', l, ha.frame hm, ih p H' off.2 hn (fun b hb hc => V b hb (hc.imp id fun ⟨q, h1, h2⟩ => ⟨i :: q, by simpa using h1, h2⟩))⟩
  | _ => intro p w w' col h pth m x cs cs' oa oa' H off hn V; exact hn
def OwnT (col : Col) (B : Nat) (p pth : List Nat) : Prop := ∃ t, col B = some t ∧ t ≠ [] ∧ ∀ q, t = pth ++ q → ∃ q1, p = q ++ q1 ∧ q1 ≠ []
theorem OwnT.step {col : Col} {B i : Nat} {p pth : List Nat} (V : OwnT col B (i :: p) pth) : OwnT col B p (pth ++ [i]) := by
  obtain ⟨t, h1, h2, h3⟩ := V
  refine ⟨t, h1, h2, fun q e => ?_⟩
  obtain ⟨q1, e1, h4⟩ := h3 (i :: q) (by simpa using e)
  exact ⟨q1, by simpa using e1, h4⟩
theorem OwnT.sib {w w' : World} {col : Col} {B i j : Nat} {p pth : List Nat} {s : S} {m : M} (V : OwnT col B (i :: p) pth) (hw : ∀ b, b ≠ B → w'.heap[b]? = w.heap[b]?) (hij : j ≠ i) :
    ∀ b, b < w.heap.size → (col b = some [] ∨ ∃ q, col b = some (pth ++ [j] ++ q) ∧ ownAt s q m = true) → w'.heap[b]? = w.heap[b]? := by
  intro b hb h
  refine hw b ?_
  rintro rfl
  obtain ⟨t, h1, h2, h3⟩ := V
  rcases h with h | ⟨q, hc, _⟩
  · rw [h] at h1; simp at h1; exact h2 h1
  · rw [hc] at h1
    simp at h1
    obtain ⟨q1, e1, _⟩ := h3 (j :: q) h1.symm
    simp at e1
    exact hij e1.1.symm
theorem isScalar_path : ∀ (s : S) (q : List Nat) {w : World} {cs cs' : List Value} {oa oa' : Option Addr}, Nav w s q cs oa cs' oa' → isScalar s = true → q = [] := by
  intro s q w cs cs' oa oa' h hs
  cases s <;> first | exact h.1 | simp [isScalar] at hs
theorem At.beside {w w' : World} {ad : Addr} {ns : List Value} (W : Wr w w' ad ns) {s : S} {p : List Nat} {ds cs' dj : List Value} {b : Addr} {i j : Nat} (hn : Nav w s p ds (some ⟨b.block, b.off + i * size s, none⟩) cs' (some ad))
    (l : ds.length = size s) (hl : ns.length = size (subS s p)) (hne : crosses s p = true → b.block ≠ ad.block) (hji : j ≠ i) (haj : At w b.block (b.off + j * size s) dj) (lj : dj.length = size s) : At w' b.block (b.off + j * size s) dj := by
  cases hcr : crosses s p
  · obtain ⟨k, k1, k2, _⟩ := hn.pos s p hcr l
    have e := k2 _ rfl rfl
    injection e with e
    intro q v hq
    have hql : q < dj.length := by
      rcases Nat.lt_or_ge q dj.length with h | h
      · exact h
      · rw [List.getElem?_eq_none h] at hq; cases hq
    have e3 : ad.block = b.block := by rw [e]
    have e4 : ad.off = b.off + i * size s + k := by rw [e]
    have := W.out (b.off + j * size s + q) (by
      rw [e4, hl]
      rcases Nat.lt_or_gt_of_ne hji with h | h
      · left
        have : (j + 1) * size s ≤ i * size s := Nat.mul_le_mul_right _ h
        rw [Nat.succ_mul] at this
        omega
      · right
        have : (i + 1) * size s ≤ j * size s := Nat.mul_le_mul_right _ h
        rw [Nat.succ_mul] at this
        omega)
    rw [e3] at this
    rw [this]
    exact haj q v hq
  · exact haj.frame (W.other _ (hne hcr))
theorem Nav.wr : ∀ (s : S) (p q : List Nat) {w w' : World} {col : Col} {h : Option (List Nat)} {pth : List Nat} {m : M} {x : El s} {cs cp cs' ns : List Value} {oa oa' : Option Addr} {ad : Addr},
    Rep P s w col h pth m x cs → okP s p x → (h = none ∨ h = some p) → offH h q → Nav w s p cs oa cp (some ad) → Nav w s q cs oa cs' oa' → (∀ a0, oa = some a0 → a0.spot = none) → Wr w w' ad ns → ns.length = size (subS s p) →
    (crosses s p = true → innerOw s p m = true) → OwnT col ad.block p pth → (mayPre s p q = false ∨ isScalar (subS s p) = true) →
    ∃ cs2, Nav w' s q (newC s p cs ns) oa cs2 oa' ∧ (mayPre s p q = false → (isRow (subS s q) = true ∨ mayPre s q p = false) → cs2 = cs') := by
  have qnil : ∀ (s : S) (p : List Nat) {w w' : World} {cs cs' ns : List Value} {oa oa' : Option Addr}, Nav w s [] cs oa cs' oa' → (p = [] ∨ crosses s p = true ∨ ∃ t, s = .agg t ∨ ∃ u, s = .pair t u) → 
      ∃ cs2, Nav w' s [] (newC s p cs ns) oa cs2 oa' ∧ (mayPre s p [] = false → (isRow (subS s []) = true ∨ mayPre s [] p = false) → cs2 = cs') := by
    intro s p w w' cs cs' ns oa oa' h hp
    obtain ⟨rfl, rfl⟩ := Nav_nil' h
    refine ⟨_, Nav_nil _ _ _ _, fun h1 h2 => ?_⟩
    rcases hp with rfl | hp | ⟨t, rfl | ⟨u, rfl⟩⟩
    · cases s <;> simp [mayPre] at h1
    · exact newC_crosses s p _ _ hp
    · rcases h2 with h2 | h2
      · simp [subS, isRow] at h2
      · cases p <;> simp [mayPre] at h2
    · rcases h2 with h2 | h2
      · simp [subS, isRow] at h2
      · cases p <;> simp [mayPre] at h2
  have pnil : ∀ (s : S) (q : List Nat) {w w' : World} {cs cs' ns : List Value} {oa oa' : Option Addr}, Nav w s q cs oa cs' oa' → (mayPre s [] q = false ∨ isScalar (subS s []) = true) → 
      ∃ cs2, Nav w' s q (newC s [] cs ns) oa cs2 oa' ∧ (mayPre s [] q = false → (isRow (subS s q) = true ∨ mayPre s q [] = false) → cs2 = cs') := by
    intro s q w w' cs cs' ns oa oa' h hp
    have h0 : mayPre s [] q = true := by cases s <;> cases q <;> rfl
    rcases hp with hp | hp
    · rw [h0] at hp; cases hp
    · rw [subS_nil] at hp
      have := isScalar_path s q h hp
      subst this
      obtain ⟨rfl, rfl⟩ := Nav_nil' h
      exact ⟨_, Nav_nil _ _ _ _, fun h1 => by rw [h0] at h1; cases h1⟩
  intro s
  induction s with
  | agg s ih =>
    intro p q w w' col h pth m x cs cp cs' ns oa oa' ad H ok hh offq hn hq hsp W hl hi hB hm
    cases p with
    | nil => exact pnil _ _ hq hm
    | cons i p =>
      cases q with
      | nil => exact qnil _ _ hq (.inr (.inr ⟨_, .inl rfl⟩))
      | cons j q =>
        obtain ⟨rfl, hn⟩ := hn
        obtain ⟨rfl, hq⟩ := hq
        have H1 := hole.get (show hole h cs (size s) (Rep P s w col (subH h 0) (pth ++ [0]) (agM m) x cs) from H) offq.1
        obtain ⟨cs2, h1, h2⟩ := ih p q H1 ok.2 (by rcases hh with rfl | rfl <;> simp [subH]) offq.2 hn hq hsp W hl hi hB.step hm
        exact ⟨cs2, ⟨rfl, h1⟩, h2⟩
  | pair a b iha ihb =>
    intro p q w w' col h pth m x cs cp cs' ns oa oa' ad H ok hh offq hn hq hsp W hl hi hB hm
    cases p with
    | nil => exact pnil _ _ hq hm
    | cons i p =>
      cases q with
      | nil => exact qnil _ _ hq (.inr (.inr ⟨_, .inr ⟨_, rfl⟩⟩))
      | cons j q =>
        obtain ⟨c1, c2, e, H1, H2⟩ := hole.get (show hole h cs (size a + size b) (∃ c1 c2, cs = c1 ++ c2 ∧ Rep P a w col (subH h 0) (pth ++ [0]) (prA m) x.1 c1 ∧ Rep P b w col (subH h 1) (pth ++ [1]) (prB m) x.2 c2) from H) offq.1
        obtain ⟨d1, d2, e', l1, hn⟩ := hn
        have := List.append_inj (e.symm.trans e') (H1.len.trans l1.symm)
        obtain ⟨rfl, rfl⟩ := this
        obtain ⟨d1, d2, e', l1', hq⟩ := hq
        have := List.append_inj (e.symm.trans e') (H1.len.trans l1'.symm)
        obtain ⟨rfl, rfl⟩ := this
        subst e
        have hsp' : ∀ a0, (oa.map fun ad => (⟨ad.block, ad.off + size a, none⟩ : Addr)) = some a0 → a0.spot = none := fun a0 e => by
          cases oa with
          | none => simp at e
          | some a1 => simp at e; rw [← e]
        have e0 : newC (.pair a b) (0 :: p) (c1 ++ c2) ns = newC a p c1 ns ++ c2 := by
          show newC a p ((c1 ++ c2).take (size a)) ns ++ (c1 ++ c2).drop (size a) = _
          rw [← l1, List.take_left, List.drop_left]
        have e1 : newC (.pair a b) (1 :: p) (c1 ++ c2) ns = c1 ++ newC b p c2 ns := by
          show (c1 ++ c2).take (size a) ++ newC b p ((c1 ++ c2).drop (size a)) ns = _
          rw [← l1, List.take_left, List.drop_left]
        match i, j with
        | 0, 0 =>
          obtain ⟨cs2, h1, h2⟩ := iha p q H1 ok (by rcases hh with rfl | rfl <;> simp [subH]) offq.2 hn hq hsp W hl hi hB.step hm
          exact ⟨cs2, ⟨_, _, e0, newC_len a p l1 hl (okP_okPath a p ok), h1⟩, h2⟩
        | 1, 1 =>
          obtain ⟨cs2, h1, h2⟩ := ihb p q H2 ok (by rcases hh with rfl | rfl <;> simp [subH]) offq.2 hn hq hsp' W hl hi hB.step hm
          exact ⟨cs2, ⟨_, _, e1, l1, h1⟩, h2⟩
        | 0, 1 => exact ⟨cs', ⟨_, _, e0, newC_len a p l1 hl (okP_okPath a p ok), hq.stay b q H2 offq.2 (hB.sib W.other (by decide))⟩, fun _ _ => rfl⟩
        | 1, 0 => exact ⟨cs', ⟨_, _, e1, l1, hq.stay a q H1 offq.2 (hB.sib W.other (by decide))⟩, fun _ _ => rfl⟩
        | _ + 2, _ => exact absurd hn id
        | 0, _ + 2 => exact absurd hq id
        | 1, _ + 2 => exact absurd hq id
  | ptr s ih =>
    intro p q w w' col h pth m x cs cp cs' ns oa oa' ad H ok hh offq hn hq hsp W hl hi hB hm
    cases p with
    | nil => exact pnil _ _ hq hm
    | cons i p =>
      cases q with
      | nil => exact qnil _ _ hq (.inr (.inl rfl))
      | cons j q =>
        obtain ⟨b, ds, e, hs, ho, hns, ha, H'⟩ := hole.get (show hole h cs 1 (∃ ad ds, cs = [.pointer (some ad)] ∧ ad.spot = none ∧
          (isOw m = true → col ad.block = some pth ∧ OwnB w ad.block (ad.off + size s)) ∧
          (isOw m = false → col ad.block = some [] ∧ ad.block < w.heap.size) ∧
          At w ad.block ad.off ds ∧ Rep P s w col (subH h 0) (pth ++ [0]) (elemM m) x ds) from H) offq.1
        obtain ⟨rfl, b', ds', e', hs', l, ha', hn⟩ := hn
        rw [e] at e'
        simp at e'
        subst e'
        have := ha.unique ha' (H'.len.trans l.symm)
        subst this
        obtain ⟨rfl, b', ds', e', hs', l', ha', hq⟩ := hq
        rw [e] at e'
        simp at e'
        subst e'
        have := ha.unique ha' (H'.len.trans l'.symm)
        subst this
        have hi : bif3 (crosses s p) (innerOw s p (elemM m)) (isOw m) = true := hi rfl
        have hoff : subH h 0 = none ∨ subH h 0 = some p := by rcases hh with rfl | rfl <;> simp [subH]
        have hne : crosses s p = true → b.block ≠ ad.block := fun hc e => by
          rw [hc] at hi
          obtain ⟨q0, q1, e1, h1, h2, _⟩ := Rep.inner s p H' (offH_self hoff) hn hi
          rw [← e] at h2
          cases hm : isOw m
          · rw [(hns hm).1] at h2; simp at h2
          · rw [(ho hm).1] at h2; simp at h2
        have hat := W.loc hn hs l hl ha hne
        obtain ⟨cs2, h1, h2⟩ := ih p q H' ok.2 hoff offq.2 hn hq (fun a0 e => by injection e with e; rw [← e]; exact hs) W hl (fun hc => by rw [hc] at hi; exact hi) hB.step hm
        exact ⟨cs2, ⟨rfl, b, _, e, hs, newC_len s p l hl (okP_okPath s p ok.2), hat, h1⟩, h2⟩
  | slice nl s ih =>
    intro p q w w' col h pth m xs cs cp cs' ns oa oa' ad H ok hh offq hn hq hsp W hl hi hB hm
    cases p with
    | nil => exact pnil _ _ hq hm
    | cons i p =>
      cases q with
      | nil => exact qnil _ _ hq (.inr (.inl rfl))
      | cons j q =>
        obtain ⟨ab, c, e, hlen, hnl, hnone, H⟩ := hole.get (show hole h cs 1 (∃ a c, cs = [.slice a xs.length c] ∧ xs.length ≤ c ∧ (nl = true → xs = [] → a = none) ∧
          (a = none → xs = [] ∧ c = 0) ∧
          ∀ ad, a = some ad → (c ≠ 0 ∨ isOw m = true → ad.spot = none) ∧
          (isOw m = true → col ad.block = some pth ∧ OwnB w ad.block (ad.off + c * size s)) ∧
          (isOw m = false → xs = [] ∨ (col ad.block = some [] ∧ ad.block < w.heap.size)) ∧
          ∀ i x, xs[i]? = some x → ∃ ds, At w ad.block (ad.off + i * size s) ds ∧ Rep P s w col (subH h i) (pth ++ [i]) (elemM m) x ds) from H) offq.1
        obtain ⟨b, n', c', ds', e', hin, hs', l, ha', hn⟩ := hn
        rw [e] at e'
        simp at e'
        obtain ⟨rfl, rfl, rfl⟩ := e'
        obtain ⟨z, hz, ok⟩ := ok
        obtain ⟨hs, ho, hns, hx⟩ := H b rfl
        obtain ⟨ds, ha, H'⟩ := hx i z hz
        have := ha.unique ha' (H'.len.trans l.symm)
        subst this
        obtain ⟨b', n', c', dj, e', hjn, hs', lj, haj, hq⟩ := hq
        rw [e] at e'
        simp at e'
        obtain ⟨rfl, rfl, rfl⟩ := e'
        have hii : bif3 (crosses s p) (innerOw s p (elemM m)) (isOw m) = true := hi rfl
        have hoff : subH h i = none ∨ subH h i = some p := by rcases hh with rfl | rfl <;> simp [subH]
        have hne : crosses s p = true → b.block ≠ ad.block := fun hc e => by
          rw [hc] at hii
          obtain ⟨q0, q1, e1, h1, h2, _⟩ := Rep.inner s p H' (offH_self hoff) hn hii
          rw [← e] at h2
          cases hm : isOw m
          · rcases hns hm with h | h
            · rw [h] at hz; simp at hz
            · rw [h.1] at h2; simp at h2
          · rw [(ho hm).1] at h2; simp at h2
        rcases Nat.decEq j i with hji | hji
        · obtain ⟨d2, ha2, Hj⟩ := hx j _ (List.getElem?_eq_getElem hjn)
          have := ha2.unique haj (Hj.len.trans lj.symm)
          subst this
          refine ⟨cs', ⟨b, _, _, d2, by rw [newC_crosses _ _ _ _ rfl]; exact e, hjn, hs', lj, At.beside W hn l hl hne hji haj lj, hq.stay s q Hj offq.2 (hB.sib W.other hji)⟩, fun _ _ => rfl⟩
        · subst hji
          have := ha.unique haj (l.trans lj.symm)
          subst this
          have hat := W.loc (a0 := ⟨b.block, b.off + j * size s, none⟩) hn rfl l hl ha hne
          obtain ⟨cs2, h1, h2⟩ := ih p q H' ok hoff offq.2 hn hq (fun a0 e => by injection e with e; rw [← e]) W hl (fun hc => by rw [hc] at hii; exact hii) hB.step hm
          exact ⟨cs2, ⟨b, _, _, _, by rw [newC_crosses _ _ _ _ rfl]; exact e, hjn, hs', newC_len s p l hl (okP_okPath s p ok), hat, h1⟩, h2⟩
  | _ =>
    intro p q w w' col h pth m x cs cp cs' ns oa oa' ad H ok hh offq hn hq hsp W hl hi hB hm
    have hp : p = [] := ok
    subst hp
    exact pnil _ _ hq hm
theorem okP_setP : ∀ (s : S) (p q : List Nat) {x : El s} {y : El (subS s p)}, okP s p x → okP s q x → (mayPre s p q = false ∨ isScalar (subS s p) = true) → okP s q (setP s p x y) := by
  have pnil : ∀ (s : S) (q : List Nat) {x : El s} {y : El (subS s [])}, okP s q x → (mayPre s [] q = false ∨ isScalar (subS s []) = true) → okP s q (setP s [] x y) := by
    intro s q x y h hp
    have h0 : mayPre s [] q = true := by cases s <;> cases q <;> rfl
    rcases hp with hp | hp
    · rw [h0] at hp; cases hp
    · rw [subS_nil] at hp
      cases s <;> first | exact h | simp [isScalar] at hp
  intro s
  induction s with
  | agg s ih =>
    intro p q x y hp hq hm
    cases p with
    | nil => exact pnil _ _ hq hm
    | cons i p => cases q with
      | nil => trivial
      | cons j q => exact ⟨hq.1, ih p q hp.2 hq.2 hm⟩
  | ptr s ih =>
    intro p q x y hp hq hm
    cases p with
    | nil => exact pnil _ _ hq hm
    | cons i p => cases q with
      | nil => trivial
      | cons j q => exact ⟨hq.1, ih p q hp.2 hq.2 hm⟩
  | pair a b iha ihb =>
    intro p q x y hp hq hm
    cases p with
    | nil => exact pnil _ _ hq hm
    | cons i p => cases q with
      | nil => trivial
      | cons j q =>
        match i, j with
        | 0, 0 => exact iha p q hp hq hm
        | 1, 1 => exact ihb p q hp hq hm
        | 0, 1 => exact hq
        | 1, 0 => exact hq
        | _ + 2, _ => exact absurd hp id
        | 0, _ + 2 => exact absurd hq id
        | 1, _ + 2 => exact absurd hq id
  | slice nl s ih =>
    intro p q xs y hp hq hm
    cases p with
    | nil => exact pnil _ _ hq hm
    | cons i p => cases q with
      | nil => trivial
      | cons j q =>
        obtain ⟨z, hz, hp⟩ := hp
        obtain ⟨z', hz', hq⟩ := hq
        show ∃ y', (xs.set i (setP s p (xs.getD i (zero s)) y))[j]? = some y' ∧ okP s q y'
        rw [getD_some hz]
        rcases Nat.decEq j i with hji | hji
        · exact ⟨z', by rw [List.getElem?_set_ne (fun e => hji e.symm)]; exact hz', hq⟩
        · subst hji
          rw [hz] at hz'
          injection hz' with hz'
          subst hz'
          have : j < xs.length := by
            rcases Nat.lt_or_ge j xs.length with h | h
            · exact h
            · rw [List.getElem?_eq_none h] at hz; cases hz
          exact ⟨_, List.getElem?_set_self this, ih p q hp hq hm⟩
  | _ =>
    intro p q x y hp hq hm
    have hp : p = [] := hp
    subst hp
    exact pnil _ _ hq hm
end Go.Ev

noncomputable section
namespace Go.Ev
variable {P : Program}
theorem Wr.mk' {w : World} {ad : Addr} {ns : List Value} (hs : ad.spot = none) (ho : OwnB w ad.block (ad.off + ns.length)) (h1 : ∀ v ∈ ns, v.oneCell' = true) :
    ∃ w', (storeCells ad ns).run P w = .ok () w' ∧ Wr w w' ad ns := by
  obtain ⟨arr, t, hg, hsz⟩ := ho
  have := run_storeCells_at (P := P) ad.block ad.off t ns 0 arr w hg (by omega) h1
  rw [addr_eta hs] at this
  have hg2 := setRow_heap w ad.block arr (arr.toList.take (ad.off + 0) ++ ns ++ arr.toList.drop (ad.off + 0 + ns.length)).toArray t _ hg
  have hlen : (arr.toList.take (ad.off + 0) ++ ns ++ arr.toList.drop (ad.off + 0 + ns.length)).length = arr.size := by
    simp only [List.length_append, List.length_take, List.length_drop, Array.length_toList]
    omega
  refine ⟨_, this, setRow_size _ _ _, fun b hb => setRow_other _ _ _ _ hb, fun n hn => ?_, fun j v hj => ?_, fun o ho => ?_, ⟨by simp [World.setRow], by simp [World.setRow], by simp [World.setRow]⟩⟩
  · obtain ⟨arr', t', hg', hn⟩ := hn
    rw [hg] at hg'
    injection hg' with hg'
    injection hg' with e1 e2 e3
    subst e1
    exact ⟨_, t, hg2, by rw [List.size_toArray, hlen]; exact hn⟩
  · have hmin : min (ad.off + 0) arr.size = ad.off := by omega
    rw [cell_setRow_same _ _ _ _ _ _ _ hg]
    rw [List.getElem?_toArray, List.append_assoc, List.getElem?_append_right (by rw [List.length_take, Array.length_toList]; omega)]
    rw [show ad.off + j - (arr.toList.take (ad.off + 0)).length = j by rw [List.length_take, Array.length_toList]; omega]
    have hj' : j < ns.length := by
      rcases Nat.lt_or_ge j ns.length with h | h
      · exact h
      · rw [List.getElem?_eq_none h] at hj; cases hj
    rw [List.getElem?_append_left hj']
    exact hj
  · rw [cell_setRow_same _ _ _ _ _ _ _ hg]
    have h0 : w.cell? ⟨ad.block, o, none⟩ = arr[o]? := by simp [World.cell?, hg]
    rw [h0, List.getElem?_toArray]
    rcases ho with h | h
    · rw [List.append_assoc, List.getElem?_append_left (by rw [List.length_take, Array.length_toList]; omega), List.getElem?_take_of_lt (by omega), Array.getElem?_toList]
    · have hl2 : (arr.toList.take (ad.off + 0) ++ ns).length = ad.off + ns.length := by
        rw [List.length_append, List.length_take]
        have : arr.toList.length = arr.size := Array.length_toList
        omega
      rw [List.getElem?_append_right (by omega), List.getElem?_drop, hl2, Array.getElem?_toList]
      congr 1
      omega
theorem run_storeVar {T : TypeId} {s : S} (hF : Fits P s T) {w : World} {ad : Addr} {v : Value} {ns : List Value} (hv : v.cells = ns.toArray) (hl : ns.length = size s) (hs : ad.spot = none) (ho : OwnB w ad.block (ad.off + size s)) (h1 : ∀ v ∈ ns, v.oneCell' = true) :
    ∃ w', (storeVar T ad v).run P w = .ok () w' ∧ Wr w w' ad ns := by
  obtain ⟨w', e, W⟩ := Wr.mk' (P := P) hs (by rw [hl]; exact ho) h1
  refine ⟨w', ?_, W⟩
  have hz := hF.sizeOf w
  simp [storeVar, hz, hv, hl, e]
theorem RootOk.wr {w w' : World} {col : Col} {t r : Nat} {q0 : List Nat} {v : Value} {s : Slot} {ad : Addr} {ns : List Value} (h : RootOk P w col t v s) (hne : t ≠ r) (hc : col ad.block = some (r :: q0)) (W : Wr w w' ad ns) : RootOk P w' col t v s := by
  have key : ∀ {pt : List Nat} {s : S} {h : Option (List Nat)} {m : M} {x : El s} {cs : List Value}, Rep P s w col h (t :: pt) m x cs → Rep P s w' col h (t :: pt) m x cs := by
    intro pt s h m x cs H
    refine H.stay ⟨fun _ _ _ h _ => h, fun _ _ h => h, fun b hb hq => W.other b ?_, Nat.le_of_eq W.sz.symm⟩
    rintro rfl
    rcases hq with hq | ⟨q, hq, _⟩
    · rw [hq] at hc; cases hc
    · rw [hq] at hc; simp at hc; exact hne hc.1
  cases s with
  | dead => trivial
  | undef => exact h
  | al r p => trivial
  | pl r p => trivial
  | val s m x => obtain ⟨cs, h1, h2⟩ := h; exact ⟨cs, key h1, h2⟩
  | hol s m x hp => obtain ⟨h0, cs, h1, h2⟩ := h; exact ⟨h0, cs, key h1, h2⟩
  | tup cs =>
    obtain ⟨vs, e, h⟩ := h
    exact ⟨vs, e, fun i c hi => by obtain ⟨u, cs', h1, h2, h3⟩ := h i c hi; exact ⟨u, cs', h1, key h2, h3⟩⟩
def stoF (s : S) (mT : M) (p : List Nat) (r : Nat) : List Nat → Option (List Nat) := fun q => if (ownAt s q mT && !(p.isPrefixOf q)) = true then some (r :: q) else some []
theorem isPrefixOf_false {p q : List Nat} (h : ∀ q', q ≠ p ++ q') : p.isPrefixOf q = false := by
  cases e : p.isPrefixOf q
  · rfl
  · obtain ⟨q', hq⟩ := List.isPrefixOf_iff_prefix.1 e
    exact absurd hq.symm (h q')
def Roots (σ : List Slot) (r : Nat) (s : S) (m : M) (x : El s) (h : Option (List Nat)) : Prop := (gs σ r = .val s m x ∧ h = none) ∨ ∃ hp, gs σ r = .hol s m x hp ∧ h = some hp
theorem Roots.of {σ : List Slot} {V : Nat → Value} {r : Nat} {s : S} {m : M} {x : El s} {h hh : Option (List Nat)} {p pth q : List Nat} {c : Comp} {u : Value} (H : Roots σ r s m x h) (K : RootIs σ V r p c hh pth q u) :
    c = ⟨s, m, x⟩ ∧ hh = h ∧ pth = [r] ∧ q = p ∧ u = V r := by
  rcases H with ⟨e, rfl⟩ | ⟨hp, e, rfl⟩
  · cases K with
    | val e' => rw [e] at e'; injection e' with a b c; subst a; subst b; have c := eq_of_heq c; subst c; exact ⟨rfl, rfl, rfl, rfl, rfl⟩
    | hol e' => rw [e] at e'; cases e'
    | tup e' => rw [e] at e'; cases e'
  · cases K with
    | val e' => rw [e] at e'; cases e'
    | hol e' => rw [e] at e'; injection e' with a b c d; subst a; subst b; have c := eq_of_heq c; subst c; subst d; exact ⟨rfl, rfl, rfl, rfl, rfl⟩
    | tup e' => rw [e] at e'; cases e'
theorem Roots.mk {σ : List Slot} {V : Nat → Value} {r : Nat} {s : S} {m : M} {x : El s} {h : Option (List Nat)} (H : Roots σ r s m x h) {p : List Nat} (hp : offH h p) : RootIs σ V r p ⟨s, m, x⟩ h [r] p (V r) := by
  rcases H with ⟨e, rfl⟩ | ⟨hp', e, rfl⟩
  · exact .val e
  · exact .hol e hp
theorem Roots.root {σ : List Slot} {w : World} {col : Col} {v : Value} {r : Nat} {s : S} {m : M} {x : El s} {h : Option (List Nat)} (H : Roots σ r s m x h) (hk : RootOk P w col r v (gs σ r)) : ∃ cs, Rep P s w col h [r] m x cs ∧ IsVal s v cs := by
  rcases H with ⟨e, rfl⟩ | ⟨hp', e, rfl⟩
  · rw [e] at hk; exact hk
  · rw [e] at hk; exact hk.2
theorem Roots.lt {σ : List Slot} {r : Nat} {s : S} {m : M} {x : El s} {h : Option (List Nat)} (H : Roots σ r s m x h) : r < σ.length := by
  rcases H with ⟨e, rfl⟩ | ⟨hp', e, rfl⟩
  · exact lt_of_gs e (by simp)
  · exact lt_of_gs e (by simp)
theorem Roots.isRoot {σ : List Slot} {r : Nat} {s : S} {m : M} {x : El s} {h : Option (List Nat)} (H : Roots σ r s m x h) : (gs σ r).isRoot = true := by
  rcases H with ⟨e, rfl⟩ | ⟨hp', e, rfl⟩ <;> rw [e] <;> rfl
theorem FreeP.head_ne {σ : List Slot} {pth : List Nat} (hf : FreeP σ pth) {r : Nat} {s : S} {m : M} {x : El s} {h : Option (List Nat)} (H : Roots σ r s m x h) : ∃ r0 pt, pth = r0 :: pt ∧ r0 ≠ r := by
  match pth, hf with
  | [r0], hf => exact ⟨r0, [], rfl, by rintro rfl; have hf : (gs σ r0).isRoot = false := hf; rw [H.isRoot] at hf; cases hf⟩
  | [r0, i], hf =>
    refine ⟨r0, [i], rfl, ?_⟩
    rintro rfl
    rcases hf with hf | ⟨cs, hcs, _⟩
    · rw [H.isRoot] at hf; cases hf
    · rcases H with ⟨e, rfl⟩ | ⟨hp', e, rfl⟩ <;> rw [hcs] at e <;> cases e
theorem RootIs.head {σ : List Slot} {V : Nat → Value} {r : Nat} {p pth q : List Nat} {c : Comp} {hh : Option (List Nat)} {u : Value} (K : RootIs σ V r p c hh pth q u) : ∃ pt, pth = r :: pt := by
  cases K with
  | val _ => exact ⟨[], rfl⟩
  | hol _ _ => exact ⟨[], rfl⟩
  | tup _ _ _ _ _ => exact ⟨_, rfl⟩
theorem RootIs.nav {B : Base} {col : Col} {σ : List Slot} {a : Act} {w w' : World} (I : InvC P B col σ a w) {r t : Nat} {p pth q q0 : List Nat} {c : Comp} {hh : Option (List Nat)} {u : Value} (K : RootIs σ (Act.V a) t p c hh pth q u) (hne : t ≠ r)
    {ad : Addr} {ns : List Value} (hcB : col ad.block = some (r :: q0)) (W : Wr w w' ad ns) {cs cs' : List Value} {oa' : Option Addr} (hv : IsVal c.s u cs) (hn : Nav w c.s q cs none cs' oa') : Nav w' c.s q cs none cs' oa' := by
  obtain ⟨cs0, h1, h2⟩ := I.root K
  have := h2.unique hv
  subst this
  obtain ⟨pt, e⟩ := K.head
  refine hn.stay _ _ h1 K.off (fun b hb hq => W.other b ?_)
  rintro rfl
  rcases hq with hq | ⟨q, hq, _⟩
  · rw [hq] at hcB; cases hcB
  · rw [hq, e] at hcB; simp at hcB; exact hne hcB.1
theorem InvC.stored {B : Base} {col : Col} {σ : List Slot} {a : Act} {w w' : World} (I : InvC P B col σ a w) {r : Nat} {s : S} {m mT my : M} {x : El s} {h : Option (List Nat)} {p pth : List Nat} {y : El (subS s p)} {ns : List Value} {ad : Addr} {f : Slot → Slot}
    (H : Roots σ r s m x h) (hh : h = none ∨ h = some p) (hP : Place w ⟨s, m, x⟩ p (Act.V a r) (.pointer (some ad))) (hi : innerOw s p m = true) (hle : le mT (setM s p m my) = true) (hmy : le (subM s p mT) my = true)
    (hf : FreeP σ pth) (hy : Rep P (subS s p) w col none pth my y ns) (W : Wr w w' ad ns)
    (hfd : ∀ sl, f sl = sl ∨ f sl = .dead) (hfr : ∀ sl, sl.isRoot = true → f sl = sl) (hal : ∀ q, okP s q x → f (.al r q) = .al r q → q = [] ∨ (mayPre s p q = false ∧ (isRow (subS s q) = true ∨ mayPre s q p = false ∨ w' = w)))
    (hpl : ∀ q, f (.pl r q) = .pl r q → mayPre s p q = false ∨ isScalar (subS s p) = true) :
    ∃ col2, InvC P B col2 (ps (σ.map f) r (.val s mT (setP s p x y))) a w' ∧ (∀ b t q, t ≠ r → (∀ pt, pth ≠ t :: pt) → col b = some (t :: q) → col2 b = some (t :: q)) ∧ ∀ b, Quiet (col b) → col2 b = col b := by
  have hlt := H.lt
  have hIr : RootOk P w col r (Act.V a r) (gs σ r) := by
    have := I.ok r
    rcases H with ⟨e, rfl⟩ | ⟨hp', e, rfl⟩ <;> rw [e] at this ⊢ <;> exact this
  obtain ⟨cs, hrep, hval⟩ := H.root hIr
  obtain ⟨ok, cs1, cp, ad', e1, hn, e2⟩ := hP
  have := hval.unique e1
  subst this
  simp at e2
  subst e2
  have hcr := innerOw_crosses s p m hi
  obtain ⟨q0, q1, ep, hq1, hcB, _, _⟩ := Rep.inner s p hrep (offH_self hh) hn hi
  have hcB : col ad.block = some (r :: q0) := hcB
  obtain ⟨r0, pt, epth, hr0⟩ := hf.head_ne H
  have hnl : ns.length = size (subS s p) := hy.len
  let colA := reCol col (stoF s mT p r) [r]
  let colB := reCol colA (moveF (r :: p)) pth
  have hpne : pth ≠ [] := by rw [epth]; simp
  have hA : ∀ b, b < w.heap.size → Quiet (col b) → colA b = col b := fun b _ hq => reCol_quiet _ _ (by simp) hq
  have hB : ∀ b, b < w.heap.size → Quiet (col b) → colB b = col b := fun b hb hq => by
    show reCol colA _ _ b = _
    rw [reCol_quiet colA _ hpne (by rw [hA b hb hq]; exact hq)]; exact hA b hb hq
  have hAB : ∀ b q, colA b = some (r :: q) → colB b = some (r :: q) := fun b q hc => by
    show reCol colA _ _ b = _
    rw [reCol_ne colA _ _ (fun q' e => by rw [hc, epth] at e; simp at e; exact hr0 e.1.symm)]
    exact hc
  have hAB' : ∀ b, colA b = some [] → colB b = some [] := fun b hc => by
    show reCol colA _ _ b = _
    rw [reCol_quiet colA _ hpne (.inr hc)]; exact hc
  have hy1 : Rep P (subS s p) w' col none pth my y ns := by
    refine hy.stay ⟨fun _ _ _ h _ => h, fun _ _ h => h, fun b hb hq => W.other b ?_, Nat.le_of_eq W.sz.symm⟩
    rintro rfl
    rcases hq with hq | ⟨q, hq, _⟩
    · rw [hq] at hcB; cases hcB
    · rw [hq, epth] at hcB; simp at hcB; exact hr0 hcB.1
  have hy2 : Rep P (subS s p) w' colA none pth my y ns := hy1.apart (by rw [epth]; exact Apart.root hr0 _ _) (by simp) _
  have hy3 : Rep P (subS s p) w' colB none (r :: p) my y ns := hy2.move hpne
  let colC := reCol colB (lessF (subS s p) (subM s p mT) (r :: p)) (r :: p)
  have hy4 : Rep P (subS s p) w' colC none ([r] ++ p) (subM s p mT) y ns := hy3.less (by simp) hmy
  have hC : ∀ b, b < w.heap.size → Quiet (col b) → colC b = col b := fun b hb hq => by
    show reCol colB _ _ b = _
    rw [reCol_quiet colB _ (by simp) (by rw [hB b hb hq]; exact hq)]; exact hB b hb hq
  have hS : Sto s p w w' col colC [r] m mT ad.block := by
    refine ⟨fun b q hb hc ho hq => ?_, fun b q hb hc ho ho' hq => ?_, fun b hb hc => ?_, ⟨r :: q0, hcB, by simp, fun q e => ⟨q1, ?_, hq1⟩⟩⟩
    · have h1 : colA b = some (r :: q) := by
        show reCol col _ _ b = _
        rw [reCol_own col _ [r] q hc]
        unfold stoF
        rw [ho, isPrefixOf_false hq]; rfl
      have h2 := hAB b q h1
      show reCol colB _ _ b = _
      rw [reCol_ne colB _ _ (fun q' e => by rw [h2] at e; simp at e; exact hq q' e)]
      exact h2
    · have h1 : colA b = some [] := by
        show reCol col _ _ b = _
        rw [reCol_own col _ [r] q hc]
        unfold stoF
        rw [ho']; rfl
      have h2 := hAB' b h1
      show reCol colB _ _ b = _
      rw [reCol_quiet colB _ (by simp) (.inr h2)]
      exact h2
    · rw [hC b hb (.inr hc)]; exact hc
    · simp at e
      rw [← e]; exact ep
  have hroot : Rep P s w' colC none [r] mT (setP s p x y) (newC s p cs ns) := hrep.store s p ok hh hn (fun a0 e => by cases e) W hnl (fun _ => hi) hle hS hy4
  rw [newC_crosses s p cs ns hcr] at hroot
  have hOwnT : OwnT col ad.block p [r] := ⟨r :: q0, hcB, by simp, fun q e => ⟨q1, by simp at e; rw [← e]; exact ep, hq1⟩⟩
  have hg1 : ∀ t, t ≠ r → gs (ps (σ.map f) r (.val s mT (setP s p x y))) t = f (gs σ t) := fun t ht => by
    rw [gs_ps_ne _ _ _ _ ht, gs_map f (by rcases hfd .dead with h | h <;> exact h)]
  have hg2 : gs (ps (σ.map f) r (.val s mT (setP s p x y))) r = .val s mT (setP s p x y) := gs_ps_same _ _ _ (by simpa using hlt)
  have hkeep : ∀ b t q, t ≠ r → (∀ pt, pth ≠ t :: pt) → col b = some (t :: q) → colC b = some (t :: q) := fun b t q htr htp hc => by
    have h1 : colA b = some (t :: q) := by
      show reCol col _ _ b = _
      rw [reCol_ne col _ _ (fun q' e => by rw [hc] at e; simp at e; exact htr e.1)]; exact hc
    have h2 : colB b = some (t :: q) := by
      show reCol colA _ _ b = _
      rw [reCol_ne colA _ _ (fun q' e => by rw [h1, epth] at e; simp at e; exact htp pt (by rw [epth, e.1]))]; exact h1
    show reCol colB _ _ b = _
    rw [reCol_ne colB _ _ (fun q' e => by rw [h2] at e; simp at e; exact htr e.1)]; exact h2
  have hquiet : ∀ b, Quiet (col b) → colC b = col b := fun b hq => by
    have h1 : colA b = col b := reCol_quiet _ _ (by simp) hq
    have h2 : colB b = col b := by
      show reCol colA _ _ b = _
      rw [reCol_quiet colA _ hpne (by rw [h1]; exact hq)]; exact h1
    show reCol colB _ _ b = _
    rw [reCol_quiet colB _ (by simp) (by rw [h2]; exact hq)]; exact h2
  refine ⟨colC, ⟨?_, I.dfr, ⟨by rw [W.sz]; exact I.frm.sz, fun b hb hq => ?_, fun b hb hq => ?_, I.frm.out.trans W.same⟩, fun t => ?_⟩, hkeep, hquiet⟩
  · rw [length_ps, List.length_map]; exact I.len
  · have hcb := I.frm.col b hb hq
    rw [W.other b (by rintro rfl; rw [hcB] at hcb; rw [← hcb] at hq; rcases hq with hq | hq <;> cases hq)]
    exact I.frm.mem b hb hq
  · have hcb := I.frm.col b hb hq
    rw [hC b (Nat.lt_of_lt_of_le hb I.frm.sz) (by rw [hcb]; exact hq)]
    exact hcb
  · by_cases ht : t = r
    · subst ht
      rw [hg2]
      exact ⟨cs, hroot, hval⟩
    · rw [hg1 t ht]
      have hk := I.ok t
      rcases hfd (gs σ t) with hft | hft
      · rw [hft]
        have hR : RootOk P w col t (Act.V a t) (gs σ t) → RootOk P w' colC t (Act.V a t) (gs σ t) := fun h => by
          have h1 := h.wr (r := r) ht hcB W
          have h2 := h1.apart ht [] (stoF s mT p r)
          have h3 := h2.free hf (moveF (r :: p))
          exact h3.apart ht p _
        have other : ∀ r', r' ≠ r → (gs σ r').isRoot = true → gs (ps (σ.map f) r (.val s mT (setP s p x y))) r' = gs σ r' := fun r' hr' hro => by
          rw [hg1 r' hr', hfr _ hro]
        cases hs : gs σ t with
        | val s1 m1 x1 => rw [hs] at hk hR; exact hR hk
        | hol s1 m1 x1 hp1 => rw [hs] at hk hR; exact hR hk
        | tup cs1 => rw [hs] at hk hR; exact hR hk
        | dead => trivial
        | undef => rw [hs] at hk; exact hk
        | al r' q =>
          rw [hs] at hk hft
          obtain ⟨hne, hk⟩ := hk
          refine ⟨hne, ?_⟩
          by_cases hr' : r' = r
          · subst hr'
            rcases hk with ⟨cs2, e, _⟩ | ⟨c, hh', pth', q', u, hr, hcp⟩
            · rcases H with ⟨e', rfl⟩ | ⟨hp', e', rfl⟩ <;> rw [e] at e' <;> cases e'
            · have hoff := hr.off
              obtain ⟨rfl, rfl, rfl, rfl, rfl⟩ := H.of hr
              obtain ⟨okq, c1, c2, oa', k1, k2, k3⟩ := hcp
              have := hval.unique k1
              subst this
              rcases hal q' okq hft with rfl | ⟨hm1, hm2⟩
              · obtain ⟨rfl, rfl⟩ := Nav_nil' k2
                exact .inr ⟨_, _, _, _, _, .val hg2, okP_nil _ _, _, _, _, hval, Nav_nil _ _ _ _, k3⟩
              · obtain ⟨c3, n1, n2⟩ := Nav.wr s p q' hrep ok hh hoff hn k2 (fun a0 e => by cases e) W hnl (fun _ => hi) hOwnT (.inl hm1)
                rw [newC_crosses s p cs ns hcr] at n1
                have : c3 = c2 := by
                  rcases hm2 with h | h | h
                  · exact n2 hm1 (.inl h)
                  · exact n2 hm1 (.inr h)
                  · rw [h] at n1; exact (Nav.unique s q' n1 k2).1
                subst this
                exact .inr ⟨_, _, _, _, _, .val hg2, okP_setP s p q' ok okq (.inl hm1), cs, c3, _, hval, n1, k3⟩
          · have hro := AlOk.isRoot hk
            rcases hk with ⟨cs2, e, e2, e3⟩ | ⟨c, hh', pth', q', u, hr, hcp⟩
            · exact .inl ⟨cs2, (other r' hr' hro).trans e, e2, e3⟩
            · obtain ⟨okq, c1, c2, oa', k1, k2, k3⟩ := hcp
              exact .inr ⟨c, hh', pth', q', u, hr.ctx (other r' hr' hro) rfl, okq, c1, c2, oa', k1, hr.nav I hr' hcB W k1 k2, k3⟩
        | pl r' q =>
          rw [hs] at hk hft
          obtain ⟨hne, hk⟩ := hk
          refine ⟨hne, ?_⟩
          by_cases hr' : r' = r
          · subst hr'
            obtain ⟨c, hh', pth', q', u, hr, hcp⟩ := hk
            have hoff := hr.off
            obtain ⟨rfl, rfl, rfl, rfl, rfl⟩ := H.of hr
            obtain ⟨okq, c1, c2, ad2, k1, k2, k3⟩ := hcp
            have := hval.unique k1
            subst this
            obtain ⟨c3, n1, n2⟩ := Nav.wr s p q' hrep ok hh hoff hn k2 (fun a0 e => by cases e) W hnl (fun _ => hi) hOwnT (hpl q' hft)
            rw [newC_crosses s p cs ns hcr] at n1
            exact ⟨_, _, _, _, _, .val hg2, okP_setP s p q' ok okq (hpl q' hft), cs, c3, _, hval, n1, k3⟩
          · have hro := PlOk.isRoot hk
            obtain ⟨c, hh', pth', q', u, hr, hcp⟩ := hk
            obtain ⟨okq, c1, c2, ad2, k1, k2, k3⟩ := hcp
            exact ⟨c, hh', pth', q', u, hr.ctx (other r' hr' hro) rfl, okq, c1, c2, ad2, k1, hr.nav I hr' hcB W k1 k2, k3⟩
      · rw [hft]; trivial
end Go.Ev

noncomputable section
namespace Go.Ev
variable {P : Program}
theorem PlOk.later {w : World} {σ σ2 : List Slot} {V : Nat → Value} {r : Nat} {p : List Nat} {v : Value} (h : PlOk w σ V r p v) (L : Less σ σ2) {s : S} {m : M} {x : El s} {hh : Option (List Nat)} (H : Roots σ2 r s m x hh) : PlOk w σ2 V r p v := by
  obtain ⟨c, h', pth, q, u, hr, hp⟩ := h
  rcases L.2 r with k | k | ⟨s1, m1, m1', x1, k, k'⟩ | ⟨ds, ds', k, k', _⟩
  · exact ⟨c, h', pth, q, u, hr.ctx k rfl, hp⟩
  · rcases H with ⟨e, _⟩ | ⟨hp', e, _⟩ <;> rw [k] at e <;> cases e
  · cases hr with
    | val e =>
      rw [e] at k
      injection k with k1 k2 k3
      subst k1
      have k3 := eq_of_heq k3
      subst k3
      exact ⟨⟨_, m1', _⟩, _, _, _, _, .val k', hp⟩
    | hol e => rw [e] at k; cases k
    | tup e => rw [e] at k; cases k
  · rcases H with ⟨e, _⟩ | ⟨hp', e, _⟩ <;> rw [k'] at e <;> cases e
theorem eqPathK_some {R : Type} : ∀ {p q : List Nat} {K : Option R} {res : R}, eqPathK p q K = some res → p = q ∧ K = some res
  | [], [], K, res, h => ⟨rfl, h⟩
  | a :: p, b :: q, K, res, h => by
    simp only [eqPathK] at h
    split at h
    · rename_i e
      obtain ⟨h1, h2⟩ := eqPathK_some h
      exact ⟨by rw [e, h1], h2⟩
    · cases h
  | [], _ :: _, K, res, h => by simp [eqPathK] at h
  | _ :: _, [], K, res, h => by simp [eqPathK] at h
theorem bif3_or {R : Type} {b : Bool} {x y : Option R} {res : R} (h : bif3 b x y = some res) : (b = true ∧ x = some res) ∨ (b = false ∧ y = some res) := by
  cases b
  · exact .inr ⟨rfl, h⟩
  · exact .inl ⟨rfl, h⟩
theorem isRow_not_scalar {s : S} (h : isRow s = true) : isScalar s = false := by cases s <;> simp_all [isRow, isScalar]
theorem mayPre_scalar : ∀ (s : S) (p q : List Nat) {x x' : El s}, okP s p x → okP s q x' → isScalar (subS s p) = true → mayPre s p q = true → isScalar (subS s q) = true := by
  have pnil : ∀ (s : S) (q : List Nat) {x : El s}, okP s q x → isScalar (subS s []) = true → isScalar (subS s q) = true := by
    intro s q x h hs
    rw [subS_nil] at hs
    cases s <;> first | (simp [isScalar] at hs; done) | (have : q = [] := h; subst this; exact hs)
  intro s
  induction s with
  | agg s ih =>
    intro p q x x' hp hq hs hm
    cases p with
    | nil => exact pnil _ q hq hs
    | cons i p => cases q with
      | nil => simp [mayPre] at hm
      | cons j q => exact ih p q hp.2 hq.2 hs hm
  | ptr s ih =>
    intro p q x x' hp hq hs hm
    cases p with
    | nil => exact pnil _ q hq hs
    | cons i p => cases q with
      | nil => simp [mayPre] at hm
      | cons j q => exact ih p q hp.2 hq.2 hs hm
  | slice nl s ih =>
    intro p q x x' hp hq hs hm
    cases p with
    | nil => exact pnil _ q hq hs
    | cons i p => cases q with
      | nil => simp [mayPre] at hm
      | cons j q =>
        obtain ⟨_, _, hp⟩ := hp
        obtain ⟨_, _, hq⟩ := hq
        exact ih p q hp hq hs hm
  | pair a b iha ihb =>
    intro p q x x' hp hq hs hm
    cases p with
    | nil => exact pnil _ q hq hs
    | cons i p => cases q with
      | nil => simp [mayPre] at hm
      | cons j q =>
        match i, j with
        | 0, 0 => exact iha p q hp hq hs hm
        | 1, 1 => exact ihb p q hp hq hs hm
        | 0, 1 => simp [mayPre] at hm
        | 1, 0 => simp [mayPre] at hm
        | _ + 2, _ => exact absurd hp id
        | 0, _ + 2 => exact absurd hq id
        | 1, _ + 2 => exact absurd hq id
  | _ =>
    intro p q x x' hp hq hs hm
    have hp : p = [] := hp
    subst hp
    exact pnil _ q hq hs
theorem calm1_or (r : Nat) (s : S) (sl : Slot) : calm1 r s sl = sl ∨ calm1 r s sl = .dead := by
  cases sl with
  | al r' q =>
    cases q with
    | nil => left; show bif3 (r' == r) (Slot.al r' []) (.al r' []) = _; cases r' == r <;> rfl
    | cons i q =>
      show bif3 (r' == r) (bif3 (isRow (subS s (i :: q))) (Slot.al r' (i :: q)) .dead) (.al r' (i :: q)) = _ ∨ bif3 (r' == r) (bif3 (isRow (subS s (i :: q))) (Slot.al r' (i :: q)) .dead) (.al r' (i :: q)) = _
      cases r' == r
      · exact .inl rfl
      · cases isRow (subS s (i :: q))
        · exact .inr rfl
        · exact .inl rfl
  | _ => exact .inl rfl
theorem calm2_or (r : Nat) (s : S) (p : List Nat) (sl : Slot) : calm2 r s p sl = sl ∨ calm2 r s p sl = .dead := by
  cases sl with
  | al r' q =>
    cases q with
    | nil => left; show bif3 (r' == r) (Slot.al r' []) (.al r' []) = _; cases r' == r <;> rfl
    | cons i q =>
      show bif3 (r' == r) (bif3 (mayPre s p (i :: q) || (!isRow (subS s (i :: q)) && mayPre s (i :: q) p)) .dead (Slot.al r' (i :: q))) (.al r' (i :: q)) = _ ∨ bif3 (r' == r) (bif3 (mayPre s p (i :: q) || (!isRow (subS s (i :: q)) && mayPre s (i :: q) p)) .dead (Slot.al r' (i :: q))) (.al r' (i :: q)) = _
      cases r' == r
      · exact .inl rfl
      · cases (mayPre s p (i :: q) || (!isRow (subS s (i :: q)) && mayPre s (i :: q) p))
        · exact .inl rfl
        · exact .inr rfl
  | pl r' q =>
    show bif3 (r' == r && mayPre s p q) .dead (Slot.pl r' q) = _ ∨ bif3 (r' == r && mayPre s p q) .dead (Slot.pl r' q) = _
    cases (r' == r && mayPre s p q)
    · exact .inl rfl
    · exact .inr rfl
  | _ => exact .inl rfl
theorem bool_false_of {b : Bool} (h : ¬ b = true) : b = false := by cases b; rfl; exact absurd rfl h
section
variable {C : Ctx} {B : Base} {R : Type} {K : List Slot → Option R} {res : R} {next : Act → World → Prop} {Q : Exit → Act → World → Prop} {o : Oper} {σ : List Slot} {a : Act} {w : World} {col : Col}
theorem store_go (hC : CtxOk P C) (I : InvC P B col σ a w) (hG : Good P B K res next) {T : TypeId} {xa xv : Operand} {fz : Bool} (hop : o.op = .store T xa xv) {r : Nat} {p : List Nat} {sl : Slot}
    (hpl : PlOk w σ (Act.V a) r p (a.eval xa)) (hov : OpdOk P w col σ a (a.eval xv) sl) {c : Comp} {σ2 : List Slot} {mr : Option Nat} (ht : take σ fz sl = some (c, σ2, mr))
    {s : S} {m : M} {x : El s} {hh : Option (List Nat)} (H : Roots σ2 r s m x hh) (hhp : hh = none ∨ hh = some p) (hi : innerOw s p m = true) {y : El (subS s p)} (hF : Fits P (subS s p) T)
    (hco : sameS c.s (subS s p) = true ∧ ∀ {w : World} {col : Col} {h : Option (List Nat)} {p1 : List Nat} {m : M} {cs : List Value}, Rep P c.s w col h p1 m c.x cs → Rep P (subS s p) w col h p1 m y cs)
    {f : Slot → Slot} (hf : f = calm2 r s p ∨ (f = calm1 r s ∧ isScalar (subS s p) = true)) (he : K (fin (ps (σ2.map f) r (.val s (setM s p m c.m) (setP s p x y))) o.dst .undef) = some res) : o.wp P a w next Q := by
  obtain ⟨col2, pth, cs, I2, L, hrep, hval, hfree, _, _, _⟩ := take_ok I hov ht
  have hpl2 := hpl.later L.less H
  obtain ⟨c0, h', pt, q, u, hr, hP⟩ := hpl2
  obtain ⟨rfl, rfl, rfl, rfl, rfl⟩ := H.of hr
  have hP0 := hP
  obtain ⟨okp, cs0, cp, ad, hv0, hn, hva⟩ := hP
  obtain ⟨csr, hrr, hvr⟩ := I2.root hr
  have hoff : offH h' q := hr.off
  obtain ⟨q0, q1, ep, hq1, hcB, _, hOwn⟩ := Rep.inner s q hrr hoff (by rw [← hv0.unique hvr]; exact hn) hi
  have hsp : ad.spot = none := (hn.at_ _ _ (fun _ h => by cases h) ad rfl).1
  have hcells := hrep.cells hval
  have h1c := hrep.oneCell c.s
  have hl : cs.length = size (subS s q) := by rw [hrep.len]; exact size_same _ _ hco.1
  obtain ⟨w', hrun, W⟩ := run_storeVar (P := P) hF hcells hl hsp hOwn h1c
  have hfree2 : ∃ pth', FreeP σ2 pth' ∧ Rep P (subS s q) w col2 none pth' c.m y cs := by
    rcases hfree with hfree | hfree
    · exact ⟨pth, hfree, hco.2 hrep⟩
    · exact ⟨[σ2.length], by show (gs σ2 σ2.length).isRoot = false; rw [gs_out _ _ (Nat.le_refl _)]; rfl, hco.2 (hfree _)⟩
  obtain ⟨pth', hfr, hy⟩ := hfree2
  have hP1 : Place w ⟨s, m, x⟩ q (Act.V a r) (.pointer (some ad)) := ⟨okp, cs0, cp, ad, hv0, hn, rfl⟩
  have key := I2.stored (f := f) H hhp hP1 hi (le_refl _) (subM_setM s q m c.m) hfr hy W
    (fun sl => by rcases hf with hf | ⟨hf, _⟩ <;> subst hf; exact calm2_or _ _ _ sl; exact calm1_or _ _ sl)
    (fun sl h => by rcases hf with hf | ⟨hf, _⟩ <;> subst hf <;> cases sl <;> first | rfl | simp [Slot.isRoot] at h)
    (fun q' okq h => by
      cases q' with
      | nil => exact .inl rfl
      | cons i q' =>
        right
        rcases hf with hf | ⟨hf, hs⟩ <;> subst hf
        · simp only [calm2, beq_self_eq_true, bif3] at h
          cases hb : (mayPre s q (i :: q') || (!isRow (subS s (i :: q')) && mayPre s (i :: q') q))
          · simp only [Bool.or_eq_false_iff, Bool.and_eq_false_iff, Bool.not_eq_false'] at hb
            exact ⟨hb.1, hb.2.imp id .inl⟩
          · rw [hb] at h; cases h
        · simp only [calm1, beq_self_eq_true, bif3] at h
          cases hb : isRow (subS s (i :: q'))
          · rw [hb] at h; cases h
          · refine ⟨?_, .inl rfl⟩
            cases hm : mayPre s q (i :: q')
            · rfl
            · have := mayPre_scalar s q (i :: q') okp okq hs hm
              rw [isRow_not_scalar hb] at this
              cases this)
    (fun q' h => by
      rcases hf with hf | ⟨hf, hs⟩
      · subst hf
        left
        simp only [calm2, beq_self_eq_true, Bool.true_and] at h
        cases hb : mayPre s q q'
        · rfl
        · rw [hb] at h; cases h
      · exact .inr hs)
  obtain ⟨col4, I4, _⟩ := key
  refine op_skip (w' := w') ?_ (hG _ _ _ ⟨col4, I4.fin fun d _ => ?_⟩ he)
  · simp [execOp, hop, Instr.storeAt, Instr.sureAddr, hva, hrun]
  · rfl
theorem Store.ok (hC : CtxOk P C) (I : InvC P B col σ a w) (hG : Good P B K res next) {T : TypeId} {xa xv : Operand} {fz : Bool} (hop : o.op = .store T xa xv)
    (he : storeK C T σ fz (rdo σ none xa) (Ev.rdo' C σ (C.ty T) xv) (fun σ => K (fin σ o.dst .undef)) = some res) : o.wp P a w next Q := by
  have hx := I.rdo none xa
  have hv := I.rdo' hC (C.ty T) xv
  generalize rdo σ none xa = slx at he hx
  generalize Ev.rdo' C σ (C.ty T) xv = slv at he hv
  have go : ∀ r p, PlOk w σ (Act.V a) r p (a.eval xa) → (match take σ fz slv with
    | none => none
    | some (c, σ, _) => match gs σ r with
      | .val s m x => bif3 (innerOw s p m) (chk C T (subS s p) (coer c.s (subS s p) c.x fun y =>
          bif3 (isScalar (subS s p)) (K (fin (ps (σ.map (calm1 r s)) r (.val s (setM s p m c.m) (setP s p x y))) o.dst .undef))
            (K (fin (ps (σ.map (calm2 r s p)) r (.val s (setM s p m c.m) (setP s p x y))) o.dst .undef)))) none
      | .hol s m x hp => bif3 (innerOw s p m) (chk C T (subS s p) (eqPathK p hp (coer c.s (subS s p) c.x fun y => K (fin (ps (σ.map (calm2 r s p)) r (.val s (setM s p m c.m) (setP s p x y))) o.dst .undef)))) none
      | _ => none) = some res → o.wp P a w next Q := by
    intro r p hpl he
    split at he
    · cases he
    · rename_i c σ2 mr ht
      split at he
      · rename_i s m x hg
        obtain ⟨hi, he⟩ := bif3_some he
        obtain ⟨hF, he⟩ := chk_ok hC.ty he
        obtain ⟨y, he, hco⟩ := coer_ok _ _ he
        rcases bif3_or he with ⟨hs, he⟩ | ⟨hs, he⟩
        · exact store_go hC I hG hop hpl hv ht (.inl ⟨hg, rfl⟩) (.inl rfl) hi hF hco (.inr ⟨rfl, hs⟩) he
        · exact store_go hC I hG hop hpl hv ht (.inl ⟨hg, rfl⟩) (.inl rfl) hi hF hco (.inl rfl) he
      · rename_i s m x hp hg
        obtain ⟨hi, he⟩ := bif3_some he
        obtain ⟨hF, he⟩ := chk_ok hC.ty he
        obtain ⟨e, he2⟩ := eqPathK_some he
        subst e
        obtain ⟨y, he, hco⟩ := coer_ok _ _ he2
        exact store_go hC I hG hop hpl hv ht (.inr ⟨_, hg, rfl⟩) (.inr rfl) hi hF hco (.inl rfl) he
      · cases he
  cases slx with
  | pl r p => exact go r p hx he
  | al r p =>
    simp only [storeK] at he
    split at he
    · rename_i s m x hc
      exact go r (p ++ [0]) (AlOk.deref I hx hc) he
    · cases he
  | _ => simp [storeK] at he
end
end Go.Ev

noncomputable section
namespace Go.Ev
variable {P : Program}
theorem Rep.openH : ∀ (s : S) {w : World} {col : Col} {p pth : List Nat} {m : M} {x : El s} {cs : List Value}, Rep P s w col none pth m x cs → Rep P s w col (some p) pth m x cs := by
  have opn : ∀ (s : S) {w : World} {col : Col} {p pth : List Nat} {m : M} {x : El s} {cs : List Value} {A : Prop}, Rep P s w col none pth m x cs → (∀ i q, p = i :: q → A) → hole (some p) cs (size s) A := by
    intro s w col p pth m x cs A H h
    cases p with
    | nil => exact H.len
    | cons i q => exact h i q rfl
  have sub : ∀ (p : List Nat) (i : Nat), subH (some p) i = none ∨ ∃ q, subH (some p) i = some q := by
    intro p i
    cases h : subH (some p) i with
    | none => exact .inl rfl
    | some q => exact .inr ⟨q, rfl⟩
  intro s
  induction s with
  | agg s ih =>
    intro w col p pth m x cs H
    refine opn (.agg s) H (fun i q e => ?_)
    rcases sub p 0 with h | ⟨q', h⟩
    · show Rep P s w col (subH (some p) 0) _ _ x cs
      rw [h]; exact H
    · show Rep P s w col (subH (some p) 0) _ _ x cs
      rw [h]; exact ih H
  | pair a b iha ihb =>
    intro w col p pth m x cs H
    refine opn (.pair a b) H (fun i q e => ?_)
    obtain ⟨c1, c2, e1, H1, H2⟩ := H
    refine ⟨c1, c2, e1, ?_, ?_⟩
    · show Rep P a w col (subH (some p) 0) _ _ x.1 c1
      rcases sub p 0 with h | ⟨q', h⟩
      · rw [h]; exact H1
      · rw [h]; exact iha H1
    · show Rep P b w col (subH (some p) 1) _ _ x.2 c2
      rcases sub p 1 with h | ⟨q', h⟩
      · rw [h]; exact H2
      · rw [h]; exact ihb H2
  | ptr s ih =>
    intro w col p pth m x cs H
    refine opn (.ptr s) H (fun i q e => ?_)
    obtain ⟨ad, ds, h1, h2, h3, h4, h5, h6⟩ := H
    refine ⟨ad, ds, h1, h2, h3, h4, h5, ?_⟩
    show Rep P s w col (subH (some p) 0) _ _ x ds
    rcases sub p 0 with h | ⟨q', h⟩
    · rw [h]; exact h6
    · rw [h]; exact ih h6
  | slice nl s ih =>
    intro w col p pth m x cs H
    refine opn (.slice nl s) H (fun i q e => ?_)
    obtain ⟨a, c, h1, h2, h3, h4, h5⟩ := H
    refine ⟨a, c, h1, h2, h3, h4, fun ad ha => ?_⟩
    obtain ⟨g1, g2, g3, g4⟩ := h5 ad ha
    refine ⟨g1, g2, g3, fun j y hj => ?_⟩
    obtain ⟨ds, k1, k2⟩ := g4 j y hj
    refine ⟨ds, k1, ?_⟩
    show Rep P s w col (subH (some p) j) _ _ y ds
    rcases sub p j with h | ⟨q', h⟩
    · rw [h]; exact k2
    · rw [h]; exact ih k2
  | unit => intro w col p pth m x cs H; exact H
  | int k => intro w col p pth m x cs H; exact opn (.int k) H (fun _ _ _ => H)
  | bool => intro w col p pth m x cs H; exact opn .bool H (fun _ _ _ => H)
  | str => intro w col p pth m x cs H; exact opn .str H (fun _ _ _ => H)
  | func a b => intro w col p pth m x cs H; exact opn (.func a b) H (fun _ _ _ => H)
  | map k v => intro w col p pth m x cs H; exact opn (.map k v) H (fun _ _ _ => H)
structure OffHole (w w' : World) (col col' : Col) (pre : List Nat) : Prop where
  sz : w.heap.size ≤ w'.heap.size
  off : ∀ b, b < w.heap.size → (∀ q, col b ≠ some (pre ++ q)) → col' b = col b ∧ w'.heap[b]? = w.heap[b]?
theorem OffHole.quiet {w w' : World} {col col' : Col} {pre : List Nat} (V : OffHole w w' col col' pre) (hne : pre ≠ []) {b : Nat} (hb : b < w.heap.size) (hq : Quiet (col b)) : col' b = col b ∧ w'.heap[b]? = w.heap[b]? :=
  V.off b hb (fun q e => by
    rcases hq with hq | hq <;> rw [hq] at e
    · cases e
    · injection e with e
      exact hne (List.append_eq_nil_iff.1 e.symm).1)
theorem Rep.offHole : ∀ (s : S) (p : List Nat) {w w' : World} {col col' : Col} {pth : List Nat} {m : M} {x : El s} {cs : List Value},
    Rep P s w col (some p) pth m x cs → OffHole w w' col col' (pth ++ p) → pth ≠ [] → Rep P s w' col' (some p) pth m x cs := by
  intro s
  have sib : ∀ {s1 : S} {w w' : World} {col col' : Col} {pth p : List Nat} {i j : Nat} {m : M} {x : El s1} {cs : List Value}, OffHole w w' col col' (pth ++ i :: p) → pth ≠ [] → j ≠ i →
      Rep P s1 w col none (pth ++ [j]) m x cs → Rep P s1 w' col' none (pth ++ [j]) m x cs := by
    intro s1 w w' col col' pth p i j m x cs V hne hij H
    have key : ∀ b q, b < w.heap.size → col b = some (pth ++ [j] ++ q) → col' b = col b ∧ w'.heap[b]? = w.heap[b]? := fun b q hb hc => V.off b hb (fun q' e => by
      rw [hc] at e; simp at e; exact hij e.1)
    refine H.stay ⟨fun b q hb hc _ => (key b q hb hc).1.trans hc, fun b hb hc => (V.quiet (by simp) hb (.inr hc)).1.trans hc, fun b hb hq => ?_, V.sz⟩
    rcases hq with hq | ⟨q, hq, _⟩
    · exact (V.quiet (by simp) hb (.inr hq)).2
    · exact (key b q hb hq).2
  have here : ∀ {w w' : World} {col col' : Col} {pth p : List Nat} {i : Nat}, OffHole w w' col col' (pth ++ i :: p) → ∀ b, b < w.heap.size → col b = some pth → col' b = some pth ∧ w'.heap[b]? = w.heap[b]? := by
    intro w w' col col' pth p i V b hb hc
    have := V.off b hb (fun q' e => by rw [hc] at e; injection e with e; have := congrArg List.length e; simp at this)
    exact ⟨this.1.trans hc, this.2⟩
  induction s with
  | agg s ih =>
    intro p w w' col col' pth m x cs H V hne
    cases p with
    | nil => exact H
    | cons i p =>
      by_cases hi : i = 0
      · subst hi
        have H : Rep P s w col (subH (some (0 :: p)) 0) (pth ++ [0]) (agM m) x cs := H
        show Rep P s w' col' (subH (some (0 :: p)) 0) (pth ++ [0]) (agM m) x cs
        simp only [subH, if_true] at H ⊢
        exact ih p H (by simpa using V) (by simp)
      · have H : Rep P s w col (subH (some (i :: p)) 0) (pth ++ [0]) (agM m) x cs := H
        show Rep P s w' col' (subH (some (i :: p)) 0) (pth ++ [0]) (agM m) x cs
        have e : subH (some (i :: p)) 0 = none := by simp [subH]; omega
        rw [e] at H ⊢
        exact sib V hne (fun e => hi e.symm) H
  | pair a b iha ihb =>
    intro p w w' col col' pth m x cs H V hne
    cases p with
    | nil => exact H
    | cons i p =>
      obtain ⟨c1, c2, e, H1, H2⟩ := H
      have H1 : Rep P a w col (subH (some (i :: p)) 0) (pth ++ [0]) (prA m) x.1 c1 := H1
      have H2 : Rep P b w col (subH (some (i :: p)) 1) (pth ++ [1]) (prB m) x.2 c2 := H2
      refine ⟨c1, c2, e, ?_, ?_⟩
      · show Rep P a w' col' (subH (some (i :: p)) 0) (pth ++ [0]) (prA m) x.1 c1
        by_cases hi : i = 0
        · subst hi
          simp only [subH, if_true] at H1 ⊢
          exact iha p H1 (by simpa using V) (by simp)
        · have e : subH (some (i :: p)) 0 = none := by simp [subH]; omega
          rw [e] at H1 ⊢
          exact sib V hne (fun e => hi e.symm) H1
      · show Rep P b w' col' (subH (some (i :: p)) 1) (pth ++ [1]) (prB m) x.2 c2
        by_cases hi : i = 1
        · subst hi
          simp only [subH, if_true] at H2 ⊢
          exact ihb p H2 (by simpa using V) (by simp)
        · have e : subH (some (i :: p)) 1 = none := by simp [subH]; omega
          rw [e] at H2 ⊢
          exact sib V hne (fun e => hi e.symm) H2
  | ptr s ih =>
    intro p w w' col col' pth m x cs H V hne
    cases p with
    | nil => exact H
    | cons i p =>
      obtain ⟨ad, ds, h1, h2, h3, h4, h5, h6⟩ := H
      have h6 : Rep P s w col (subH (some (i :: p)) 0) (pth ++ [0]) (elemM m) x ds := h6
      have hm : w'.heap[ad.block]? = w.heap[ad.block]? := by
        cases hm : isOw m
        · exact (V.quiet (by simp) (h4 hm).2 (.inr (h4 hm).1)).2
        · exact (here V _ (h3 hm).2.lt (h3 hm).1).2
      refine ⟨ad, ds, h1, h2, fun hm' => ⟨(here V _ (h3 hm').2.lt (h3 hm').1).1, (h3 hm').2.frame hm⟩, fun hm' => ⟨((V.quiet (by simp) (h4 hm').2 (.inr (h4 hm').1)).1).trans (h4 hm').1, Nat.lt_of_lt_of_le (h4 hm').2 V.sz⟩, h5.frame hm, ?_⟩
      show Rep P s w' col' (subH (some (i :: p)) 0) (pth ++ [0]) (elemM m) x ds
      by_cases hi : i = 0
      · subst hi
        simp only [subH, if_true] at h6 ⊢
        exact ih p h6 (by simpa using V) (by simp)
      · have e : subH (some (i :: p)) 0 = none := by simp [subH]; omega
        rw [e] at h6 ⊢
        exact sib V hne (fun e => hi e.symm) h6
  | slice nl s ih =>
    intro p w w' col col' pth m xs cs H V hne
    cases p with
    | nil => exact H
    | cons i p =>
      obtain ⟨a, c, h1, h2, h3, h4, h5⟩ := H
      refine ⟨a, c, h1, h2, h3, h4, fun ad ha => ?_⟩
      obtain ⟨g1, g2, g3, g4⟩ := h5 ad ha
      refine ⟨g1, fun hm' => ⟨(here V _ (g2 hm').2.lt (g2 hm').1).1, (g2 hm').2.frame (here V _ (g2 hm').2.lt (g2 hm').1).2⟩, fun hm' => (g3 hm').imp id fun ⟨k1, k2⟩ => ⟨((V.quiet (by simp) k2 (.inr k1)).1).trans k1, Nat.lt_of_lt_of_le k2 V.sz⟩, fun j y hj => ?_⟩
      obtain ⟨ds, k1, k2⟩ := g4 j y hj
      have k2 : Rep P s w col (subH (some (i :: p)) j) (pth ++ [j]) (elemM m) y ds := k2
      have hm : w'.heap[ad.block]? = w.heap[ad.block]? := by
        cases hm : isOw m
        · rcases g3 hm with h | h
          · rw [h] at hj; simp at hj
          · exact (V.quiet (by simp) h.2 (.inr h.1)).2
        · exact (here V _ (g2 hm).2.lt (g2 hm).1).2
      refine ⟨ds, k1.frame hm, ?_⟩
      show Rep P s w' col' (subH (some (i :: p)) j) (pth ++ [j]) (elemM m) y ds
      by_cases hi : j = i
      · subst hi
        simp only [subH, if_true] at k2 ⊢
        exact ih p k2 (by simpa using V) (by simp)
      · have e : subH (some (i :: p)) j = none := by simp [subH, hi]
        rw [e] at k2 ⊢
        exact sib V hne hi k2
  | func a b =>
    intro p w w' col col' pth m x cs H V hne
    cases p with
    | nil => exact H
    | cons i p =>
      have H0 : Rep P (.func a b) w col none pth m x cs := H
      have key : ∀ b', b' < w.heap.size → col b' = some [] → col' b' = some [] ∧ w'.heap[b']? = w.heap[b']? := fun b' hb hc => by
        have := V.quiet (by simp) hb (.inr hc)
        exact ⟨this.1.trans hc, this.2⟩
      have hno : ∀ q, ownAt (.func a b) q m = false := fun q => by cases q <;> rfl
      have : Rep P (.func a b) w' col' none pth m x cs := H0.re _ ⟨le_refl _, fun b' q _ _ ho => (by rw [hno] at ho; cases ho), fun b' q _ _ ho => (by rw [hno] at ho; cases ho), fun b' hb hc => (key b' hb hc).1, fun b' hb hq => (by
        rcases hq with hq | ⟨q, _, ho⟩
        · exact (key b' hb hq).2
        · rw [hno] at ho; cases ho), V.sz⟩
      exact this
  | map k v =>
    intro p w w' col col' pth m x cs H V hne
    cases p with
    | nil => exact H
    | cons i p =>
      obtain ⟨r, es, clock, e, hh, he, ho, hn⟩ := H
      have hlt : r < w.heap.size := (Array.getElem?_eq_some_iff.1 hh).1
      cases hm : isOw m
      · have := V.quiet (by simp) hlt (.inr (hn hm))
        exact ⟨r, es, clock, e, this.2.trans hh, he, fun h => (by rw [hm] at h; cases h), fun _ => this.1.trans (hn hm)⟩
      · have := here V _ hlt (ho hm)
        exact ⟨r, es, clock, e, this.2.trans hh, he, fun _ => this.1, fun h => (by rw [hm] at h; cases h)⟩
  | _ => intro p w w' col col' pth m x cs H V hne; exact H
end Go.Ev

noncomputable section
namespace Go.Ev
variable {P : Program}
theorem Nav.stayP : ∀ (s : S) (q : List Nat) {w w' : World} {col : Col} {h : Option (List Nat)} {pth : List Nat} {m : M} {x : El s} {cs cs' : List Value} {oa oa' : Option Addr},
    Rep P s w col h pth m x cs → offH h q → Nav w s q cs oa cs' oa' →
    (∀ b, b < w.heap.size → (col b = some [] ∨ ∃ q1 i q2, col b = some (pth ++ q1) ∧ q = q1 ++ i :: q2) → w'.heap[b]? = w.heap[b]?) → Nav w' s q cs oa cs' oa' := by
  intro s
  induction s with
  | agg s ih =>
    intro p w w' col h pth m x cs cs' oa oa' H off hn V
    cases p with
    | nil => exact hn
    | cons i p =>
      obtain ⟨rfl, hn⟩ := hn
      refine ⟨rfl, ih p (hole.get (show hole h cs (size s) (Rep P s w col (subH h 0) (pth ++ [0]) (agM m) x cs) from H) off.1) off.2 hn (fun b hb hc => V b hb (hc.imp id fun ⟨q1, j, q2, h1, h2⟩ => ⟨0 :: q1, j, q2, by simpa using h1, by rw [h2]; rfl⟩))⟩
  | pair a b iha ihb =>
    intro p w w' col h pth m x cs cs' oa oa' H off hn V
    cases p with
    | nil => exact hn
    | cons i p =>
      obtain ⟨c1, c2, e, H1, H2⟩ := hole.get (show hole h cs (size a + size b) (∃ c1 c2, cs = c1 ++ c2 ∧ Rep P a w col (subH h 0) (pth ++ [0]) (prA m) x.1 c1 ∧ Rep P b w col (subH h 1) (pth ++ [1]) (prB m) x.2 c2) from H) off.1
      obtain ⟨d1, d2, e', l1, hn⟩ := hn
      have := List.append_inj (e.symm.trans e') (H1.len.trans l1.symm)
      obtain ⟨rfl, rfl⟩ := this
      refine ⟨c1, c2, e', l1, ?_⟩
      match i with
      | 0 => exact iha p H1 off.2 hn (fun b hb hc => V b hb (hc.imp id fun ⟨q1, j, q2, h1, h2⟩ => ⟨0 :: q1, j, q2, by simpa using h1, by rw [h2]; rfl⟩))
      | 1 => exact ihb p H2 off.2 hn (fun b hb hc => V b hb (hc.imp id fun ⟨q1, j, q2, h1, h2⟩ => ⟨1 :: q1, j, q2, by simpa using h1, by rw [h2]; rfl⟩))
      | _ + 2 => exact absurd hn id
  | ptr s ih =>
    intro p w w' col h pth m x cs cs' oa oa' H off hn V
    cases p with
    | nil => exact hn
    | cons i p =>
      obtain ⟨b, ds, e, hs, ho, hns, ha, H'⟩ := hole.get (show hole h cs 1 (∃ ad ds, cs = [.pointer (some ad)] ∧ ad.spot = none ∧
        (isOw m = true → col ad.block = some pth ∧ OwnB w ad.block (ad.off + size s)) ∧
        (isOw m = false → col ad.block = some [] ∧ ad.block < w.heap.size) ∧
        At w ad.block ad.off ds ∧ Rep P s w col (subH h 0) (pth ++ [0]) (elemM m) x ds) from H) off.1
      obtain ⟨rfl, b', ds', e', hs', l, ha', hn⟩ := hn
      rw [e] at e'
      simp at e'
      subst e'
      have := ha.unique ha' (H'.len.trans l.symm)
      subst this
      have hm : w'.heap[b.block]? = w.heap[b.block]? := by
        cases hm : isOw m
        · exact V _ (hns hm).2 (.inl (hns hm).1)
        · exact V _ (ho hm).2.lt (.inr ⟨[], _, p, by simpa using (ho hm).1, rfl⟩)
      exact ⟨rfl, b, ds, e, hs, l, ha.frame hm, ih p H' off.2 hn (fun b hb hc => V b hb (hc.imp id fun ⟨q1, j, q2, h1, h2⟩ => ⟨0 :: q1, j, q2, by simpa using h1, by rw [h2]; rfl⟩))⟩
  | slice nl s ih =>
    intro p w w' col h pth m xs cs cs' oa oa' H off hn V
    cases p with
    | nil => exact hn
    | cons i p =>
      obtain ⟨ab, c, e, hlen, hnl, hnone, H⟩ := hole.get (show hole h cs 1 (∃ a c, cs = [.slice a xs.length c] ∧ xs.length ≤ c ∧ (nl = true → xs = [] → a = none) ∧
        (a = none → xs = [] ∧ c = 0) ∧
        ∀ ad, a = some ad → (c ≠ 0 ∨ isOw m = true → ad.spot = none) ∧
        (isOw m = true → col ad.block = some pth ∧ OwnB w ad.block (ad.off + c * size s)) ∧
        (isOw m = false → xs = [] ∨ (col ad.block = some [] ∧ ad.block < w.heap.size)) ∧
        ∀ i x, xs[i]? = some x → ∃ ds, At w ad.block (ad.off + i * size s) ds ∧ Rep P s w col (subH h i) (pth ++ [i]) (elemM m) x ds) from H) off.1
      obtain ⟨b', n', c', ds', e', hin, hs', l, ha', hn⟩ := hn
      rw [e] at e'
      simp at e'
      obtain ⟨rfl, rfl, rfl⟩ := e'
      obtain ⟨hs, ho, hns, hx⟩ := H b' rfl
      obtain ⟨ds, ha, H'⟩ := hx i _ (List.getElem?_eq_getElem hin)
      have := ha.unique ha' (H'.len.trans l.symm)
      subst this
      have hm : w'.heap[b'.block]? = w.heap[b'.block]? := by
        cases hm : isOw m
        · rcases hns hm with h | h
          · rw [h] at hin; simp at hin
          · exact V _ h.2 (.inl h.1)
        · exact V _ (ho hm).2.lt (.inr ⟨[], _, p, by simpa using (ho hm).1, rfl⟩)
      exact ⟨b', _, _, ds, e, hin, hs', l, ha.frame hm, ih p H' off.2 hn (fun b hb hc => V b hb (hc.imp id fun ⟨q1, j, q2, h1, h2⟩ => ⟨i :: q1, j, q2, by simpa using h1, by rw [h2]; rfl⟩))⟩
  | _ => intro p w w' col h pth m x cs cs' oa oa' H off hn V; exact hn
theorem keepA_or (r : Nat) (s : S) (p : List Nat) (sl : Slot) : keepA r s p sl = sl ∨ keepA r s p sl = .dead := by
  cases sl with
  | al r' q =>
    show bif3 (r' == r) (bif3 (mayPre s p q) Slot.dead (.al r' q)) (.al r' q) = _ ∨ bif3 (r' == r) (bif3 (mayPre s p q) Slot.dead (.al r' q)) (.al r' q) = _
    cases r' == r
    · exact .inl rfl
    · cases mayPre s p q
      · exact .inl rfl
      · exact .inr rfl
  | pl r' q =>
    show bif3 (r' == r) (bif3 (mayPre s p q) Slot.dead (.pl r' q)) (.pl r' q) = _ ∨ bif3 (r' == r) (bif3 (mayPre s p q) Slot.dead (.pl r' q)) (.pl r' q) = _
    cases r' == r
    · exact .inl rfl
    · cases mayPre s p q
      · exact .inl rfl
      · exact .inr rfl
  | _ => exact .inl rfl
theorem mayPre_off : ∀ (s : S) (p q : List Nat) {x : El s}, okP s p x → okP s q x → mayPre s p q = false → offH (some p) q := by
  have qnil : ∀ (p : List Nat), offH (some p) [] := fun _ => trivial
  have step : ∀ {p q : List Nat} {i j : Nat}, (i = j → offH (some p) q) → offH (some (i :: p)) (j :: q) := by
    intro p q i j h
    refine ⟨by simp, ?_⟩
    show offH (if j = i then some p else none) q
    by_cases e : j = i
    · rw [if_pos e]; exact h e.symm
    · rw [if_neg e]; exact offH_none _
  intro s
  induction s with
  | agg s ih =>
    intro p q x hp hq h
    cases q with
    | nil => exact qnil _
    | cons j q => cases p with
      | nil => simp [mayPre] at h
      | cons i p => exact step fun _ => ih p q hp.2 hq.2 h
  | ptr s ih =>
    intro p q x hp hq h
    cases q with
    | nil => exact qnil _
    | cons j q => cases p with
      | nil => simp [mayPre] at h
      | cons i p => exact step fun _ => ih p q hp.2 hq.2 h
  | slice nl s ih =>
    intro p q x hp hq h
    cases q with
    | nil => exact qnil _
    | cons j q => cases p with
      | nil => simp [mayPre] at h
      | cons i p =>
        obtain ⟨y, hy, hp⟩ := hp
        obtain ⟨z, hz, hq⟩ := hq
        refine step fun e => ?_
        subst e
        rw [hy] at hz
        injection hz with hz
        subst hz
        exact ih p q hp hq h
  | pair a b iha ihb =>
    intro p q x hp hq h
    cases q with
    | nil => exact qnil _
    | cons j q => cases p with
      | nil => simp [mayPre] at h
      | cons i p =>
        refine step fun e => ?_
        subst e
        match i with
        | 0 => exact iha p q hp hq h
        | 1 => exact ihb p q hp hq h
        | _ + 2 => exact absurd hp id
  | _ =>
    intro p q x hp hq h
    have hq : q = [] := hq
    subst hq
    exact qnil _
theorem InvC.opened {B : Base} {a : Act} {w : World} {col : Col} {σ : List Slot} {r : Nat} {p : List Nat} {s : S} {m : M} {x : El s} (I : InvC P B col σ a w) (hg : gs σ r = .val s m x) (hpn : p ≠ []) (ok : okP s p x) :
    InvC P B col (ps (σ.map (keepA r s p)) r (.hol s m x p)) a w := by
  have hl : r < σ.length := lt_of_gs hg (by simp)
  have hk := I.ok r
  rw [hg] at hk
  obtain ⟨cs, g1, g2⟩ := hk
  have hgs : gs (ps (σ.map (keepA r s p)) r (.hol s m x p)) r = .hol s m x p := gs_ps_same _ _ _ (by simpa using hl)
  have hgt : ∀ t, t ≠ r → gs (ps (σ.map (keepA r s p)) r (.hol s m x p)) t = keepA r s p (gs σ t) := fun t ht => by rw [gs_ps_ne _ _ _ _ ht, gs_map _ rfl]
  refine I.chg (by rw [length_ps, List.length_map]) (fun _ _ _ => rfl) (fun t => ?_)
  by_cases ht : t = r
  · subst ht
    rw [hgs]
    exact ⟨hpn, cs, g1.openH, g2⟩
  · rw [hgt t ht]
    have h := I.ok t
    have other : ∀ r', r' ≠ r → (gs σ r').isRoot = true → gs (ps (σ.map (keepA r s p)) r (.hol s m x p)) r' = gs σ r' := fun r' hr' hro => by
      rw [hgt r' hr']
      cases hs : gs σ r' <;> rw [hs] at hro <;> first | rfl | cases hro
    rcases keepA_or r s p (gs σ t) with e | e
    · rw [e]
      cases hs : gs σ t with
      | al r' q =>
        rw [hs] at h e
        refine ⟨h.1, ?_⟩
        by_cases hr' : r' = r
        · subst hr'
          have hm : mayPre s p q = false := by
            have e : bif3 (r' == r') (bif3 (mayPre s p q) Slot.dead (.al r' q)) (.al r' q) = .al r' q := e
            rw [beq_self_eq_true] at e
            cases hb : mayPre s p q
            · rfl
            · rw [hb] at e; cases e
          rcases h.2 with ⟨cs', e', _⟩ | ⟨c, hh, pth, q', u, hr, hcp⟩
          · rw [hg] at e'; cases e'
          · obtain ⟨rfl, rfl, rfl, rfl, rfl⟩ := Roots.of (.inl ⟨hg, rfl⟩) hr
            exact .inr ⟨⟨s, m, x⟩, _, _, _, _, .hol hgs (mayPre_off s p q' ok hcp.1 hm), hcp⟩
        · exact AlOk.ctx h.2 (other r' hr' (AlOk.isRoot h.2)) rfl
      | pl r' q =>
        rw [hs] at h e
        refine ⟨h.1, ?_⟩
        by_cases hr' : r' = r
        · subst hr'
          have hm : mayPre s p q = false := by
            have e : bif3 (r' == r') (bif3 (mayPre s p q) Slot.dead (.pl r' q)) (.pl r' q) = .pl r' q := e
            rw [beq_self_eq_true] at e
            cases hb : mayPre s p q
            · rfl
            · rw [hb] at e; cases e
          obtain ⟨c, hh, pth, q', u, hr, hcp⟩ := h.2
          obtain ⟨rfl, rfl, rfl, rfl, rfl⟩ := Roots.of (.inl ⟨hg, rfl⟩) hr
          exact ⟨⟨s, m, x⟩, _, _, _, _, .hol hgs (mayPre_off s p q' ok hcp.1 hm), hcp⟩
        · exact PlOk.ctx h.2 (other r' hr' (PlOk.isRoot h.2)) rfl
      | _ => rw [hs] at h; exact h
    · rw [e]; trivial
theorem offH_pre : ∀ (h q1 q2 : List Nat) (i : Nat), offH (some h) (q1 ++ i :: q2) → h ≠ q1
  | [], [], q2, i, off, _ => off.1 rfl
  | [], j :: q1, q2, i, _, e => by cases e
  | k :: h, [], q2, i, _, e => by cases e
  | k :: h, j :: q1, q2, i, off, e => by
    injection e with e1 e2
    subst e1
    have := off.2
    simp only [subH, if_true] at this
    exact offH_pre h q1 q2 i this e2
end Go.Ev

noncomputable section
namespace Go.Ev
variable {P : Program}
def FreeX (σ : List Slot) (pth : List Nat) : Prop := ∃ r q, pth = r :: q ∧ ((gs σ r).isRoot = false ∨ ∃ s m x hp, gs σ r = .hol s m x hp ∧ hp = q)
theorem FreeX.ne {σ : List Slot} {p : List Nat} (h : FreeX σ p) : p ≠ [] := by obtain ⟨r, q, rfl, _⟩ := h; simp
theorem FreeX.of {σ : List Slot} {r : Nat} {q : List Nat} (h : (gs σ r).isRoot = false) : FreeX σ (r :: q) := ⟨r, q, rfl, .inl h⟩
theorem RootOk.freeX {w : World} {col : Col} {σ : List Slot} {t : Nat} {v : Value} {p : List Nat} (hf : FreeX σ p) (h : RootOk P w col t v (gs σ t)) (f : List Nat → Option (List Nat)) : RootOk P w (reCol col f p) t v (gs σ t) := by
  obtain ⟨r, q, rfl, hf⟩ := hf
  by_cases e : t = r
  · subst e
    rcases hf with hf | ⟨s, m, x, hp, hs, rfl⟩
    · cases hs : gs σ t <;> rw [hs] at h hf <;> first | exact h | trivial | (simp [Slot.isRoot] at hf)
    · rw [hs] at h ⊢
      obtain ⟨h0, cs, h1, h2⟩ := h
      refine ⟨h0, cs, h1.offHole s hp ⟨Nat.le_refl _, fun b _ hb => ⟨reCol_ne _ _ _ hb, rfl⟩⟩ (by simp), h2⟩
  · exact h.apart e q f
theorem InvC.recolX {B : Base} {col : Col} {σ : List Slot} {a : Act} {w : World} (I : InvC P B col σ a w) {p : List Nat} (hf : FreeX σ p) (f : List Nat → Option (List Nat)) : InvC P B (reCol col f p) σ a w := by
  refine I.chg rfl (fun b _ hq => reCol_quiet col f hf.ne hq) (fun t => ?_)
  have h := I.ok t
  have hR := fun h => RootOk.freeX (P := P) (w := w) (col := col) (v := Act.V a t) hf (t := t) h f
  cases hs : gs σ t with
  | al r q => rw [hs] at h; exact h
  | pl r q => rw [hs] at h; exact h
  | dead => trivial
  | undef => rw [hs] at h; exact h
  | val s m x => rw [hs] at h hR; exact hR h
  | hol s m x hp => rw [hs] at h hR; exact hR h
  | tup cs => rw [hs] at h hR; exact hR h
theorem InvC.wrOff {B : Base} {col : Col} {σ : List Slot} {a : Act} {w w' : World} (I : InvC P B col σ a w) {r : Nat} {q : List Nat} (hf : FreeX σ (r :: q)) {ad : Addr} {ns : List Value} (hc : col ad.block = some (r :: q)) (W : Wr w w' ad ns) : InvC P B col σ a w' := by
  refine ⟨I.len, I.dfr, ⟨by rw [W.sz]; exact I.frm.sz, fun b hb hq => ?_, I.frm.col, I.frm.out.trans W.same⟩, fun t => ?_⟩
  · have hcb := I.frm.col b hb hq
    rw [W.other b (by rintro rfl; rw [hc] at hcb; rw [← hcb] at hq; rcases hq with hq | hq <;> cases hq)]
    exact I.frm.mem b hb hq
  · have hk := I.ok t
    have hR : RootOk P w col t (Act.V a t) (gs σ t) → RootOk P w' col t (Act.V a t) (gs σ t) := fun h => by
      by_cases ht : t = r
      · subst ht
        obtain ⟨r', q', e, hf⟩ := hf
        injection e with e1 e2
        subst e1; subst e2
        rcases hf with hf | ⟨s, m, x, hp, hs, rfl⟩
        · cases hs : gs σ t <;> rw [hs] at h hf <;> first | exact h | trivial | (simp [Slot.isRoot] at hf)
        · rw [hs] at h ⊢
          obtain ⟨h0, cs, h1, h2⟩ := h
          refine ⟨h0, cs, h1.offHole s hp ⟨Nat.le_of_eq W.sz.symm, fun b _ hb => ⟨rfl, W.other b (fun e => hb [] (by rw [e, hc]; simp))⟩⟩ (by simp), h2⟩
      · exact h.wr ht hc W
    have nav : ∀ {r' : Nat} {p' : List Nat} {c : Comp} {hh : Option (List Nat)} {pth q1 : List Nat} {u : Value} {c1 c2 : List Value} {oa : Option Addr}, RootIs σ (Act.V a) r' p' c hh pth q1 u → IsVal c.s u c1 → Nav w c.s q1 c1 none c2 oa → Nav w' c.s q1 c1 none c2 oa := by
      intro r' p' c hh pth q1 u c1 c2 oa hr k1 k2
      by_cases hr' : r' = r
      · subst hr'
        obtain ⟨r0, q0, e, hf⟩ := hf
        injection e with e1 e2
        subst e1; subst e2
        rcases hf with hf | ⟨s, m, x, hp, hs, rfl⟩
        · rw [hr.isRoot] at hf; cases hf
        · obtain ⟨rfl, rfl, rfl, rfl, rfl⟩ := Roots.of (.inr ⟨_, hs, rfl⟩) hr
          obtain ⟨cs0, h1, h2⟩ := I.root hr
          have := h2.unique k1
          subst this
          refine k2.stayP _ _ h1 hr.off (fun b hb hq => W.other b ?_)
          rintro rfl
          rcases hq with hq | ⟨a1, i, a2, hq, e⟩
          · rw [hq] at hc; cases hc
          · rw [hq] at hc
            injection hc with hc
            injection hc with _ hc
            subst hc
            have off := hr.off
            rw [e] at off
            exact offH_pre _ _ _ _ off rfl
      · exact hr.nav I hr' hc W k1 k2
    cases hs : gs σ t with
    | val s1 m1 x1 => rw [hs] at hk hR; exact hR hk
    | hol s1 m1 x1 hp1 => rw [hs] at hk hR; exact hR hk
    | tup cs1 => rw [hs] at hk hR; exact hR hk
    | dead => trivial
    | undef => rw [hs] at hk; exact hk
    | al r' q' =>
      rw [hs] at hk
      refine ⟨hk.1, ?_⟩
      rcases hk.2 with h | ⟨c, hh, pth, q1, u, hr, okq, c1, c2, oa, k1, k2, k3⟩
      · exact .inl h
      · exact .inr ⟨c, hh, pth, q1, u, hr, okq, c1, c2, oa, k1, nav hr k1 k2, k3⟩
    | pl r' q' =>
      rw [hs] at hk
      refine ⟨hk.1, ?_⟩
      obtain ⟨c, hh, pth, q1, u, hr, okq, c1, c2, oa, k1, k2, k3⟩ := hk.2
      exact ⟨c, hh, pth, q1, u, hr, okq, c1, c2, oa, k1, nav hr k1 k2, k3⟩
def Pieces (P : Program) (w : World) (col : Col) (pth : List Nat) (s : S) (m : M) (k : Nat) (xs : List (El s)) (L : List Value) : Prop :=
  L.length = xs.length * size s ∧ ∀ i x, xs[i]? = some x → Rep P s w col none (pth ++ [k + i]) m x ((L.drop (i * size s)).take (size s))
theorem Pieces.imp {w w' : World} {col col' : Col} {pth pth' : List Nat} {s : S} {m m' : M} {k k' : Nat} {xs : List (El s)} {L : List Value} (H : Pieces P w col pth s m k xs L)
    (h : ∀ i x ds, xs[i]? = some x → Rep P s w col none (pth ++ [k + i]) m x ds → Rep P s w' col' none (pth' ++ [k' + i]) m' x ds) : Pieces P w' col' pth' s m' k' xs L :=
  ⟨H.1, fun i x hi => h i x _ hi (H.2 i x hi)⟩
theorem Pieces.append {w : World} {col : Col} {pth : List Nat} {s : S} {m : M} {k : Nat} {xs ys : List (El s)} {L L' : List Value} (H : Pieces P w col pth s m k xs L) (H' : Pieces P w col pth s m (k + xs.length) ys L') :
    Pieces P w col pth s m k (xs ++ ys) (L ++ L') := by
  refine ⟨by rw [List.length_append, List.length_append, H.1, H'.1, Nat.add_mul], fun i x hi => ?_⟩
  rcases Nat.lt_or_ge i xs.length with h | h
  · rw [List.getElem?_append_left h] at hi
    have := H.2 i x hi
    have h5 : (i + 1) * size s ≤ xs.length * size s := Nat.mul_le_mul_right _ h
    rw [Nat.succ_mul] at h5
    rw [List.drop_append_of_le_length (by rw [H.1]; omega), List.take_append_of_le_length (by rw [List.length_drop, H.1]; omega)]
    exact this
  · rw [List.getElem?_append_right h] at hi
    have := H'.2 _ x hi
    rw [show k + xs.length + (i - xs.length) = k + i by omega] at this
    have e : i * size s = L.length + (i - xs.length) * size s := by
      rw [H.1, ← Nat.add_mul]; congr 1; omega
    rw [e, List.drop_append]
    simp only [Nat.add_sub_cancel_left]
    rw [List.drop_eq_nil_of_le (by omega), List.nil_append]
    exact this
theorem At.append {w : World} {b off : Nat} {L L' : List Value} (h : At w b off L) (h' : At w b (off + L.length) L') : At w b off (L ++ L') := by
  intro i v hi
  rcases Nat.lt_or_ge i L.length with h1 | h1
  · rw [List.getElem?_append_left h1] at hi; exact h i v hi
  · rw [List.getElem?_append_right h1] at hi
    have := h' _ v hi
    rw [show off + L.length + (i - L.length) = off + i by omega] at this
    exact this
theorem At.part {w : World} {b off : Nat} {L : List Value} (h : At w b off L) (k n : Nat) : At w b (off + k) ((L.drop k).take n) := by
  intro i v hi
  have hi' : (L.drop k)[i]? = some v := by
    rw [List.getElem?_take] at hi
    split at hi
    · exact hi
    · cases hi
  rw [List.getElem?_drop] at hi'
  have := h _ v hi'
  rw [← Nat.add_assoc] at this
  exact this
theorem pieces_of {w : World} {col : Col} {pth : List Nat} {s : S} {m : M} {b : Nat} : ∀ (xs : List (El s)) (k off : Nat), (∀ i x, xs[i]? = some x → ∃ ds, At w b (off + i * size s) ds ∧ Rep P s w col none (pth ++ [k + i]) m x ds) →
    ∃ L, At w b off L ∧ Pieces P w col pth s m k xs L
  | [], k, off, _ => ⟨[], fun i v h => by simp at h, by simp [Pieces]⟩
  | x :: xs, k, off, h => by
    obtain ⟨ds, h1, h2⟩ := h 0 x rfl
    obtain ⟨L, g1, g2⟩ := pieces_of xs (k + 1) (off + size s) (fun i y hi => by
      obtain ⟨ds, h1, h2⟩ := h (i + 1) y hi
      refine ⟨ds, ?_, ?_⟩
      · rw [Nat.succ_mul] at h1
        rw [show off + size s + i * size s = off + (i * size s + size s) by omega]
        exact h1
      · rw [show k + 1 + i = k + (i + 1) by omega]; exact h2)
    have hl := h2.len
    refine ⟨ds ++ L, ?_, ?_⟩
    · simp only [Nat.zero_mul, Nat.add_zero] at h1
      exact h1.append (by rw [hl]; exact g1)
    · have hp : Pieces P w col pth s m k [x] ds := by
        refine ⟨by simp [hl], fun i y hi => ?_⟩
        cases i with
        | zero =>
          simp at hi
          subst hi
          simp only [Nat.zero_mul, List.drop_zero]
          rw [List.take_of_length_le (by omega)]
          exact h2
        | succ i => simp at hi
      exact hp.append (xs := [x]) (by simpa using g2)
theorem SliceRep.mk' {w : World} {col : Col} {pth : List Nat} {nl : Bool} {s : S} {m : M} {xs : List (El s)} {L : List Value} {ad : Addr} {c : Nat} (hs : ad.spot = none) (hat : At w ad.block ad.off L) (hL : Pieces P w col pth s m 0 xs L)
    (hc : col ad.block = some pth) (ho : OwnB w ad.block (ad.off + c * size s)) (hlen : xs.length ≤ c) (hnl : nl = true → xs ≠ []) : Rep P (.slice nl s) w col none pth (.ow m) xs [.slice (some ad) xs.length c] := by
  refine ⟨some ad, c, rfl, hlen, fun h1 h2 => absurd h2 (hnl h1), fun h => (by cases h), fun ad' e => ?_⟩
  injection e with e
  subst e
  refine ⟨fun _ => hs, fun _ => ⟨hc, ho⟩, fun h => (by simp [isOw] at h), fun i x hi => ?_⟩
  refine ⟨_, hat.part (i * size s) (size s), ?_⟩
  have := hL.2 i x hi
  rw [Nat.zero_add] at this
  exact this
theorem elems_ok {B : Base} {col : Col} {σ σ2 : List Slot} {a : Act} {w : World} (I : InvC P B col σ a w) {v : Value} {sl : Slot} {fz : Bool} {c : Comp}
    (ho : OpdOk P w col σ a v sl) (ht : elems σ fz sl = some (c, σ2)) (free : Nat) (hfree : σ.length ≤ free) :
    ∃ col2 pth0 m0 cs, InvC P B col2 σ2 a w ∧ Later w σ col σ2 col2 ∧ Rep P c.s w col2 none pth0 m0 c.x cs ∧ IsVal c.s v cs ∧ ((noOwn (elemM m0) = true ∧ c.m = .sh) ∨ (m0 = c.m ∧ ∃ r, pth0 = [r] ∧ (gs σ2 r).isRoot = false ∧ (r = free ∨ (gs σ r).isRoot = true))) ∧
      (∀ t, gs σ t = .dead → gs σ2 t = .dead) := by
  have whole : ∀ {r : Nat} {p : List Nat} {s : S} {m : M} {x : El s}, gs σ r = .val s m x → AlOk w σ (Act.V a) r p v →
      ∃ cs, Rep P (subS s p) w col none ([r] ++ p) (subM s p m) (getP s p x) cs ∧ IsVal (subS s p) v cs := by
    intro r p s m x hg hal
    rcases hal with ⟨cs, e, hp, e2⟩ | ⟨c0, hh, pth, q, u, hr, hcp⟩
    · rw [hg] at e; cases e
    · obtain ⟨rfl, rfl, rfl, rfl, rfl⟩ := Roots.of (.inl ⟨hg, rfl⟩) hr
      obtain ⟨cs, h1, h2⟩ := I.copy hr hcp
      rw [subHs_none] at h1
      exact ⟨cs, h1, h2⟩
  cases sl with
  | val s m x =>
    simp only [elems, Option.some.injEq, Prod.mk.injEq] at ht
    obtain ⟨rfl, rfl⟩ := ht
    obtain ⟨cs, h1, h2, h3⟩ := OpdOk.reps ho
    exact ⟨col, [free], m, cs, I, Later.refl _ _ _, h1 _, h3, .inr ⟨rfl, free, rfl, by rw [gs_out _ _ hfree]; rfl, .inl rfl⟩, fun _ h => h⟩
  | al r p =>
    simp only [elems] at ht
    split at ht
    · rename_i s m x hg
      obtain ⟨cs, h1, h2⟩ := whole hg ho
      have frz : bif3 (noOwn (elemM (subM s p m))) (some ((⟨subS s p, .sh, getP s p x⟩ : Comp), σ)) (some (⟨subS s p, .sh, getP s p x⟩, ps σ r (.val s (setM s p m .sh) x))) = some (c, σ2) →
          ∃ col2 pth0 m0 cs, InvC P B col2 σ2 a w ∧ Later w σ col σ2 col2 ∧ Rep P c.s w col2 none pth0 m0 c.x cs ∧ IsVal c.s v cs ∧ ((noOwn (elemM m0) = true ∧ c.m = .sh) ∨ (m0 = c.m ∧ ∃ r, pth0 = [r] ∧ (gs σ2 r).isRoot = false ∧ (r = free ∨ (gs σ r).isRoot = true))) ∧
          (∀ t, gs σ t = .dead → gs σ2 t = .dead) := by
        intro ht
        rcases bif3_or ht with ⟨hn, ht⟩ | ⟨hn, ht⟩
        · simp only [Option.some.injEq, Prod.mk.injEq] at ht
          obtain ⟨rfl, rfl⟩ := ht
          exact ⟨col, _, _, cs, I, Later.refl _ _ _, h1, h2, .inl ⟨hn, rfl⟩, fun _ h => h⟩
        · simp only [Option.some.injEq, Prod.mk.injEq] at ht
          obtain ⟨rfl, rfl⟩ := ht
          have htk : take σ true (.al r p) = some (⟨subS s p, .sh, getP s p x⟩, ps σ r (.val s (setM s p m .sh) x), none) := by
            simp only [take, hg]
          obtain ⟨col2, pth, cs2, I2, L, hrep, hval, hfr, _⟩ := take_ok (fz := true) I ho htk
          refine ⟨col2, pth, .sh, cs2, I2, L, hrep, hval, .inl ⟨rfl, rfl⟩, fun t htd => ?_⟩
          have hne : t ≠ r := by rintro rfl; rw [hg] at htd; cases htd
          rw [gs_ps_ne _ _ _ _ hne]; exact htd
      split at ht
      · simp only [Option.some.injEq, Prod.mk.injEq] at ht
        obtain ⟨rfl, rfl⟩ := ht
        have hl : r < σ.length := lt_of_gs hg (by simp)
        rw [put_root (fun _ => rfl)]
        have hd : gs (Ev.put σ r .dead) r = .dead := gs_put_dead
        have e1 : subS s [] = s := subS_nil s
        have hk := I.ok r
        rw [hg] at hk
        obtain ⟨cs', g1, g2⟩ := hk
        have hv : IsVal s v cs' := by
          rcases ho with ⟨cs0, e, hp, e2⟩ | ⟨c0, hh, pth, q, u, hr, hcp⟩
          · rw [hg] at e; cases e
          · obtain ⟨rfl, rfl, rfl, rfl, rfl⟩ := Roots.of (.inl ⟨hg, rfl⟩) hr
            obtain ⟨_, cs1, cs2, oa, k1, k2, k3⟩ := hcp
            obtain ⟨rfl, _⟩ := Nav_nil' k2
            rw [subS_nil] at k3
            have := k1.unique g2
            subst this
            exact k3
        refine ⟨col, [r], m, cs', I.dead r, ⟨Less.put_dead, fun _ _ h => h⟩, g1, hv, .inr ⟨rfl, r, rfl, by rw [hd]; rfl, .inr (by rw [hg]; rfl)⟩, fun t ht => ?_⟩
        by_cases hne : t = r
        · rw [hne]; exact hd
        · rw [gs_put_ne hne, ht]; rfl
      · exact frz ht
    · cases ht
  | pl r p => simp [elems] at ht
  | dead => simp [elems] at ht
  | undef => simp [elems] at ht
  | tup cs => simp [elems] at ht
  | hol s m x p => simp [elems] at ht
theorem baseRow_ok {B : Base} {col : Col} {σ σ3 : List Slot} {a : Act} {w : World} (I : InvC P B col σ a w) {v : Value} {sl : Slot} {c : Comp}
    (ho : OpdOk P w col σ a v sl) (ht : baseRow σ sl = some (c, σ3)) (free : Nat) (hfree : σ.length ≤ free) :
    ∃ r q cs, InvC P B col σ3 a w ∧ Rep P c.s w col none (r :: q) c.m c.x cs ∧ IsVal c.s v cs ∧ isOw c.m = true ∧ FreeX σ3 (r :: q) ∧ (r = free ∨ (gs σ r).isRoot = true) ∧
      (∀ t, (gs σ t).isRoot = false → (gs σ3 t).isRoot = false) ∧ (∀ t, gs σ t = .dead → gs σ3 t = .dead) ∧ σ3.length = σ.length := by
  cases sl with
  | val s m x =>
    simp only [baseRow] at ht
    obtain ⟨hm, ht⟩ := bif3_some ht
    simp only [Option.some.injEq, Prod.mk.injEq] at ht
    obtain ⟨rfl, rfl⟩ := ht
    obtain ⟨cs, h1, h2, h3⟩ := OpdOk.reps ho
    have hr : (gs σ free).isRoot = false := by rw [gs_out _ _ hfree]; rfl
    exact ⟨free, [], cs, I, h1 _, h3, hm, .of hr, .inl rfl, fun _ h => h, fun _ h => h, rfl⟩
  | al r p =>
    simp only [baseRow] at ht
    split at ht
    · rename_i s m x hg
      have hl : r < σ.length := lt_of_gs hg (by simp)
      have hk := I.ok r
      rw [hg] at hk
      obtain ⟨cs', g1, g2⟩ := hk
      have hcp : Copy w ⟨s, m, x⟩ p (Act.V a r) v := by
        rcases ho with ⟨cs0, e, hp, e2⟩ | ⟨c0, hh, pth, q, u, hr, hcp⟩
        · rw [hg] at e; cases e
        · obtain ⟨rfl, rfl, rfl, rfl, rfl⟩ := Roots.of (.inl ⟨hg, rfl⟩) hr
          exact hcp
      have hroots : ∀ (y : Slot) (t : Nat), t ≠ r → gs (Ev.put σ r y) t = gs σ t ∨ gs (Ev.put σ r y) t = .dead := fun y t ht => by
        rw [gs_put_ne ht]
        cases (gs σ t).isAl r
        · exact .inl rfl
        · exact .inr rfl
      split at ht
      · obtain ⟨hm, ht⟩ := bif3_some ht
        simp only [Option.some.injEq, Prod.mk.injEq] at ht
        obtain ⟨rfl, rfl⟩ := ht
        rw [put_root (fun _ => rfl)]
        have hd : gs (Ev.put σ r .dead) r = .dead := gs_put_dead
        have hr : (gs (Ev.put σ r .dead) r).isRoot = false := by rw [hd]; rfl
        obtain ⟨_, cs1, cs2, oa, k1, k2, k3⟩ := hcp
        obtain ⟨rfl, _⟩ := Nav_nil' k2
        rw [subS_nil] at k3
        have := k1.unique g2
        subst this
        refine ⟨r, [], _, I.dead r, g1, k3, hm, .of hr, .inr (by rw [hg]; rfl), fun t ht => ?_, fun t ht => ?_, length_put _ _ _⟩
        · by_cases hne : t = r
          · rw [hne]; exact hr
          · rcases hroots .dead t hne with e | e <;> rw [e]
            · exact ht
            · rfl
        · by_cases hne : t = r
          · rw [hne]; exact hd
          · rw [gs_put_ne hne, ht]; rfl
      · rename_i hpne
        obtain ⟨hm, ht⟩ := bif3_some ht
        simp only [Option.some.injEq, Prod.mk.injEq] at ht
        obtain ⟨rfl, rfl⟩ := ht
        have hpn : p ≠ [] := fun e => hpne e
        have hgs : gs (ps (σ.map (keepA r s p)) r (.hol s m x p)) r = .hol s m x p := gs_ps_same _ _ _ (by simpa using hl)
        have hgt : ∀ t, t ≠ r → gs (ps (σ.map (keepA r s p)) r (.hol s m x p)) t = keepA r s p (gs σ t) := fun t ht => by rw [gs_ps_ne _ _ _ _ ht, gs_map _ rfl]
        obtain ⟨cs, h1, h2⟩ := I.copy (.val hg) hcp
        rw [subHs_none] at h1
        refine ⟨r, p, cs, I.opened hg hpn hcp.1, h1, h2, hm, ⟨r, p, rfl, .inr ⟨s, m, x, p, hgs, rfl⟩⟩, .inr (by rw [hg]; rfl), fun t ht => ?_, fun t ht => ?_, by rw [length_ps, List.length_map]⟩
        · by_cases hne : t = r
          · rw [hne, hg] at ht; simp [Slot.isRoot] at ht
          · rw [hgt t hne]
            rcases keepA_or r s p (gs σ t) with e | e <;> rw [e]
            · exact ht
            · rfl
        · by_cases hne : t = r
          · rw [hne, hg] at ht; cases ht
          · rw [hgt t hne, ht]; rfl
    · cases ht
  | pl r p => simp [baseRow] at ht
  | dead => simp [baseRow] at ht
  | undef => simp [baseRow] at ht
  | tup cs => simp [baseRow] at ht
  | hol s m x p => simp [baseRow] at ht
end Go.Ev

noncomputable section
namespace Go.Ev
variable {P : Program}
theorem Rep.recolUnder {s : S} {w : World} {col : Col} {p e p' : List Nat} {m : M} {x : El s} {cs : List Value} (H : Rep P s w col none (p ++ e) m x cs) (hp : p ≠ []) {f : List Nat → Option (List Nat)} (hf : ∀ q, f (e ++ q) = some (p' ++ q)) :
    Rep P s w (reCol col f p) none p' m x cs := by
  refine H.re s ⟨le_refl _, fun b q _ hc _ => ?_, fun b q _ hc h1 h2 => (by rw [h1] at h2; cases h2), fun b _ hc => ?_, fun _ _ _ => rfl, Nat.le_refl _⟩
  · rw [reCol_own col f p (e ++ q) (by rw [hc]; simp)]; exact hf q
  · rw [reCol_quiet col f hp (.inr hc)]; exact hc
theorem Pieces.oneCell {w : World} {col : Col} {pth : List Nat} {s : S} {m : M} {k : Nat} {xs : List (El s)} {L : List Value} (H : Pieces P w col pth s m k xs L) : ∀ v ∈ L, v.oneCell' = true := by
  intro v hv
  obtain ⟨j, hj⟩ := List.mem_iff_getElem?.1 hv
  have hjl : j < L.length := by
    rcases Nat.lt_or_ge j L.length with h | h
    · exact h
    · rw [List.getElem?_eq_none h] at hj; cases hj
  have hl := H.1
  have hpos : 0 < size s := by
    rcases Nat.eq_zero_or_pos (size s) with h | h
    · rw [h] at hl; omega
    · exact h
  have hi : j / size s < xs.length := by
    rw [Nat.div_lt_iff_lt_mul hpos]; omega
  have := H.2 (j / size s) _ (List.getElem?_eq_getElem hi)
  refine this.oneCell s v (List.mem_iff_getElem?.2 ⟨j % size s, ?_⟩)
  rw [List.getElem?_take_of_lt (Nat.mod_lt _ hpos), List.getElem?_drop, Nat.div_add_mod' j (size s)]
  exact hj
theorem Rep.lessUnder {s : S} {w : World} {col : Col} {d k : Nat} {nl : Bool} {m m0 : M} {x : El s} {cs : List Value} (H : Rep P s w col none [d, k] m0 x cs) (hle : le m m0 = true) :
    Rep P s w (reCol col (lessF (.slice nl s) (.ow m) [d]) [d]) none [d, k] m x cs := by
  refine H.re s ⟨hle, fun b q _ hc ho => ?_, fun b q _ hc _ ho => ?_, fun b _ hc => ?_, fun _ _ _ => rfl, Nat.le_refl _⟩
  · have hc' : col b = some ([d] ++ (k :: q)) := hc
    rw [reCol_own _ _ _ _ hc']
    have ho' : ownAt (.slice nl s) (k :: q) (.ow m) = true := ho
    unfold lessF
    rw [if_pos ho']; rfl
  · have hc' : col b = some ([d] ++ (k :: q)) := hc
    rw [reCol_own _ _ _ _ hc']
    have ho' : ¬ (ownAt (.slice nl s) (k :: q) (.ow m) = true) := by
      have : ownAt (.slice nl s) (k :: q) (.ow m) = false := ho
      rw [this]; simp
    unfold lessF
    rw [if_neg ho']
  · rw [reCol_quiet _ _ (by simp) (.inr hc)]; exact hc
theorem join_rows {B : Base} {col : Col} {σ : List Slot} {a : Act} {w : World} (I : InvC P B col σ a w) {r r1 d : Nat} {q : List Nat} (hf : FreeX σ (r :: q)) (hf1 : (gs σ r1).isRoot = false) (hd : (gs σ d).isRoot = false) (h1 : r ≠ r1) (h2 : d ≠ r) (h3 : d ≠ r1)
    {s : S} {m m1 : M} {xs ys : List (El s)} {Lx Ly : List Value} {nl : Bool} (hx : Pieces P w col (r :: q) s m 0 xs Lx) (hy : Pieces P w col [r1] s m1 0 ys Ly) {ad : Addr} {c : Nat} (hs : ad.spot = none)
    (hat : At w ad.block ad.off (Lx ++ Ly)) (hc : col ad.block = some (r :: q) ∨ col ad.block = some [d]) (ho : OwnB w ad.block (ad.off + c * size s)) (hlen : xs.length + ys.length ≤ c) (hnl : nl = true → xs ++ ys ≠ []) :
    ∃ col', InvC P B col' σ a w ∧ Rep P (.slice nl s) w col' none [d] (.ow (meet m m1)) (xs ++ ys) [.slice (some ad) (xs ++ ys).length c] := by
  let f1 : List Nat → Option (List Nat) := fun p => match p with
    | j :: p => some (d :: (xs.length + j) :: p)
    | [] => some []
  let colA := reCol col f1 [r1]
  let colB := reCol colA (moveF [d]) (r :: q)
  let colC := reCol colB (lessF (.slice nl s) (.ow (meet m m1)) [d]) [d]
  have I1 : InvC P B colA σ a w := I.recolX (.of hf1) f1
  have I2 : InvC P B colB σ a w := I1.recolX hf _
  have I3 : InvC P B colC σ a w := I2.recolX (.of hd) _
  have hb : colB ad.block = some [d] := by
    rcases hc with hc | hc
    · have : colA ad.block = some (r :: q) := by
        show reCol col f1 [r1] _ = _
        rw [reCol_ne _ _ _ (fun q' e => by rw [hc] at e; simp at e; exact h1 e.1)]; exact hc
      show reCol colA _ _ _ = _
      rw [reCol_own colA _ (r :: q) [] (by rw [this]; simp)]; rfl
    · have : colA ad.block = some [d] := by
        show reCol col f1 [r1] _ = _
        rw [reCol_ne _ _ _ (fun q' e => by rw [hc] at e; simp at e; exact h3 e.1)]; exact hc
      show reCol colA _ _ _ = _
      rw [reCol_ne _ _ _ (fun q' e => by rw [this] at e; simp at e; exact h2 e.1)]; exact this
  have hb2 : colC ad.block = some [d] := by
    show reCol colB _ _ _ = _
    rw [reCol_own colB _ [d] [] (by rw [hb]; simp)]
    unfold lessF
    rw [if_pos (by rfl)]; rfl
  have px : Pieces P w colC [d] s (meet m m1) 0 xs Lx := hx.imp fun i x ds hi H => by
    have H1 : Rep P s w colA none (r :: q ++ [0 + i]) m x ds := H.apart (Apart.root h1 _ _) (by simp) _
    have H2 : Rep P s w colB none [d, 0 + i] m x ds := H1.recolUnder (by simp) (f := moveF [d]) (fun q' => by simp [moveF])
    exact H2.lessUnder (meet_le_left _ _)
  have py : Pieces P w colC [d] s (meet m m1) (0 + xs.length) ys Ly := hy.imp fun i x ds hi H => by
    have H1 : Rep P s w colA none [d, 0 + xs.length + i] m1 x ds := Rep.recolUnder (p := [r1]) (e := [0 + i]) H (by simp) (fun q' => by simp [f1])
    have H2 : Rep P s w colB none [d, 0 + xs.length + i] m1 x ds := H1.apart (Apart.root h2 _ _) (by simp) _
    exact H2.lessUnder (meet_le_right _ _)
  exact ⟨colC, I3, SliceRep.mk' hs hat (px.append py) hb2 ho (by rw [List.length_append]; exact hlen) hnl⟩
theorem OpdOk.laterB {col col2 : Col} {σ σ2 : List Slot} {a : Act} {w : World} {v : Value} {sl : Slot} {c : Comp} {σ3 : List Slot} (h : OpdOk P w col σ a v sl) (L : Later w σ col σ2 col2)
    (ht : baseRow σ2 sl = some (c, σ3)) : OpdOk P w col2 σ2 a v sl := by
  cases sl with
  | val s m x => exact OpdOk.later (fz := true) (c := ⟨s, m, x⟩) (σ3 := σ2) (mr := none) h L rfl
  | al r p =>
    simp only [baseRow] at ht
    split at ht
    · rename_i s m x hg
      exact OpdOk.later (fz := true) (c := ⟨subS s p, .sh, getP s p x⟩) (σ3 := ps σ2 r (.val s (setM s p m .sh) x)) (mr := none) h L (by simp only [take, hg])
    · cases ht
  | _ => simp [baseRow] at ht
section
variable {C : Ctx} {B : Base} {R : Type} {K : List Slot → Option R} {res : R} {next : Act → World → Prop} {Q : Exit → Act → World → Prop} {o : Oper} {σ : List Slot} {a : Act} {w : World} {col : Col}
theorem Grown.drew {w : World} {col : Col} {p : List Nat} {o : Obj} : Grown w (w.drew.alloc o) col (colNew w col p) := by
  have := grown_alloc w.drew col p o
  exact ⟨this.sz, this.mem, this.col, ⟨rfl, rfl, rfl⟩⟩
theorem zcells_len' : ∀ (s : S), (zcells s).length = size s := by
  intro s
  induction s <;> simp_all [zcells, size]
theorem run_append_in (w : World) {w' : World} (t ty e : TypeId) (i : TypeInfo) (ht : P.underlying t = some (.slice e)) (hi : P.info? e = some i) (b : Addr) (sLen sCap : Nat) (a : Option Addr) (n c : Nat) (news : List Value)
    (hf : (Builtin.firstCells i.size n (.slice a n c)).run P w = .ok news.toArray w) (hg : sLen + n ≤ sCap) (hs : (storeCells (b.add (sLen * i.size)) news).run P w = .ok () w') :
    (Builtin.append_ #[t, t] ty #[.slice (some b) sLen sCap, .slice a n c]).run P w = .ok (.slice (some b) (sLen + n) sCap) w' := by
  simp [Builtin.append_, run_underlying ht, sizeOf, typeInfo, hi, Builtin.lenOf, hg, hf, hs]
theorem run_append_none (w : World) (t ty e : TypeId) (i : TypeInfo) (ht : P.underlying t = some (.slice e)) (hi : P.info? e = some i) (a : Option Addr) (c : Nat) :
    (Builtin.append_ #[t, t] ty #[.slice none 0 0, .slice a 0 c]).run P w = .ok (.slice none 0 0) w := by
  cases a <;> simp [Builtin.append_, run_underlying ht, sizeOf, typeInfo, hi, Builtin.lenOf, Builtin.firstCells, loadCells, loadCellsFrom]
theorem exec_append {T : TypeId} {xa xb : Operand} {c : Call} (hop : o.op = .call c) (hcal : c.callee = .builtin .append) (hargs : c.args = #[xa, xb]) (hts : c.argTypes = #[T, T]) :
    (execOp a.eval o).run P w = ((Builtin.append_ #[T, T] o.type #[a.eval xa, a.eval xb]).run P w).andThen fun v w' => .ok (.value v) w' := by
  simp [execOp, hop, resolve, hcal, hargs, hts, invoke, builtin]
theorem Append.ok (hC : CtxOk P C) (I : InvC P B col σ a w) (hG : Good P B K res next) {T : TypeId} {xa xb : Operand} {sTa sTb : Option S} {fz : Bool} {c : Call} (hop : o.op = .call c) (hcal : c.callee = .builtin .append) (hargs : c.args = #[xa, xb]) (hts : c.argTypes = #[T, T])
    (he : appendK C T σ fz o.dst (Ev.rdo σ sTa xa) (Ev.rdo σ sTb xb) K = some res) : o.wp P a w next Q := by
  have hoa := I.rdo sTa xa
  have hob := I.rdo sTb xb
  generalize Ev.rdo σ sTa xa = sla at he hoa
  generalize Ev.rdo σ sTb xb = slb at he hob
  unfold appendK at he
  cases hd : o.dst with
  | none => rw [hd] at he; cases he
  | some d =>
  rw [hd] at he
  obtain ⟨hdead, he⟩ := bif3_some he
  have hdead : gs σ d = .dead := by
    cases hs : gs σ d <;> rw [hs] at hdead <;> first | rfl | simp [isDead] at hdead
  split at he
  · cases he
  · rename_i cb σ2 hel
    split at he
    · cases he
    · rename_i ca σ3 hba
      obtain ⟨col2, pth0, m0, csy, I2, L, hry, hvy, hpy, hdd⟩ := elems_ok I hob hel (σ.length + d + 1) (by omega)
      have hoa2 := hoa.laterB L hba
      have hlen2 := L.less.1
      obtain ⟨r, q, csx, I3, hrx, hvx, hox, hfx, hrr, hnr, hdd3, hlen3⟩ := baseRow_ok I2 hoa2 hba (σ.length + d + 2) (by omega)
      split at he
      · rename_i nl s m xs nl' s' m' ys
        obtain ⟨hF, he⟩ := chk_ok hC.ty he
        rw [dif_eq] at he
        split at he
        · rename_i hss
          subst hss
          split at he
          · rename_i hlim
            simp only at he
            obtain ⟨a0, c0, ev0, es0, hS0⟩ := Rep.slice_val hrx (by simp) hvx
            obtain ⟨a1, c1, ev1, es1, hS1⟩ := Rep.slice_val hry (by simp) hvy
            obtain ⟨k1, k2, k3, k4⟩ := hS0
            obtain ⟨l1, l2, l3, l4⟩ := hS1
            have k1 : xs.length ≤ c0 := k1
            have l1 : ys.length ≤ c1 := l1
            have ev0 : a.eval xa = .slice a0 xs.length c0 := ev0
            have ev1 : a.eval xb = .slice a1 ys.length c1 := ev1
            obtain ⟨⟨e, hu, hFe⟩, _⟩ := hF
            obtain ⟨inf, z, i1, i2, i3, i4, i5⟩ := Fits.info hFe
            obtain ⟨r1, hr1, hr1root, hr1or, hrowy⟩ : ∃ r1, (gs σ3 r1).isRoot = false ∧ (gs σ2 r1).isRoot = false ∧ (r1 = σ.length + d + 1 ∨ (gs σ r1).isRoot = true) ∧
                ∀ ad, a1 = some ad → ∀ i x, ys[i]? = some x → ∃ ds, At w ad.block (ad.off + i * size s') ds ∧ Rep P s' w col2 none ([r1] ++ [0 + i]) (elemM m') x ds := by
              rcases hpy with ⟨hn, hm⟩ | ⟨rfl, r1, rfl, hroot, hor⟩
              · have hfree : (gs σ2 (σ.length + d + 1)).isRoot = false := by rw [gs_out _ _ (by omega)]; rfl
                refine ⟨σ.length + d + 1, hnr _ hfree, hfree, .inl rfl, fun ad ha i x hi => ?_⟩
                obtain ⟨ds, g1, g2⟩ := (l4 ad ha).2.2.2 i x hi
                refine ⟨ds, g1, ?_⟩
                have hm : m' = .sh := hm
                rw [hm]
                exact Rep.toSh g2 hn
              · refine ⟨r1, hnr _ hroot, hroot, hor, fun ad ha i x hi => ?_⟩
                obtain ⟨ds, g1, g2⟩ := (l4 ad ha).2.2.2 i x hi
                exact ⟨ds, g1, by rw [Nat.zero_add]; exact g2⟩
            have hd2 : gs σ2 d = .dead := hdd d hdead
            have hd3 : gs σ3 d = .dead := hdd3 d hd2
            have hdr : (gs σ3 d).isRoot = false := by rw [hd3]; rfl
            have hne1 : d ≠ r1 := by
              rintro rfl
              rcases hr1or with h | h
              · omega
              · rw [hdead] at h; cases h
            have hne2 : d ≠ r := by
              rintro rfl
              rcases hrr with h | h
              · omega
              · rw [hd2] at h; cases h
            have hne : r ≠ r1 := by
              rintro rfl
              rcases hrr with h | h
              · rcases hr1or with h' | h'
                · omega
                · rw [gs_out _ _ (by omega)] at h'; cases h'
              · rw [h] at hr1root; cases hr1root
            obtain ⟨Lx, hatx, hpx⟩ : ∃ Lx, (∀ ad, a0 = some ad → At w ad.block ad.off Lx) ∧ Pieces P w col2 (r :: q) s' (elemM m) 0 xs Lx := by
              cases a0 with
              | none =>
                obtain ⟨rfl, _⟩ := k3 rfl
                exact ⟨[], (fun ad h => by cases h), ⟨by simp, fun i x h => by simp at h⟩⟩
              | some ad =>
                obtain ⟨L, g1, g2⟩ := pieces_of xs 0 ad.off (fun i x hi => by
                  obtain ⟨ds, g1, g2⟩ := (k4 ad rfl).2.2.2 i x hi
                  exact ⟨ds, g1, by rw [Nat.zero_add]; exact g2⟩)
                exact ⟨L, fun ad' h => by injection h with h; subst h; exact g1, g2⟩
            obtain ⟨Ly, haty, hpy'⟩ : ∃ Ly, (∀ ad, a1 = some ad → At w ad.block ad.off Ly) ∧ Pieces P w col2 [r1] s' (elemM m') 0 ys Ly := by
              cases a1 with
              | none =>
                obtain ⟨rfl, _⟩ := l3 rfl
                exact ⟨[], (fun ad h => by cases h), ⟨by simp, fun i x h => by simp at h⟩⟩
              | some ad =>
                obtain ⟨L, g1, g2⟩ := pieces_of ys 0 ad.off (hrowy ad rfl)
                exact ⟨L, fun ad' h => by injection h with h; subst h; exact g1, g2⟩
            have hnlx : nl = true → a0 ≠ none → xs ++ ys ≠ [] := fun h1 h2 e => h2 (k2 h1 (List.append_eq_nil_iff.1 e).1)
            have done : ∀ (w4 : World) (v : Value) (col5 : Col), (execOp a.eval o).run P w = .ok (.value v) w4 → InvC P B col5 σ3 a w4 → (∃ cs, Rep P (.slice nl s') w4 col5 none [d] (.ow (meet (elemM m) (elemM m'))) (xs ++ ys) cs ∧ IsVal (.slice nl s') v cs) → o.wp P a w next Q := by
              intro w4 v col5 hrun I5 hrep
              refine op_value hrun (hG _ _ _ ⟨col5, ?_⟩ he)
              rw [hd]
              exact I5.put hrep
            have hsx : Lx.length = xs.length * inf.size := by rw [i2]; exact hpx.1
            have hsy : Ly.length = ys.length * inf.size := by rw [i2]; exact hpy'.1
            have h1y : ∀ v ∈ Ly, v.oneCell' = true := by
              exact hpy'.oneCell
            have hAddr : ∀ (ad : Addr) (n : Nat), ad.spot = none → ad.add n = ⟨ad.block, ad.off + n, none⟩ := fun ad n h => addr_add h n
            rcases Nat.lt_or_ge c0 (xs.length + ys.length) with hg | hg
            · -- a new row
              have hys : ys ≠ [] := by rintro rfl; simp at hg; omega
              obtain ⟨ad1, rfl⟩ : ∃ ad1, a1 = some ad1 := by
                cases a1 with
                | none => exact absurd (l3 rfl).1 hys
                | some ad => exact ⟨ad, rfl⟩
              have hs1 := (l4 ad1 rfl).1 (.inl (fun e => hys (List.length_eq_zero_iff.1 (by omega))))
              have hcap := grownCap_ge w (xs.length + ys.length) c0 e
              have hfits : (xs.length + ys.length) * inf.bytes ≤ 140737488355328 := by
                have : (xs.length + ys.length) * inf.bytes ≤ 1099511627776 * 128 := Nat.mul_le_mul (by unfold LIM at hlim; omega) i3
                omega
              have hrun : (Builtin.append_ #[T, T] o.type #[.slice a0 xs.length c0, .slice (some ad1) ys.length c1]).run P w =
                  .ok (.slice (some ⟨w.heap.size, 0, none⟩) (xs.length + ys.length) (grownCap w (xs.length + ys.length) c0 e)) (w.drew.alloc (.cells (Lx.toArray ++ Ly.toArray ++ Builtin.zeroCells z.cells (grownCap w (xs.length + ys.length) c0 e - (xs.length + ys.length))) e)) := by
                cases a0 with
                | none =>
                  obtain ⟨hx0, hc0⟩ := k3 rfl
                  subst hx0; subst hc0
                  have hLx : Lx = [] := by have := hpx.1; simpa using this
                  subst hLx
                  have hlp : 0 < ys.length := List.length_pos_iff.2 hys
                  have := run_append_nil (P := P) w T o.type e inf z hu i1 i4 ad1 ys.length c1 Ly hsy (fun j v hj => by rw [hAddr _ _ hs1]; exact haty ad1 rfl j v hj) hlp (by unfold LIM at hlim; simp at hlim; omega) (by simp at hfits; omega)
                  simpa using this
                | some ad0 =>
                  have hs0 := (k4 ad0 rfl).1 (.inr hox)
                  exact run_append_grow (P := P) w T o.type e inf z hu i1 i4 ad0 xs.length c0 Lx hsx (fun j v hj => by rw [hAddr _ _ hs0]; exact hatx ad0 rfl j v hj) ad1 ys.length c1 Ly hsy (fun j v hj => by rw [hAddr _ _ hs1]; exact haty ad1 rfl j v hj) hg (by unfold LIM at hlim; omega) (growslice_fits hg hfits)
              generalize grownCap w (xs.length + ys.length) c0 e = cap at hrun hcap
              have hzs : z.cells.size = size s' := by have := congrArg List.length i5; simpa [zcells_len'] using this
              have G : Grown w (w.drew.alloc (.cells (Lx.toArray ++ Ly.toArray ++ Builtin.zeroCells z.cells (cap - (xs.length + ys.length))) e)) col2 (colNew w col2 [d]) := Grown.drew
              have I4 := I3.grow G
              have px := hpx.imp (fun i x ds _ H => Rep.grow H G)
              have py := hpy'.imp (fun i x ds _ H => Rep.grow H G)
              have hat : At (w.drew.alloc (.cells (Lx.toArray ++ Ly.toArray ++ Builtin.zeroCells z.cells (cap - (xs.length + ys.length))) e)) w.heap.size 0 (Lx ++ Ly) :=
                At_new w.drew _ e (fun j v hj => by
                  have hjl : j < (Lx ++ Ly).length := by
                    rcases Nat.lt_or_ge j (Lx ++ Ly).length with h | h
                    · exact h
                    · rw [List.getElem?_eq_none h] at hj; cases hj
                  rw [Nat.zero_add, ← Array.getElem?_toList, Array.toList_append, Array.toList_append, List.getElem?_append_left hjl]
                  exact hj)
              have hown : OwnB (w.drew.alloc (.cells (Lx.toArray ++ Ly.toArray ++ Builtin.zeroCells z.cells (cap - (xs.length + ys.length))) e)) w.heap.size (0 + cap * size s') := by
                refine OwnB_new w.drew _ e ?_
                simp only [Array.size_append, List.size_toArray, size_zeroCells, hzs]
                rw [hpx.1, hpy'.1, ← Nat.add_mul, ← Nat.add_mul, Nat.zero_add]
                exact Nat.mul_le_mul_right _ (by omega)
              obtain ⟨col5, I5, hrep⟩ := join_rows (nl := nl) (c := cap) I4 hfx hr1 hdr hne hne2 hne1 px py (ad := ⟨w.heap.size, 0, none⟩) rfl hat (.inr (colNew_new w col2 [d])) hown hcap (fun _ => by simp [hys])
              exact done _ _ col5 (by rw [exec_append hop hcal hargs hts, ev0, ev1, hrun]; rfl) I5 ⟨_, hrep, by rw [List.length_append]; rfl⟩
            · -- in its own place
              cases a0 with
              | none =>
                obtain ⟨hx0, hc0⟩ := k3 rfl
                subst hx0; subst hc0
                have hy0 : ys = [] := by
                  have : ys.length = 0 := by simpa using hg
                  exact List.length_eq_zero_iff.1 this
                subst hy0
                refine done w (.slice none 0 0) col2 ?_ I3 ⟨_, Rep_nil nl s' w col2 [d] _, rfl⟩
                have : (Builtin.append_ #[T, T] o.type #[.slice none 0 0, .slice a1 0 c1]).run P w = .ok (.slice none 0 0) w := run_append_none w T o.type e inf hu i1 a1 c1
                rw [exec_append hop hcal hargs hts, ev0, ev1]
                show ((Builtin.append_ #[T, T] o.type #[.slice none 0 0, .slice a1 0 c1]).run P w).andThen _ = _
                rw [this]; rfl
              | some ad0 =>
                obtain ⟨hs0, hown0, _, _⟩ := k4 ad0 rfl
                have hs0 := hs0 (.inr hox)
                obtain ⟨hcol0, hob0⟩ := hown0 hox
                have hsz : (xs.length + ys.length) * size s' ≤ c0 * size s' := Nat.mul_le_mul_right _ hg
                rw [Nat.add_mul] at hsz
                obtain ⟨w', hst, W⟩ := Wr.mk' (P := P) (w := w) (ad := ⟨ad0.block, ad0.off + xs.length * size s', none⟩) (ns := Ly) rfl (by
                  obtain ⟨arr, t, g1, g2⟩ := hob0
                  exact ⟨arr, t, g1, by rw [hpy'.1]; simp only; omega⟩) h1y
                have hrun : (Builtin.append_ #[T, T] o.type #[.slice (some ad0) xs.length c0, .slice a1 ys.length c1]).run P w = .ok (.slice (some ad0) (xs.length + ys.length) c0) w' := by
                  refine run_append_in w T o.type e inf hu i1 ad0 xs.length c0 a1 ys.length c1 Ly ?_ hg (by rw [hAddr _ _ hs0, i2]; exact hst)
                  cases a1 with
                  | none =>
                    have := (l3 rfl).1
                    have hLy : Ly = [] := by have := hpy'.1; simp_all
                    rw [hLy]; exact run_firstCells_none w _ _ _ _
                  | some ad1 => exact run_firstCells_some w inf.size ys.length ad1 ys.length c1 Ly hsy (fun j v hj => by
                    have hl1 : c1 ≠ 0 := fun e => by
                      have h0 : ys.length = 0 := by omega
                      have h1 : Ly.length = 0 := by rw [hpy'.1, h0, Nat.zero_mul]
                      rw [List.getElem?_eq_none (by omega)] at hj; cases hj
                    rw [hAddr _ _ ((l4 ad1 rfl).1 (.inl hl1))]; exact haty ad1 rfl j v hj)
                have I4 := I3.wrOff hfx (ad := ⟨ad0.block, ad0.off + xs.length * size s', none⟩) hcol0 W
                have stay : ∀ {pt : List Nat} {m : M} {x : El s'} {ds : List Value}, (∀ q', pt ++ q' ≠ r :: q) → Rep P s' w col2 none pt m x ds → Rep P s' w' col2 none pt m x ds := by
                  intro pt m x ds hpt H
                  refine H.stay ⟨fun _ _ _ h _ => h, fun _ _ h => h, fun b hb hq => W.other b ?_, Nat.le_of_eq W.sz.symm⟩
                  rintro rfl
                  have hcol0 : col2 ad0.block = some (r :: q) := hcol0
                  rcases hq with hq | ⟨q', hq, _⟩
                  · rw [hcol0] at hq; cases hq
                  · rw [hcol0] at hq; injection hq with hq; exact hpt q' hq.symm
                have px : Pieces P w' col2 (r :: q) s' (elemM m) 0 xs Lx := hpx.imp (fun i x ds _ H => stay (fun q' e => by have := congrArg List.length e; simp at this) H)
                have py : Pieces P w' col2 [r1] s' (elemM m') 0 ys Ly := hpy'.imp (fun i x ds _ H => stay (fun q' e => by simp at e; exact hne e.1.symm) H)
                have hat : At w' ad0.block ad0.off (Lx ++ Ly) := by
                  refine At.append (fun j v hj => ?_) ?_
                  · have hjl : j < Lx.length := by
                      rcases Nat.lt_or_ge j Lx.length with h | h
                      · exact h
                      · rw [List.getElem?_eq_none h] at hj; cases hj
                    have := W.out (ad0.off + j) (.inl (by rw [hpx.1] at hjl; simp only; omega))
                    simp only at this
                    rw [this]
                    exact hatx ad0 rfl j v hj
                  · rw [hpx.1]; exact W.inn
                obtain ⟨col5, I5, hrep⟩ := join_rows (nl := nl) (c := c0) I4 hfx hr1 hdr hne hne2 hne1 px py (ad := ad0) hs0 hat (.inl hcol0) (W.own _ hob0) hg (fun h => hnlx h (by simp))
                exact done _ _ col5 (by rw [exec_append hop hcal hargs hts, ev0, ev1, hrun]; rfl) I5 ⟨_, hrep, by rw [List.length_append]; rfl⟩
          · cases he
        · cases he
      · cases he
end
end Go.Ev

noncomputable section
namespace Go.Ev
variable {P : Program}
theorem Rep.full : ∀ (s : S) {w : World} {col col' : Col} {h : Option (List Nat)} {p p' : List Nat} {m : M} {x : El s} {cs : List Value}, Rep P s w col h p m x cs → fullM s m = true →
    (∀ b q, col b = some (p ++ q) → col' b = some (p' ++ q)) → Rep P s w col' h p' m x cs := by
  intro s
  induction s with
  | agg s ih =>
    intro w col col' h p p' m x cs H hf hk
    refine hole.imp (show hole h cs (size s) (Rep P s w col (subH h 0) (p ++ [0]) (agM m) x cs) from H) (fun H => ?_)
    exact ih H hf (fun b q hc => by have := hk b (0 :: q) (by simpa using hc); simpa using this)
  | pair a b iha ihb =>
    intro w col col' h p p' m x cs H hf hk
    have hf : (fullM a (prA m) && fullM b (prB m)) = true := hf
    simp only [Bool.and_eq_true] at hf
    refine hole.imp (show hole h cs (size a + size b) (∃ c1 c2, cs = c1 ++ c2 ∧ Rep P a w col (subH h 0) (p ++ [0]) (prA m) x.1 c1 ∧ Rep P b w col (subH h 1) (p ++ [1]) (prB m) x.2 c2) from H) (fun H => ?_)
    obtain ⟨c1, c2, e, H1, H2⟩ := H
    exact ⟨c1, c2, e, iha H1 hf.1 (fun b q hc => by have := hk b (0 :: q) (by simpa using hc); simpa using this), ihb H2 hf.2 (fun b q hc => by have := hk b (1 :: q) (by simpa using hc); simpa using this)⟩
  | ptr s ih =>
    intro w col col' h p p' m x cs H hf hk
    cases m with
    | ow m =>
      refine hole.imp (show hole h cs 1 (∃ ad ds, cs = [.pointer (some ad)] ∧ ad.spot = none ∧
        (isOw (.ow m) = true → col ad.block = some p ∧ OwnB w ad.block (ad.off + size s)) ∧
        (isOw (.ow m) = false → col ad.block = some [] ∧ ad.block < w.heap.size) ∧
        At w ad.block ad.off ds ∧ Rep P s w col (subH h 0) (p ++ [0]) m x ds) from H) (fun H => ?_)
      obtain ⟨ad, ds, e, hs, ho, hn, ha, H⟩ := H
      exact ⟨ad, ds, e, hs, fun _ => ⟨by simpa using hk _ [] (by simpa using (ho rfl).1), (ho rfl).2⟩, fun h => (by simp [isOw] at h), ha, ih H hf (fun b q hc => by have := hk b (0 :: q) (by simpa using hc); simpa using this)⟩
    | _ => simp [fullM] at hf
  | slice nl s ih =>
    intro w col col' h p p' m xs cs H hf hk
    cases m with
    | ow m =>
      refine hole.imp (show hole h cs 1 (∃ a c, cs = [.slice a xs.length c] ∧ xs.length ≤ c ∧ (nl = true → xs = [] → a = none) ∧
      (a = none → xs = [] ∧ c = 0) ∧
      ∀ ad, a = some ad → (c ≠ 0 ∨ isOw (.ow m) = true → ad.spot = none) ∧
        (isOw (.ow m) = true → col ad.block = some p ∧ OwnB w ad.block (ad.off + c * size s)) ∧
        (isOw (.ow m) = false → xs = [] ∨ (col ad.block = some [] ∧ ad.block < w.heap.size)) ∧
        ∀ i x, xs[i]? = some x → ∃ ds, At w ad.block (ad.off + i * size s) ds ∧ Rep P s w col (subH h i) (p ++ [i]) m x ds) from H) (fun H => ?_)
      obtain ⟨a, c, e, hlen, hnl, hnone, H⟩ := H
      refine ⟨a, c, e, hlen, hnl, hnone, fun ad ha => ?_⟩
      obtain ⟨hs, ho, hn, hx⟩ := H ad ha
      refine ⟨hs, fun _ => ⟨by simpa using hk _ [] (by simpa using (ho rfl).1), (ho rfl).2⟩, fun h => (by simp [isOw] at h), fun i x hi => ?_⟩
      obtain ⟨ds, hat, hr⟩ := hx i x hi
      exact ⟨ds, hat, ih hr hf (fun b q hc => by have := hk b (i :: q) (by simpa using hc); simpa using this)⟩
    | _ => simp [fullM] at hf
  | func a b => intro w col col' h p p' m x cs H hf hk; simp [fullM] at hf
  | map k v => intro w col col' h p p' m x cs H hf hk; simp [fullM] at hf
  | _ => intro w col col' h p p' m x cs H hf hk; exact H
theorem splitC_full : ∀ (n : Nat) (s : S) (m : M) (x : El s), fullM s m = true → ∀ i c, nth (splitC n s m x) i = some (some c) → fullM c.s c.m = true := by
  intro n s
  induction s generalizing n with
  | pair a b iha ihb =>
    intro m x hf i c h
    have hf' : (fullM a (prA m) && fullM b (prB m)) = true := hf
    simp only [Bool.and_eq_true] at hf'
    match n with
    | n + 2 =>
      cases i with
      | zero => simp [splitC, nth] at h; subst h; exact hf'.1
      | succ i => exact ihb (n + 1) (prB m) x.2 hf'.2 i c h
    | 0 => cases i with
      | zero => simp [splitC, nth] at h; subst h; exact hf
      | succ i => simp [splitC, nth] at h
    | 1 => cases i with
      | zero => simp [splitC, nth] at h; subst h; exact hf
      | succ i => simp [splitC, nth] at h
  | _ =>
    intro m x hf i c h
    match n with
    | 0 => cases i with
      | zero => simp [splitC, nth] at h; subst h; exact hf
      | succ i => simp [splitC, nth] at h
    | 1 => cases i with
      | zero => simp [splitC, nth] at h; subst h; exact hf
      | succ i => simp [splitC, nth] at h
    | n + 2 => cases i with
      | zero => simp [splitC, nth] at h; subst h; exact hf
      | succ i => simp [splitC, nth] at h
structure Hand (σ σ' : List Slot) (κ ρ : Nat → Option Nat) (j n : Nat) : Prop where
  iff : ∀ r i, κ r = some i ↔ ρ i = some r
  dead : ∀ r i, κ r = some i → gs σ' r = .dead
  bound : ∀ r i, κ r = some i → j ≤ i ∧ i < j + n
  virt : ∀ r i, κ r = some i → r < σ.length ∨ r = σ.length + i
def Left (σ σ1 : List Slot) : Prop := ∀ t, gs σ1 t = gs σ t ∨ gs σ1 t = .dead ∨ ∃ s m x p, gs σ t = .val s m x ∧ gs σ1 t = .hol s m x p
theorem Left.of {σ σ1 : List Slot} (h : Left σ σ1) {r : Nat} {s : S} {m : M} {x : El s} (hg : gs σ1 r = .val s m x) : gs σ r = .val s m x := by
  rcases h r with e | e | ⟨_, _, _, _, _, e⟩
  · rw [← e]; exact hg
  · rw [e] at hg; cases hg
  · rw [e] at hg; cases hg
def OutOk (P : Program) (w : World) (col : Col) (κ : Nat → Option Nat) : Nat → List PM → List (Option Comp) → List Value → Prop
  | _, [], [], [] => True
  | j, .sh :: pm, none :: os, _ :: vs => OutOk P w col κ (j + 1) pm os vs
  | j, .loan m :: pm, some c :: os, v :: vs => (c.m = m ∧ ∃ ds r, IsVal c.s v ds ∧ κ r = some j ∧ Rep P c.s w col none [r] c.m c.x ds) ∧ OutOk P w col κ (j + 1) pm os vs
  | j, .move m :: pm, some c :: os, v :: vs => (c.m = m ∧ ∃ ds, IsVal c.s v ds ∧ ((∃ r, κ r = some j ∧ Rep P c.s w col none [r] c.m c.x ds) ∨ (noOwn c.m = true ∧ ∀ p, Rep P c.s w col none p .sh c.x ds) ∨ ∀ w col p m, Rep P c.s w col none p m c.x ds)) ∧ OutOk P w col κ (j + 1) pm os vs
  | _, _, _, _ => False
theorem OutOk.mono {w : World} {col col' : Col} {κ κ' : Nat → Option Nat} : ∀ {j : Nat} {pm : List PM} {os : List (Option Comp)} {vs : List Value}, OutOk P w col κ j pm os vs → (∀ r i, j ≤ i → κ r = some i → κ' r = some i) →
    (∀ r i, κ r = some i → ∀ {s : S} {m : M} {x : El s} {ds : List Value}, Rep P s w col none [r] m x ds → Rep P s w col' none [r] m x ds) → (∀ b, b < w.heap.size → col b = some [] → col' b = some []) → OutOk P w col' κ' j pm os vs
  | _, [], [], [], _, _, _, _ => trivial
  | j, .sh :: pm, none :: os, _ :: vs, h, hk, hr, hs => OutOk.mono (j := j + 1) (pm := pm) (os := os) (vs := vs) h (fun r i hi => hk r i (by omega)) hr hs
  | j, .loan m :: pm, some c :: os, v :: vs, ⟨⟨h0, ds, r, h1, h2, h3⟩, h⟩, hk, hr, hs => ⟨⟨h0, ds, r, h1, hk r j (Nat.le_refl _) h2, hr r j h2 h3⟩, OutOk.mono h (fun r i hi => hk r i (by omega)) hr hs⟩
  | j, .move m :: pm, some c :: os, v :: vs, ⟨⟨h0, ds, h1, h2⟩, h⟩, hk, hr, hs => by
    refine ⟨⟨h0, ds, h1, ?_⟩, OutOk.mono h (fun r i hi => hk r i (by omega)) hr hs⟩
    rcases h2 with ⟨r, h2, h3⟩ | ⟨h2, h3⟩ | h2
    · exact .inl ⟨r, hk r j (Nat.le_refl _) h2, hr r j h2 h3⟩
    · exact .inr (.inl ⟨h2, fun p => (h3 p).re _ ⟨rfl, fun b q _ _ ho => (by rw [ownAt_sh] at ho; cases ho), fun b q _ _ ho => (by rw [ownAt_sh] at ho; cases ho), hs, fun _ _ _ => rfl, Nat.le_refl _⟩⟩)
    · exact .inr (.inr h2)
  | _, [], [], _ :: _, h, _, _, _ => absurd h id
  | _, [], _ :: _, _, h, _, _, _ => absurd h id
  | _, .sh :: _, [], _, h, _, _, _ => absurd h id
  | _, .sh :: _, some _ :: _, _, h, _, _, _ => absurd h id
  | _, .sh :: _, none :: _, [], h, _, _, _ => absurd h id
  | _, .loan _ :: _, [], _, h, _, _, _ => absurd h id
  | _, .loan _ :: _, none :: _, _, h, _, _, _ => absurd h id
  | _, .loan _ :: _, some _ :: _, [], h, _, _, _ => absurd h id
  | _, .move _ :: _, [], _, h, _, _, _ => absurd h id
  | _, .move _ :: _, none :: _, _, h, _, _, _ => absurd h id
  | _, .move _ :: _, some _ :: _, [], h, _, _, _ => absurd h id
def HoleIs (w : World) (σ : List Slot) (V : Nat → Value) (r : Nat) (v : Value) : Prop := ∃ s m x hp, gs σ r = .hol s m x hp ∧ Copy w ⟨s, m, x⟩ hp (V r) v
def LoanRel (H : Nat → Value → Prop) (V : Nat → Value) (N : Nat) (ρ : Nat → Option Nat) : List (Nat × M × Value) → List M → List (Nat × List Nat) → Prop
  | [], [], [] => True
  | (j, m, v) :: js, m' :: ms, (r, p) :: ls => (m' = m ∧ (match p with
      | [] => ρ j = some r ∧ V r = v
      | _ :: _ => ρ j = some (N + j) ∧ H r v)) ∧ LoanRel H V N ρ js ms ls
  | _, _, _ => False
theorem LoanRel.mono {H H' : Nat → Value → Prop} {V : Nat → Value} {N : Nat} {ρ ρ' : Nat → Option Nat} : ∀ {js : List (Nat × M × Value)} {ms : List M} {ls : List (Nat × List Nat)}, LoanRel H V N ρ js ms ls → (∀ i r, ρ i = some r → ρ' i = some r) →
    (∀ r v, H r v → H' r v) → LoanRel H' V N ρ' js ms ls
  | [], [], [], _, _, _ => trivial
  | (j, m, v) :: js, m' :: ms, (r, []) :: ls, ⟨⟨h1, h2, h3⟩, h⟩, hk, hh => ⟨⟨h1, hk _ _ h2, h3⟩, LoanRel.mono h hk hh⟩
  | (j, m, v) :: js, m' :: ms, (r, _ :: _) :: ls, ⟨⟨h1, h2, h3⟩, h⟩, hk, hh => ⟨⟨h1, hk _ _ h2, hh _ _ h3⟩, LoanRel.mono h hk hh⟩
  | [], [], _ :: _, h, _, _ => absurd h id
  | [], _ :: _, _, h, _, _ => absurd h id
  | _ :: _, [], _, h, _, _ => absurd h id
  | _ :: _, _ :: _, [], h, _, _ => absurd h id
theorem AlOk.self {σ : List Slot} {a : Act} {w : World} {v : Value} {r : Nat} {s : S} {m : M} {x : El s} (hg : gs σ r = .val s m x) (h : AlOk w σ (Act.V a) r [] v) : v = Act.V a r := by
  rcases h with ⟨cs', e, hp, e2⟩ | ⟨c0, hh, pth, q, u, hr, hcp⟩
  · exact e2
  · obtain ⟨rfl, rfl, rfl, rfl, rfl⟩ := Roots.of (.inl ⟨hg, rfl⟩) hr
    obtain ⟨_, cs1, cs2, oa, k1, k2, k3⟩ := hcp
    obtain ⟨rfl, _⟩ := Nav_nil' k2
    rw [subS_nil] at k3
    exact k3.value k1
theorem Rep.leMode {s : S} {w : World} {col : Col} {r : Nat} {m m' : M} {x : El s} {ds : List Value} (H : Rep P s w col none [r] m' x ds) (h : le m m' = true) : Rep P s w (reCol col (lessF s m [r]) [r]) none [r] m x ds := H.less (by simp) h
theorem hand_one {B : Base} {a : Act} {w : World} {col col' : Col} {σ σ1 : List Slot} {κ ρ : Nat → Option Nat} {j n : Nat} {pm : List PM} {os : List (Option Comp)} {vs : List Value} {r : Nat} {s : S} {m m' : M} {x : El s} {v : Value}
    (I : InvC P B col' σ1 a w) (hl : σ1.length = σ.length) (hsub : Left σ σ1) (H : Hand σ σ1 κ ρ (j + 1) n) (hO : OutOk P w col' κ (j + 1) pm os vs) (hg : gs σ1 r = .val s m' x) (hle : le m m' = true)
    (hv : OpdOk P w col σ a v (.al r [])) (hsh : ∀ b, b < w.heap.size → col b = some [] → col' b = some []) :
    ∃ κ2 ρ2 col2, InvC P B col2 (ps (kill r σ1) r .dead) a w ∧ (ps (kill r σ1) r .dead).length = σ.length ∧ Left σ (ps (kill r σ1) r .dead) ∧ (∀ t v, HoleIs w σ1 (Act.V a) t v → HoleIs w (ps (kill r σ1) r .dead) (Act.V a) t v) ∧ Hand σ (ps (kill r σ1) r .dead) κ2 ρ2 j (n + 1) ∧
      OutOk P w col2 κ2 (j + 1) pm os vs ∧ (∃ ds, IsVal s v ds ∧ κ2 r = some j ∧ Rep P s w col2 none [r] m x ds) ∧ ρ2 j = some r ∧ (∀ i r, ρ i = some r → ρ2 i = some r) ∧ Act.V a r = v ∧ (∀ b, b < w.heap.size → col b = some [] → col2 b = some []) := by
  have hgσ : gs σ r = .val s m' x := hsub.of hg
  have hrl : r < σ.length := lt_of_gs hgσ (by simp)
  have hvV := AlOk.self hgσ hv
  have hk := I.ok r
  rw [hg] at hk
  obtain ⟨ds, h1, h2⟩ := hk
  have hκ : κ r = none := by
    cases h : κ r with
    | none => rfl
    | some i => have := H.dead r i h; rw [hg] at this; cases this
  have hd : gs (Ev.put σ1 r .dead) r = .dead := gs_put_dead
  have hρ : ρ j = none := by
    cases h : ρ j with
    | none => rfl
    | some t => have := H.bound t j ((H.iff t j).2 h); omega
  rw [put_root (fun _ => rfl)]
  refine ⟨fun t => if t = r then some j else κ t, fun i => if i = j then some r else ρ i, reCol col' (lessF s m [r]) [r], (I.dead r).recolX (.of (by rw [hd]; rfl)) _, (length_put _ _ _).trans hl, fun t => ?_, fun t u hh => ?_, ⟨fun t i => ?_, fun t i => ?_, fun t i => ?_, fun t i => ?_⟩, ?_, ⟨ds, by rw [hvV]; exact h2, by simp, h1.leMode hle⟩, by simp, fun i t h => ?_, hvV.symm, fun b hb hc => ?_⟩
  · by_cases ht : t = r
    · rw [ht]; exact .inr (.inl hd)
    · rw [gs_put_ne ht]
      cases (gs σ1 t).isAl r
      · exact hsub t
      · exact .inr (.inl rfl)
  · obtain ⟨s', m1, x', hp, e, hc⟩ := hh
    have ht : t ≠ r := by rintro rfl; rw [hg] at e; cases e
    exact ⟨s', m1, x', hp, by rw [gs_put_ne ht, e]; rfl, hc⟩
  · by_cases ht : t = r
    · subst ht
      by_cases hi : i = j
      · simp [hi]
      · simp only [if_true, if_neg hi, Option.some.injEq]
        constructor
        · intro h; exact absurd h.symm hi
        · intro h; have := (H.iff t i).2 h; rw [hκ] at this; cases this
    · by_cases hi : i = j
      · subst hi
        simp only [if_neg ht, if_true, Option.some.injEq]
        constructor
        · intro h; have := (H.iff t i).1 h; rw [hρ] at this; cases this
        · intro h; exact absurd h.symm ht
      · simp only [if_neg ht, if_neg hi]; exact H.iff t i
  · by_cases ht : t = r
    · subst ht; intro _; exact hd
    · simp only [if_neg ht]
      intro h
      have := H.dead t i h
      rw [gs_put_ne ht, this]; rfl
  · by_cases ht : t = r
    · subst ht; simp only [if_true, Option.some.injEq]; intro h; omega
    · simp only [if_neg ht]; intro h; have := H.bound t i h; omega
  · by_cases ht : t = r
    · subst ht; intro _; exact .inl hrl
    · simp only [if_neg ht]; exact H.virt t i
  · refine hO.mono (fun t i hi h => ?_) (fun t i h s' m1 x' ds' hr => ?_) (fun b hb hc => ?_)
    · have ht : t ≠ r := by rintro rfl; rw [hκ] at h; cases h
      simp only [if_neg ht]; exact h
    · have ht : t ≠ r := by rintro rfl; rw [hκ] at h; cases h
      exact hr.apart (Apart.root ht _ _) (by simp) _
    · rw [reCol_quiet _ _ (by simp) (.inr hc)]; exact hc
  · by_cases hi : i = j
    · subst hi; rw [hρ] at h; cases h
    · simp only [if_neg hi]; exact h
  · have := hsh b hb hc
    rw [reCol_quiet _ _ (by simp) (.inr this)]; exact this
theorem hand_sub {B : Base} {a : Act} {w : World} {col col' : Col} {σ σ1 : List Slot} {κ ρ : Nat → Option Nat} {j n : Nat} {pm : List PM} {os : List (Option Comp)} {vs : List Value} {r : Nat} {p : List Nat} {s : S} {m m' : M} {x : El s} {v : Value}
    (I : InvC P B col' σ1 a w) (hl : σ1.length = σ.length) (hsub : Left σ σ1) (H : Hand σ σ1 κ ρ (j + 1) n) (hO : OutOk P w col' κ (j + 1) pm os vs) (hg : gs σ1 r = .val s m' x) (hle : le m (subM s p m') = true) (hpn : p ≠ [])
    (hv : OpdOk P w col σ a v (.al r p)) (hsh : ∀ b, b < w.heap.size → col b = some [] → col' b = some []) :
    ∃ κ2 ρ2 col2, InvC P B col2 (ps (σ1.map (keepA r s p)) r (.hol s m' x p)) a w ∧ (ps (σ1.map (keepA r s p)) r (.hol s m' x p)).length = σ.length ∧ Left σ (ps (σ1.map (keepA r s p)) r (.hol s m' x p)) ∧ (∀ t v, HoleIs w σ1 (Act.V a) t v → HoleIs w (ps (σ1.map (keepA r s p)) r (.hol s m' x p)) (Act.V a) t v) ∧ Hand σ (ps (σ1.map (keepA r s p)) r (.hol s m' x p)) κ2 ρ2 j (n + 1) ∧
      OutOk P w col2 κ2 (j + 1) pm os vs ∧ (∃ ds, IsVal (subS s p) v ds ∧ κ2 (σ.length + j) = some j ∧ Rep P (subS s p) w col2 none [σ.length + j] m (getP s p x) ds) ∧ ρ2 j = some (σ.length + j) ∧ (∀ i r, ρ i = some r → ρ2 i = some r) ∧ HoleIs w (ps (σ1.map (keepA r s p)) r (.hol s m' x p)) (Act.V a) r v ∧ (∀ b, b < w.heap.size → col b = some [] → col2 b = some []) := by
  have hgσ : gs σ r = .val s m' x := hsub.of hg
  have hrl : r < σ.length := lt_of_gs hgσ (by simp)
  have hl1 : r < σ1.length := by omega
  have hk := I.ok r
  rw [hg] at hk
  obtain ⟨cs', g1, g2⟩ := hk
  have hcp : Copy w ⟨s, m', x⟩ p (Act.V a r) v := by
    rcases hv with ⟨cs0, e, hp, e2⟩ | ⟨c0, hh, pth, q, u, hr, hcp⟩
    · rw [hgσ] at e; cases e
    · obtain ⟨rfl, rfl, rfl, rfl, rfl⟩ := Roots.of (.inl ⟨hgσ, rfl⟩) hr
      exact hcp
  obtain ⟨cs, h1, h2⟩ := I.copy (.val hg) hcp
  rw [subHs_none] at h1
  have h1 : Rep P (subS s p) w col' none (r :: p) (subM s p m') (getP s p x) cs := h1
  have hgs : gs (ps (σ1.map (keepA r s p)) r (.hol s m' x p)) r = .hol s m' x p := gs_ps_same _ _ _ (by simpa using hl1)
  have hne : ∀ t, t ≠ r → gs (ps (σ1.map (keepA r s p)) r (.hol s m' x p)) t = gs σ1 t ∨ gs (ps (σ1.map (keepA r s p)) r (.hol s m' x p)) t = .dead := fun t ht => by
    rw [gs_ps_ne _ _ _ _ ht, gs_map _ rfl]
    exact keepA_or r s p _
  have hlen : (ps (σ1.map (keepA r s p)) r (.hol s m' x p)).length = σ.length := by rw [length_ps, List.length_map]; exact hl
  have I1 : InvC P B col' (ps (σ1.map (keepA r s p)) r (.hol s m' x p)) a w := I.opened hg hpn hcp.1
  have hX : FreeX (ps (σ1.map (keepA r s p)) r (.hol s m' x p)) (r :: p) := ⟨r, p, rfl, .inr ⟨s, m', x, p, hgs, rfl⟩⟩
  have I2 := I1.recolX hX (moveF [σ.length + j])
  have hN : (gs (ps (σ1.map (keepA r s p)) r (.hol s m' x p)) (σ.length + j)).isRoot = false := by rw [gs_out _ _ (by omega)]; rfl
  have I3 := I2.recolX (FreeX.of (q := []) hN) (lessF (subS s p) m [σ.length + j])
  have hrep := (h1.move (p' := [σ.length + j]) (by simp)).less (by simp) hle
  have hκN : κ (σ.length + j) = none := by
    cases h : κ (σ.length + j) with
    | none => rfl
    | some i =>
      have h1 := H.virt _ i h
      have h2 := H.bound _ i h
      omega
  have hκr : κ r = none := by
    cases h : κ r with
    | none => rfl
    | some i => have := H.dead r i h; rw [hg] at this; cases this
  have hρ : ρ j = none := by
    cases h : ρ j with
    | none => rfl
    | some t => have := H.bound t j ((H.iff t j).2 h); omega
  have hshX : ∀ b, b < w.heap.size → col' b = some [] → reCol (reCol col' (moveF [σ.length + j]) (r :: p)) (lessF (subS s p) m [σ.length + j]) [σ.length + j] b = some [] := fun b hb hc => by
    have : reCol col' (moveF [σ.length + j]) (r :: p) b = some [] := by rw [reCol_quiet _ _ (by simp) (.inr hc)]; exact hc
    rw [reCol_quiet _ _ (by simp) (.inr this)]; exact this
  refine ⟨fun t => if t = σ.length + j then some j else κ t, fun i => if i = j then some (σ.length + j) else ρ i, _, I3, hlen, fun t => ?_, fun t u hh => ?_, ⟨fun t i => ?_, fun t i => ?_, fun t i => ?_, fun t i => ?_⟩, ?_, ⟨cs, h2, by simp, hrep⟩, by simp, fun i t h => ?_, ⟨s, m', x, p, hgs, hcp⟩, fun b hb hc => hshX b hb (hsh b hb hc)⟩
  · by_cases ht : t = r
    · subst ht; exact .inr (.inr ⟨s, m', x, p, hgσ, hgs⟩)
    · rcases hne t ht with e | e
      · rw [e]; exact hsub t
      · exact .inr (.inl e)
  · obtain ⟨s', m1, x', hp, e, hc⟩ := hh
    have ht : t ≠ r := by rintro rfl; rw [hg] at e; cases e
    exact ⟨s', m1, x', hp, by rw [gs_ps_ne _ _ _ _ ht, gs_map _ rfl, e]; rfl, hc⟩
  · by_cases ht : t = σ.length + j
    · subst ht
      by_cases hi : i = j
      · simp [hi]
      · simp only [if_true, if_neg hi, Option.some.injEq]
        constructor
        · intro h; exact absurd h.symm hi
        · intro h; have := (H.iff _ i).2 h; rw [hκN] at this; cases this
    · by_cases hi : i = j
      · subst hi
        simp only [if_neg ht, if_true, Option.some.injEq]
        constructor
        · intro h; have := (H.iff t i).1 h; rw [hρ] at this; cases this
        · intro h; exact absurd h.symm ht
      · simp only [if_neg ht, if_neg hi]; exact H.iff t i
  · by_cases ht : t = σ.length + j
    · subst ht; intro _; rw [gs_out _ _ (by omega)]
    · simp only [if_neg ht]
      intro h
      have hd := H.dead t i h
      have htr : t ≠ r := by rintro rfl; rw [hκr] at h; cases h
      rcases hne t htr with e | e
      · rw [e, hd]
      · exact e
  · by_cases ht : t = σ.length + j
    · subst ht; simp only [if_true, Option.some.injEq]; intro h; omega
    · simp only [if_neg ht]; intro h; have := H.bound t i h; omega
  · by_cases ht : t = σ.length + j
    · subst ht; simp only [if_true, Option.some.injEq]; intro h; right; omega
    · simp only [if_neg ht]; exact H.virt t i
  · refine hO.mono (fun t i hi h => ?_) (fun t i h s' m1 x' ds' hr => ?_) hshX
    · have ht : t ≠ σ.length + j := by rintro rfl; rw [hκN] at h; cases h
      simp only [if_neg ht]; exact h
    · have ht : t ≠ σ.length + j := by rintro rfl; rw [hκN] at h; cases h
      have htr : t ≠ r := by rintro rfl; rw [hκr] at h; cases h
      exact (hr.apart (Apart.root htr _ _) (by simp) _).apart (Apart.root ht _ _) (by simp) _
  · by_cases hi : i = j
    · subst hi; rw [hρ] at h; cases h
    · simp only [if_neg hi]; exact h
theorem outArgs_ok {B : Base} {a : Act} {w : World} : ∀ (pm : List PM) (sls : List Slot) (vs : List Value) (j : Nat) {col : Col} {σ σ' : List Slot} {os : List (Option Comp)} {ls : List (Nat × List Nat)}, InvC P B col σ a w → SlotsOk P w col σ a sls vs →
    outArgs σ pm sls = some (os, ls, σ') → ∃ κ ρ col', InvC P B col' σ' a w ∧ σ'.length = σ.length ∧ Left σ σ' ∧ Hand σ σ' κ ρ j pm.length ∧ OutOk P w col' κ j pm os vs ∧ LoanRel (HoleIs w σ' (Act.V a)) (Act.V a) σ.length ρ (loansL j pm vs) (loanModes pm) ls ∧
      (∀ b, b < w.heap.size → col b = some [] → col' b = some []) := by
  intro pm
  induction pm with
  | nil =>
    intro sls vs j col σ σ' os ls I hs h
    cases sls with
    | nil =>
      simp only [outArgs, Option.some.injEq, Prod.mk.injEq] at h
      obtain ⟨rfl, rfl, rfl⟩ := h
      cases vs with
      | nil => exact ⟨fun _ => none, fun _ => none, col, I, rfl, fun _ => .inl rfl, ⟨by simp, by simp, by simp, by simp⟩, trivial, trivial, fun _ _ h => h⟩
      | cons _ _ => exact absurd hs id
    | cons _ _ => simp [outArgs] at h
  | cons pm0 pm ih =>
    intro sls vs j col σ σ' os ls I hs h
    cases sls with
    | nil => cases pm0 <;> simp [outArgs] at h
    | cons sl sls =>
      cases vs with
      | nil => exact absurd hs id
      | cons v vs =>
        cases pm0 with
        | sh =>
          simp only [outArgs] at h
          split at h
          · rename_i cs ls' σ1 h1
            simp only [Option.some.injEq, Prod.mk.injEq] at h
            obtain ⟨rfl, rfl, rfl⟩ := h
            obtain ⟨κ, ρ, col', g1, g2, g3, g4, g5, g6, g7⟩ := ih sls vs (j + 1) I hs.2 h1
            exact ⟨κ, ρ, col', g1, g2, g3, ⟨g4.iff, g4.dead, fun r i h => by have := g4.bound r i h; simp only [List.length_cons]; omega, g4.virt⟩, g5, g6, g7⟩
          · cases h
        | loan m =>
          cases sl with
          | al r p =>
            cases p with
            | nil =>
              simp only [outArgs] at h
              split at h
              · rename_i cs ls' σ1 h1
                split at h
                · rename_i s m' x hg
                  obtain ⟨hle, h⟩ := bif3_some h
                  simp only [Option.some.injEq, Prod.mk.injEq] at h
                  obtain ⟨rfl, rfl, rfl⟩ := h
                  obtain ⟨κ, ρ, col', g1, g2, g3, g4, g5, g6, g7⟩ := ih sls vs (j + 1) I hs.2 h1
                  obtain ⟨κ2, ρ2, col2, k1, k2, k3, k3', k4, k5, ⟨ds, k6, k7, k8⟩, k9, k10, k11, k12⟩ := hand_one g1 g2 g3 g4 g5 hg hle hs.1 g7
                  exact ⟨κ2, ρ2, col2, k1, k2, k3, k4, ⟨⟨rfl, ds, r, k6, k7, k8⟩, k5⟩, ⟨⟨rfl, k9, k11⟩, LoanRel.mono g6 k10 k3'⟩, k12⟩
                · cases h
              · cases h
            | cons i p =>
              simp only [outArgs] at h
              split at h
              · rename_i cs ls' σ1 h1
                split at h
                · rename_i s m' x hg
                  obtain ⟨hle, h⟩ := bif3_some h
                  simp only [Bool.and_eq_true] at hle
                  simp only [Option.some.injEq, Prod.mk.injEq] at h
                  obtain ⟨rfl, rfl, rfl⟩ := h
                  obtain ⟨κ, ρ, col', g1, g2, g3, g4, g5, g6, g7⟩ := ih sls vs (j + 1) I hs.2 h1
                  obtain ⟨κ2, ρ2, col2, k1, k2, k3, k3', k4, k5, ⟨ds, k6, k7, k8⟩, k9, k10, k11, k12⟩ := hand_sub g1 g2 g3 g4 g5 hg hle.1 (by simp) hs.1 g7
                  exact ⟨κ2, ρ2, col2, k1, k2, k3, k4, ⟨⟨rfl, ds, σ.length + j, k6, k7, k8⟩, k5⟩, ⟨⟨rfl, k9, k11⟩, LoanRel.mono g6 k10 k3'⟩, k12⟩
                · cases h
              · cases h
          | _ => simp [outArgs] at h
        | move m =>
          cases sl with
          | al r p =>
            cases p with
            | nil =>
              simp only [outArgs] at h
              split at h
              · rename_i cs ls' σ1 h1
                split at h
                · rename_i s m' x hg
                  obtain ⟨hle, h⟩ := bif3_some h
                  simp only [Option.some.injEq, Prod.mk.injEq] at h
                  obtain ⟨rfl, rfl, rfl⟩ := h
                  obtain ⟨κ, ρ, col', g1, g2, g3, g4, g5, g6, g7⟩ := ih sls vs (j + 1) I hs.2 h1
                  obtain ⟨κ2, ρ2, col2, k1, k2, k3, k3', k4, k5, ⟨ds, k6, k7, k8⟩, k9, k10, k11, k12⟩ := hand_one g1 g2 g3 g4 g5 hg hle hs.1 g7
                  exact ⟨κ2, ρ2, col2, k1, k2, k3, k4, ⟨⟨rfl, ds, k6, .inl ⟨r, k7, k8⟩⟩, k5⟩, LoanRel.mono g6 k10 k3', k12⟩
                · cases h
              · cases h
            | cons _ _ => simp [outArgs] at h
          | val s m' x =>
            simp only [outArgs] at h
            split at h
            · rename_i cs ls' σ1 h1
              obtain ⟨hle, h⟩ := bif3_some h
              simp only [Option.some.injEq, Prod.mk.injEq] at h
              obtain ⟨rfl, rfl, rfl⟩ := h
              obtain ⟨κ, ρ, col', g1, g2, g3, g4, g5, g6, g7⟩ := ih sls vs (j + 1) I hs.2 h1
              obtain ⟨ds, h2, h3, h4⟩ := hs.1
              refine ⟨κ, ρ, col', g1, g2, g3, ⟨g4.iff, g4.dead, fun r i h => by have := g4.bound r i h; simp only [List.length_cons]; omega, g4.virt⟩, ⟨⟨rfl, ds, h3, ?_⟩, g5⟩, g6, g7⟩
              rcases h4 with h4 | h4
              · refine .inr (.inl ⟨le_noOwn hle h4, fun p => ?_⟩)
                have h2' : Rep P s w col none p .sh x ds := h2.path rfl
                exact h2'.re _ ⟨rfl, fun b q _ _ ho => (by rw [ownAt_sh] at ho; cases ho), fun b q _ _ ho => (by rw [ownAt_sh] at ho; cases ho), g7, fun _ _ _ => rfl, Nat.le_refl _⟩
              · exact .inr (.inr h4)
            · cases h
          | _ => simp [outArgs] at h
end Go.Ev

noncomputable section
namespace Go.Ev
variable {P : Program}
theorem Rep.shared {s : S} {w : World} {col col' : Col} {p p' : List Nat} {m : M} {x : El s} {ds : List Value} (H : Rep P s w col none p m x ds) (hn : noOwn m = true) (hs : ∀ b, b < w.heap.size → col b = some [] → col' b = some []) : Rep P s w col' none p' m x ds :=
  H.re s ⟨le_refl _, fun b q _ _ ho => (by rw [ownAt_noOwn s q hn] at ho; cases ho), fun b q _ _ ho => (by rw [ownAt_noOwn s q hn] at ho; cases ho), hs, fun _ _ _ => rfl, Nat.le_refl _⟩
theorem frzArgs_ok {B : Base} {a : Act} {w : World} : ∀ (pm : List PM) (sls : List Slot) {col : Col} {σ : List Slot}, InvC P B col σ a w →
    ∃ col2, InvC P B col2 (frzArgs σ pm sls) a w ∧ Less σ (frzArgs σ pm sls) ∧ (∀ r, gs σ r = .dead → ∀ {s : S} {m : M} {x : El s} {ds : List Value}, Rep P s w col none [r] m x ds → Rep P s w col2 none [r] m x ds) ∧
      (∀ b, b < w.heap.size → col b = some [] → col2 b = some []) ∧ (∀ r, gs σ r = .dead → gs (frzArgs σ pm sls) r = .dead) := by
  intro pm
  induction pm with
  | nil =>
    intro sls col σ I
    have e : frzArgs σ [] sls = σ := by cases sls <;> rfl
    rw [e]
    exact ⟨col, I, Less.refl _, fun _ _ _ _ _ _ h => h, fun _ _ h => h, fun _ h => h⟩
  | cons p0 pm ih =>
    intro sls col σ I
    cases sls with
    | nil =>
      have e : frzArgs σ (p0 :: pm) [] = σ := by cases p0 <;> rfl
      rw [e]
      exact ⟨col, I, Less.refl _, fun _ _ _ _ _ _ h => h, fun _ _ h => h, fun _ h => h⟩
    | cons sl sls =>
      have same : frzArgs σ (p0 :: pm) (sl :: sls) = frzArgs σ pm sls → ∃ col2, InvC P B col2 (frzArgs σ (p0 :: pm) (sl :: sls)) a w ∧ Less σ (frzArgs σ (p0 :: pm) (sl :: sls)) ∧ (∀ r, gs σ r = .dead → ∀ {s : S} {m : M} {x : El s} {ds : List Value}, Rep P s w col none [r] m x ds → Rep P s w col2 none [r] m x ds) ∧
          (∀ b, b < w.heap.size → col b = some [] → col2 b = some []) ∧ (∀ r, gs σ r = .dead → gs (frzArgs σ (p0 :: pm) (sl :: sls)) r = .dead) := fun e => by rw [e]; exact ih sls I
      cases p0 with
      | loan m => exact same rfl
      | move m => exact same rfl
      | sh =>
        cases sl with
        | al r p =>
          cases hg : gs σ r with
          | val s m x =>
            have e : frzArgs σ (.sh :: pm) (.al r p :: sls) = frzArgs (ps σ r (.val s (setM s p m .sh) x)) pm sls := by simp only [frzArgs, hg]
            rw [e]
            have hle : le (setM s p m .sh) m = true := setM_le s p m .sh (noOwn_le rfl)
            obtain ⟨col2, g1, g2, g3, g4, g5⟩ := ih sls (I.less hg hle)
            have hd : ∀ t, gs σ t = .dead → t ≠ r ∧ gs (ps σ r (.val s (setM s p m .sh) x)) t = .dead := fun t ht => by
              have : t ≠ r := by rintro rfl; rw [hg] at ht; cases ht
              exact ⟨this, by rw [gs_ps_ne _ _ _ _ this]; exact ht⟩
            refine ⟨col2, g1, (Less.remode hg).trans g2, fun t ht s' m' x' ds H => g3 t (hd t ht).2 (H.apart (Apart.root (hd t ht).1 _ _) (by simp) _), fun b hb hc => g4 b hb ?_, fun t ht => g5 t (hd t ht).2⟩
            rw [reCol_quiet _ _ (by simp) (.inr hc)]; exact hc
          | _ => exact same (by simp only [frzArgs, hg])
        | _ => exact same rfl
theorem AlOk.laterW {w : World} {σ σ2 : List Slot} {V : Nat → Value} {v : Value} {r : Nat} {p : List Nat} (h : AlOk w σ V r p v) (L : LessAt σ σ2 r) {c : Comp} (hc : Slot.cont σ2 (.al r p) = some c) : AlOk w σ2 V r p v := by
  rcases h with ⟨cs, e, hp, e2⟩ | ⟨c0, hh, pth, q, u, hr, hcp⟩
  · subst hp
    rcases L with k | k | ⟨s1, m1, m1', x1, k, k'⟩ | ⟨ds, ds', k, k', _⟩
    · exact .inl ⟨cs, k.trans e, rfl, e2⟩
    · simp [Slot.cont, k] at hc
    · rw [k] at e; cases e
    · exact .inl ⟨ds', k', rfl, e2⟩
  · cases hr with
    | val e =>
      rcases L with k | k | ⟨s1, m1, m1', x1, k, k'⟩ | ⟨ds, ds', k, k', _⟩
      · exact .inr ⟨_, _, _, _, _, .val (k.trans e), hcp⟩
      · simp [Slot.cont, k] at hc
      · rw [e] at k
        injection k with k1 k2 k3
        subst k1
        have k3 := eq_of_heq k3
        subst k3
        exact .inr ⟨⟨_, m1', _⟩, _, _, _, _, .val k', hcp⟩
      · rw [e] at k; cases k
    | hol e hoff =>
      rcases L with k | k | ⟨s1, m1, m1', x1, k, k'⟩ | ⟨ds, ds', k, k', _⟩
      · exact .inr ⟨_, _, _, _, _, .hol (k.trans e) hoff, hcp⟩
      · simp [Slot.cont, k] at hc
      · rw [e] at k; cases k
      · rw [e] at k; cases k
    | tup e e2 e3 e4 e5 =>
      subst e2
      rcases L with k | k | ⟨s1, m1, m1', x1, k, k'⟩ | ⟨ds, ds', k, k', hn⟩
      · exact .inr ⟨_, _, _, _, _, .tup (k.trans e) rfl e3 e4 e5, hcp⟩
      · simp [Slot.cont, k] at hc
      · rw [e] at k; cases k
      · simp only [Slot.cont, k'] at hc
        split at hc
        · rename_i c' hc'
          rw [e] at k
          injection k with k
          subst k
          have := hn _ _ hc'
          rw [e3] at this
          injection this with this
          injection this with this
          subst this
          exact .inr ⟨_, _, _, _, _, .tup k' rfl hc' e4 e5, hcp⟩
        · cases hc
def LessW (σ σ2 : List Slot) : Prop := σ2.length = σ.length ∧ ∀ t, LessAt σ σ2 t ∨ ∃ s m x hp, gs σ2 t = .hol s m x hp
theorem LessW.of {σ σ2 : List Slot} (hl : σ2.length = σ.length) (h : Left σ σ2) : LessW σ σ2 := ⟨hl, fun t => by
  rcases h t with e | e | ⟨s, m, x, p, _, e⟩
  · exact .inl (.inl e)
  · exact .inl (.inr (.inl e))
  · exact .inr ⟨s, m, x, p, e⟩⟩
theorem LessW.trans {σ σ2 σ3 : List Slot} (h : LessW σ σ2) (h' : Less σ2 σ3) : LessW σ σ3 := ⟨h'.1.trans h.1, fun t => by
  rcases h.2 t with e | ⟨s, m, x, p, e⟩
  · exact .inl (e.trans (h'.2 t))
  · rcases h'.2 t with k | k | ⟨s1, m1, m1', x1, k, k'⟩ | ⟨ds, ds', k, k', _⟩
    · exact .inr ⟨s, m, x, p, k.trans e⟩
    · exact .inl (.inr (.inl k))
    · rw [e] at k; cases k
    · rw [e] at k; cases k⟩
theorem inArg_ok {B : Base} {a : Act} {w : World} {col col2 : Col} {σ σ2 : List Slot} {full : Bool} (I2 : InvC P B col2 σ2 a w) (L : LessW σ σ2) (hsh : ∀ b, b < w.heap.size → col b = some [] → col2 b = some []) {v : Value} {sl : Slot} {c : Comp}
    (ho : OpdOk P w col σ a v sl) (hc : inArg full σ2 sl = some c) : c.m = .sh ∧ ∃ ds pth m0, Rep P c.s w col2 none pth m0 c.x ds ∧ IsVal c.s v ds ∧ (noOwn m0 = true ∨ (full = true ∧ ∃ t pt, pth = t :: pt ∧ (gs σ2 t).isRoot = true)) := by
  cases sl with
  | val s m x =>
    simp only [inArg, Option.some.injEq] at hc
    subst hc
    obtain ⟨ds, h1, h2, h3⟩ := ho
    exact ⟨rfl, ds, [], .sh, h1.shared rfl hsh, h2, .inl rfl⟩
  | al r p =>
    simp only [inArg] at hc
    split at hc
    · rename_i c0 hw
      obtain ⟨hf, hc⟩ := bif3_some hc
      simp only [Option.some.injEq] at hc
      subst hc
      have hal : AlOk w σ2 (Act.V a) r p v := by
        rcases L.2 r with L | ⟨s, m, x, hp, e⟩
        · exact AlOk.laterW ho L (whole_cont hw)
        · simp [Slot.whole, e] at hw
      refine ⟨rfl, ?_⟩
      rcases hal with ⟨cs, e, hp, e2⟩ | ⟨c1, h, pth, q, u, hr, hcp⟩
      · subst hp; simp [Slot.whole, Slot.cont, e] at hw
      · obtain ⟨cs, h1, h2⟩ := I2.copy hr hcp
        have key : ⟨subS c1.s q, subM c1.s q c1.m, getP c1.s q c1.x⟩ = c0 ∧ h = none := by
          cases hr with
          | val e => simp only [Slot.whole, Slot.cont, e, Option.some.injEq] at hw; exact ⟨hw, rfl⟩
          | hol e hoff => simp [Slot.whole, e] at hw
          | tup e e2 e3 e4 e5 => subst e2; simp only [Slot.whole, Slot.cont, e, e3, Option.some.injEq] at hw; exact ⟨hw, rfl⟩
        obtain ⟨rfl, rfl⟩ := key
        rw [subHs_none] at h1
        obtain ⟨pt, e⟩ := hr.head
        refine ⟨cs, _, _, h1, h2, ?_⟩
        simp only [Bool.or_eq_true] at hf
        rcases hf with hf | hf
        · exact .inr ⟨hf, r, pt ++ q, by rw [e]; rfl, hr.isRoot⟩
        · exact .inl hf
    · cases hc
  | pl r p => simp [inArg, Slot.whole, Slot.cont] at hc
  | dead => simp [inArg, Slot.whole, Slot.cont] at hc
  | undef => simp [inArg, Slot.whole, Slot.cont] at hc
  | tup cs => simp [inArg, Slot.whole, Slot.cont] at hc
  | hol s m x p => simp [inArg, Slot.whole, Slot.cont] at hc
def colC (col : Col) (κ : Nat → Option Nat) (full : Bool) : Col := fun b => match col b with
  | some (t :: q) => match κ t with
    | some j => some (j :: q)
    | none => if full = true then some [] else none
  | x => x
theorem colC_nil {col : Col} {κ : Nat → Option Nat} {full : Bool} {b : Nat} (h : col b = some []) : colC col κ full b = some [] := by unfold colC; rw [h]
theorem colC_none {col : Col} {κ : Nat → Option Nat} {full : Bool} {b : Nat} (h : col b = none) : colC col κ full b = none := by unfold colC; rw [h]
theorem colC_arg {col : Col} {κ : Nat → Option Nat} {full : Bool} {b t j : Nat} {q : List Nat} (h : col b = some (t :: q)) (hk : κ t = some j) : colC col κ full b = some (j :: q) := by unfold colC; rw [h]; simp only [hk]
theorem colC_other {col : Col} {κ : Nat → Option Nat} {full : Bool} {b t : Nat} {q : List Nat} (h : col b = some (t :: q)) (hk : κ t = none) : colC col κ full b = if full = true then some [] else none := by unfold colC; rw [h]; simp only [hk]
theorem colC_quiet {col : Col} {κ : Nat → Option Nat} {full : Bool} {b t : Nat} {q : List Nat} (h : col b = some (t :: q)) (hk : κ t = none) : Quiet (colC col κ full b) := by
  rw [colC_other h hk]
  cases full
  · exact .inl rfl
  · exact .inr rfl
theorem inArgs_ok {B : Base} {a : Act} {w : World} {col col2 : Col} {σ σ2 : List Slot} {full : Bool} {κ : Nat → Option Nat} (I2 : InvC P B col2 σ2 a w) (L : LessW σ σ2) (hsh : ∀ b, b < w.heap.size → col b = some [] → col2 b = some [])
    (hκ : ∀ r i, κ r = some i → gs σ2 r = .dead) : ∀ (pm : List PM) (os : List (Option Comp)) (sls : List Slot) (vs : List Value) (j : Nat) {cs : List Comp}, SlotsOk P w col σ a sls vs → OutOk P w col2 κ j pm os vs → inArgs full σ2 os sls = some cs →
    ArgsOk P w (colC col2 κ full) j cs vs ∧ PMsOk pm cs := by
  intro pm
  have taken : ∀ {j r : Nat} {s : S} {m : M} {x : El s} {ds : List Value}, κ r = some j → Rep P s w col2 none [r] m x ds → Rep P s w (colC col2 κ full) none [j] m x ds := by
    intro j r s m x ds hk H
    exact H.re s ⟨le_refl _, fun b q _ hc _ => colC_arg hc hk, fun b q _ _ h1 h2 => (by rw [h1] at h2; cases h2), fun b _ hc => colC_nil hc, fun _ _ _ => rfl, Nat.le_refl _⟩
  induction pm with
  | nil =>
    intro os sls vs j cs hs ho h
    cases os with
    | cons _ _ => exact absurd ho id
    | nil =>
      cases vs with
      | cons _ _ => exact absurd ho id
      | nil =>
        cases sls with
        | nil => simp only [inArgs, Option.some.injEq] at h; subst h; exact ⟨trivial, trivial⟩
        | cons _ _ => exact absurd hs id
  | cons p0 pm ih =>
    intro os sls vs j cs hs ho h
    cases os with
    | nil => cases p0 <;> exact absurd ho id
    | cons o os =>
      cases vs with
      | nil => cases p0 <;> cases o <;> exact absurd ho id
      | cons v vs =>
        cases sls with
        | nil => exact absurd hs id
        | cons sl sls =>
          cases p0 with
          | sh =>
            cases o with
            | some _ => exact absurd ho id
            | none =>
              simp only [inArgs] at h
              split at h
              · rename_i c l h1 h2
                simp only [Option.some.injEq] at h
                subst h
                obtain ⟨g1, g2⟩ := ih os sls vs (j + 1) hs.2 ho h2
                obtain ⟨hm, ds, pth, m0, k1, k2, k3⟩ := inArg_ok I2 L hsh hs.1 h1
                refine ⟨⟨⟨ds, ?_, k2⟩, g1⟩, hm, g2⟩
                rw [hm]
                rcases k3 with k3 | ⟨hf, t, pt, rfl, ht⟩
                · exact (k1.toSh (p' := pth) k3).shared rfl (fun b _ hc => colC_nil hc)
                · refine k1.re _ ⟨noOwn_le rfl, fun b q _ _ ho => (by rw [ownAt_sh] at ho; cases ho), fun b q _ hc _ _ => ?_, fun b _ hc => colC_nil hc, fun _ _ _ => rfl, Nat.le_refl _⟩
                  have hkt : κ t = none := by
                    cases hk : κ t with
                    | none => rfl
                    | some i => rw [hκ t i hk] at ht; cases ht
                  have hc : col2 b = some (t :: (pt ++ q)) := hc
                  rw [colC_other hc hkt, if_pos hf]
              · cases h
          | loan m =>
            cases o with
            | none => exact absurd ho id
            | some c =>
              simp only [inArgs] at h
              split at h
              · rename_i l h2
                simp only [Option.some.injEq] at h
                subst h
                obtain ⟨g1, g2⟩ := ih os sls vs (j + 1) hs.2 ho.2 h2
                obtain ⟨hm, ds, r, k1, k2, k3⟩ := ho.1
                exact ⟨⟨⟨ds, taken k2 k3, k1⟩, g1⟩, hm, g2⟩
              · cases h
          | move m =>
            cases o with
            | none => exact absurd ho id
            | some c =>
              simp only [inArgs] at h
              split at h
              · rename_i l h2
                simp only [Option.some.injEq] at h
                subst h
                obtain ⟨g1, g2⟩ := ih os sls vs (j + 1) hs.2 ho.2 h2
                obtain ⟨hm, ds, k1, k2⟩ := ho.1
                refine ⟨⟨⟨ds, ?_, k1⟩, g1⟩, hm, g2⟩
                rcases k2 with ⟨r, k2, k3⟩ | ⟨k2, k3⟩ | k2
                · exact taken k2 k3
                · exact Rep.unsh _ ((k3 [j]).shared rfl (fun b _ hc => colC_nil hc)) k2
                · exact k2 _ _ _ _
              · cases h
end Go.Ev

noncomputable section
namespace Go.Ev
open Classical
variable {P : Program}
theorem OutOk.len {w : World} {col : Col} {κ : Nat → Option Nat} : ∀ {pm : List PM} {j : Nat} {os : List (Option Comp)} {vs : List Value}, OutOk P w col κ j pm os vs → pm.length = vs.length := by
  intro pm
  induction pm with
  | nil => intro j os vs h; cases os <;> cases vs <;> first | rfl | exact absurd h id
  | cons p0 pm ih =>
    intro j os vs h
    cases p0 <;> cases os <;> first | exact absurd h id | skip
    all_goals rename_i o os
    all_goals cases o <;> cases vs <;> first | exact absurd h id | skip
    · exact congrArg (· + 1) (ih (j := j + 1) h)
    · exact congrArg (· + 1) (ih (j := j + 1) h.2)
    · exact congrArg (· + 1) (ih (j := j + 1) h.2)
theorem InvC.way {B : Base} {col : Col} {σ : List Slot} {a : Act} {w w' : World} (I : InvC P B col σ a w)
    (hq : ∀ b, b < w.heap.size → Quiet (col b) → w'.heap[b]? = w.heap[b]?) (ho : ∀ b t q, b < w.heap.size → col b = some (t :: q) → (gs σ t).isRoot = true → w'.heap[b]? = w.heap[b]?)
    {t : Nat} {p pth q : List Nat} {c : Comp} {hh : Option (List Nat)} {u : Value} (K : RootIs σ (Act.V a) t p c hh pth q u) {cs cs' : List Value} {oa' : Option Addr} (hv : IsVal c.s u cs) (hn : Nav w c.s q cs none cs' oa') : Nav w' c.s q cs none cs' oa' := by
  obtain ⟨cs0, h1, h2⟩ := I.root K
  have := h2.unique hv
  subst this
  obtain ⟨pt, e⟩ := K.head
  refine hn.stay _ _ h1 K.off (fun b hb h => ?_)
  rcases h with h | ⟨q, h, _⟩
  · exact hq b hb (.inr h)
  · rw [e] at h; exact ho b t (pt ++ q) hb h K.isRoot
theorem InvC.stays {B : Base} {col col' : Col} {σ : List Slot} {a : Act} {w w' : World} (I : InvC P B col σ a w) (hout : Out w w') (hsz : w.heap.size ≤ w'.heap.size)
    (hq : ∀ b, b < w.heap.size → Quiet (col b) → col' b = col b ∧ w'.heap[b]? = w.heap[b]?) (ho : ∀ b t q, b < w.heap.size → col b = some (t :: q) → (gs σ t).isRoot = true → col' b = col b ∧ w'.heap[b]? = w.heap[b]?) : InvC P B col' σ a w' := by
  have key : ∀ {t : Nat} {pt : List Nat} {s : S} {h : Option (List Nat)} {m : M} {x : El s} {cs : List Value}, (gs σ t).isRoot = true → Rep P s w col h (t :: pt) m x cs → Rep P s w' col' h (t :: pt) m x cs := by
    intro t pt s h m x cs ht H
    refine H.stay ⟨fun b q hb hc _ => (ho b t (pt ++ q) hb hc ht).1.trans hc, fun b hb hc => (hq b hb (.inr hc)).1.trans hc, fun b hb h => ?_, hsz⟩
    rcases h with h | ⟨q, h, _⟩
    · exact (hq b hb (.inr h)).2
    · exact (ho b t (pt ++ q) hb h ht).2
  have nav : ∀ {t : Nat} {p pth q : List Nat} {c : Comp} {hh : Option (List Nat)} {u : Value} (K : RootIs σ (Act.V a) t p c hh pth q u) {cs cs' : List Value} {oa' : Option Addr}, IsVal c.s u cs → Nav w c.s q cs none cs' oa' → Nav w' c.s q cs none cs' oa' := by
    intro t p pth q c hh u K cs cs' oa' hv hn
    obtain ⟨cs0, h1, h2⟩ := I.root K
    have := h2.unique hv
    subst this
    obtain ⟨pt, e⟩ := K.head
    refine hn.stay _ _ h1 K.off (fun b hb h => ?_)
    rcases h with h | ⟨q, h, _⟩
    · exact (hq b hb (.inr h)).2
    · rw [e] at h; exact (ho b t (pt ++ q) hb h K.isRoot).2
  refine ⟨I.len, I.dfr, ⟨Nat.le_trans I.frm.sz hsz, fun b hb hc => ?_, fun b hb hc => ?_, I.frm.out.trans hout⟩, fun t => ?_⟩
  · have := I.frm.col b hb hc
    exact (hq b (Nat.lt_of_lt_of_le hb I.frm.sz) (by rw [this]; exact hc)).2.trans (I.frm.mem b hb hc)
  · have := I.frm.col b hb hc
    exact (hq b (Nat.lt_of_lt_of_le hb I.frm.sz) (by rw [this]; exact hc)).1.trans this
  · have hk := I.ok t
    cases hs : gs σ t with
    | dead => trivial
    | undef => rw [hs] at hk; exact hk
    | val s1 m1 x1 => rw [hs] at hk; obtain ⟨cs, h1, h2⟩ := hk; exact ⟨cs, key (by rw [hs]; rfl) h1, h2⟩
    | hol s1 m1 x1 hp1 => rw [hs] at hk; obtain ⟨h0, cs, h1, h2⟩ := hk; exact ⟨h0, cs, key (by rw [hs]; rfl) h1, h2⟩
    | tup cs1 => rw [hs] at hk; obtain ⟨vs, e, h⟩ := hk; exact ⟨vs, e, fun i c hi => by obtain ⟨u, cs', h1, h2, h3⟩ := h i c hi; exact ⟨u, cs', h1, key (by rw [hs]; rfl) h2, h3⟩⟩
    | al r' q =>
      rw [hs] at hk
      refine ⟨hk.1, ?_⟩
      rcases hk.2 with h | ⟨c, hh, pth, q1, u, hr, okq, c1, c2, oa, k1, k2, k3⟩
      · exact .inl h
      · exact .inr ⟨c, hh, pth, q1, u, hr, okq, c1, c2, oa, k1, nav hr k1 k2, k3⟩
    | pl r' q =>
      rw [hs] at hk
      refine ⟨hk.1, ?_⟩
      obtain ⟨c, hh, pth, q1, u, hr, okq, c1, c2, oa, k1, k2, k3⟩ := hk.2
      exact ⟨c, hh, pth, q1, u, hr, okq, c1, c2, oa, k1, nav hr k1 k2, k3⟩
theorem gs_realias (ls : List Nat) (σ0 σf : List Slot) : ∀ (σ σ2 : List Slot) (t : Nat), σ2.length = σ.length →
    gs (realias ls σ0 σf σ σ2) t = bif3 (isDead (gs σ2 t) && backAl ls σ0 σf (gs σ t)) (gs σ t) (gs σ2 t)
  | [], [], t, _ => rfl
  | s :: σ, s2 :: σ2, 0, _ => rfl
  | s :: σ, s2 :: σ2, t + 1, h => gs_realias ls σ0 σf σ σ2 t (by simpa using h)
  | [], _ :: _, t, h => by simp at h
  | _ :: _, [], t, h => by simp at h
theorem length_realias (ls : List Nat) (σ0 σf : List Slot) : ∀ (σ σ2 : List Slot), (realias ls σ0 σf σ σ2).length = σ2.length
  | [], σ2 => by cases σ2 <;> rfl
  | s :: σ, [] => rfl
  | s :: σ, s2 :: σ2 => by simp [realias, length_realias ls σ0 σf σ σ2]
theorem InvC.realias {B B' : Base} {col col' : Col} {σ σ4 : List Slot} {a : Act} {w w' : World} {ls : List Nat} (I0 : InvC P B col σ a w) (I : InvC P B' col' σ4 a w') :
    InvC P B' col' (Ev.realias ls σ σ4 σ σ4) a w' := by
  have hl : σ4.length = σ.length := by rw [← I.len, ← I0.len]
  have hroot : ∀ r, (gs σ4 r).isRoot = true → gs (Ev.realias ls σ σ4 σ σ4) r = gs σ4 r := by
    intro r h
    rw [gs_realias _ _ _ _ _ _ hl]
    cases hs : gs σ4 r <;> rw [hs] at h <;> first | rfl | cases h
  refine ⟨by rw [length_realias]; exact I.len, I.dfr, I.frm, fun t => ?_⟩
  have h := I.ok t
  rw [gs_realias _ _ _ _ _ _ hl]
  cases hc : isDead (gs σ4 t) && backAl ls σ σ4 (gs σ t)
  · show SlotOk P w' col' _ (Act.V a) t (gs σ4 t)
    cases hs : gs σ4 t with
    | al r p => rw [hs] at h; exact ⟨h.1, h.2.ctx (hroot r h.2.isRoot) rfl⟩
    | pl r p => rw [hs] at h; exact ⟨h.1, h.2.ctx (hroot r h.2.isRoot) rfl⟩
    | _ => rw [hs] at h; exact h
  · show SlotOk P w' col' _ (Act.V a) t (gs σ t)
    rw [Bool.and_eq_true] at hc
    have hb := hc.2
    have h0 := I0.ok t
    cases hs : gs σ t with
    | al r p =>
      rw [hs] at hb h0
      cases p with
      | cons _ _ => cases hb
      | nil =>
        simp only [backAl, Bool.and_eq_true] at hb
        obtain ⟨_, hb0, hb1⟩ := hb
        unfold rowVal at hb0 hb1
        obtain ⟨hne, ha⟩ := h0
        refine ⟨hne, ?_⟩
        have hv : Act.V a t = Act.V a r := by
          rcases ha with ⟨cs, e, _, hv⟩ | ⟨c, hh, pth, q, u, hr, hok, cs, cs', oa', k1, k2, k3⟩
          · exact hv
          · cases hr with
            | @val s m x e =>
              rw [e] at hb0
              obtain ⟨rfl, _⟩ := Nav_nil' k2
              cases s <;> first | (exact (by have e : cs' = [Act.V a r] := k1; have e3 : cs' = [Act.V a t] := k3; rw [e] at e3; simpa using e3.symm)) | cases hb0
            | hol e => rw [e] at hb0; cases hb0
            | tup e e2 => cases e2
        cases hs4 : gs σ4 r with
        | val s m x =>
          rw [hs4] at hb1
          have h4 := I.ok r
          rw [hs4] at h4
          obtain ⟨cs, g1, g2⟩ := h4
          refine .inr ⟨⟨s, m, x⟩, none, [r], [], Act.V a r, .val ((hroot r (by rw [hs4]; rfl)).trans hs4), ?_, cs, cs, none, g2, Nav_nil _ _ _ _, ?_⟩
          · cases s <;> exact okP_nil _ _
          · rw [hv]
            cases s <;> first | exact g2 | cases hb1
        | _ => rw [hs4] at hb1; cases hb1
    | _ => rw [hs] at hb; cases hb
def colF (w : World) (col cc col' : Col) (ρ : Nat → Option Nat) (n d : Nat) : Col := fun b =>
  if b < w.heap.size ∧ Quiet (cc b) then col b else match col' b with
    | some (j :: q) => if j = n then some (d :: q) else match ρ j with
      | some r => some (r :: q)
      | none => none
    | x => x
theorem Nav.some_of : ∀ (s : S) (p : List Nat) {w : World} {cs cs' : List Value} {oa : Option Addr}, Nav w s p cs oa cs' none → oa = none ∧ crosses s p = false := by
  have base : ∀ (s : S) {w : World} {cs cs' : List Value} {oa : Option Addr}, Nav w s [] cs oa cs' none → oa = none ∧ crosses s [] = false := by
    intro s w cs cs' oa h
    obtain ⟨_, h⟩ := Nav_nil' h
    exact ⟨h.symm, by cases s <;> rfl⟩
  intro s
  induction s with
  | agg s ih => intro p w cs cs' oa h; cases p with | nil => exact base _ h | cons i p => exact ih p h.2
  | pair a b iha ihb =>
    intro p w cs cs' oa h
    cases p with
    | nil => exact base _ h
    | cons i p =>
      obtain ⟨c1, c2, _, _, h⟩ := h
      match i with
      | 0 => exact iha p h
      | 1 => obtain ⟨h1, h2⟩ := ihb p h; exact ⟨(by cases oa <;> first | rfl | cases h1), h2⟩
      | _ + 2 => exact absurd h id
  | slice nl s ih =>
    intro p w cs cs' oa h
    cases p with
    | nil => exact base _ h
    | cons i p => obtain ⟨_, _, _, _, _, _, _, _, _, h⟩ := h; have := (ih p h).1; cases this
  | ptr s ih =>
    intro p w cs cs' oa h
    cases p with
    | nil => exact base _ h
    | cons i p => obtain ⟨_, _, _, _, _, _, _, h⟩ := h; have := (ih p h).1; cases this
  | _ => intro p w cs cs' oa h; have hp := h.1; subst hp; exact base _ h
theorem IsVal.same' {s s' : S} (e : sameS s s' = true) {v : Value} {cs : List Value} (h : IsVal s v cs) : IsVal s' v cs := by
  cases s <;> cases s' <;> first | (simp [sameS] at e; done) | exact h | exact absurd h id
theorem InvC.filled {B : Base} {a : Act} {w : World} {col : Col} {σ : List Slot} {r N : Nat} {s : S} {m mm : M} {x : El s} {p : List Nat} {y : El (subS s p)} {v : Value} {ds : List Value} (I : InvC P B col σ a w) (hg : gs σ r = .hol s mm x p) (hi : innerOw s p mm = true)
    (hcp : Copy w ⟨s, mm, x⟩ p (Act.V a r) v) (hN : σ.length ≤ N) (hy : Rep P (subS s p) w col none [N] m y ds) (hv : IsVal (subS s p) v ds) :
    ∃ col2, InvC P B col2 (ps (σ.map (keepA r s p)) r (.val s (setM s p mm m) (setP s p x y))) a w ∧ (∀ b t q, t ≠ r → t ≠ N → col b = some (t :: q) → col2 b = some (t :: q)) ∧ ∀ b, Quiet (col b) → col2 b = col b := by
  have hkr := I.ok r
  rw [hg] at hkr
  obtain ⟨hpn, cs, hrep, hval⟩ := hkr
  obtain ⟨ok, cs1, cp, oa, e1, hn, e2⟩ := hcp
  have := hval.unique e1
  subst this
  have := e2.unique hv
  subst this
  have hoff : offH (some p) p := offH_self (.inr rfl)
  obtain ⟨ad, rfl⟩ : ∃ ad, oa = some ad := by
    cases oa with
    | some ad => exact ⟨ad, rfl⟩
    | none => have h1 := (Nav.some_of s p hn).2; rw [innerOw_crosses s p mm hi] at h1; cases h1
  obtain ⟨hsp, hat⟩ := hn.at_ _ _ (fun _ h => by cases h) ad rfl
  obtain ⟨col2, h1, h2, h3⟩ := I.stored (f := keepA r s p) (m := mm) (my := m) (w' := w) (h := some p) (pth := [N]) (.inr ⟨p, hg, rfl⟩) (.inr rfl) ⟨ok, cs, cp, ad, hval, hn, rfl⟩ hi (le_refl _) (subM_setM s p mm m) (by show (gs σ N).isRoot = false; rw [gs_out _ _ hN]; rfl) hy
    ⟨rfl, fun _ _ => rfl, fun _ h => h, hat, fun _ _ => rfl, Out.refl w⟩ (keepA_or r s p) (fun sl h => by cases sl <;> first | rfl | simp [Slot.isRoot] at h) (fun q _ h => .inr ⟨by
      have h : bif3 (r == r) (bif3 (mayPre s p q) Slot.dead (.al r q)) (.al r q) = .al r q := h
      rw [beq_self_eq_true] at h
      cases hb : mayPre s p q
      · rfl
      · rw [hb] at h; exact absurd h (by simp [bif3]), .inr (.inr rfl)⟩) (fun q h => by
      have h : bif3 (r == r) (bif3 (mayPre s p q) Slot.dead (.pl r q)) (.pl r q) = .pl r q := h
      rw [beq_self_eq_true] at h
      cases hb : mayPre s p q
      · exact .inl rfl
      · rw [hb] at h; exact absurd h (by simp [bif3]))
  exact ⟨col2, h1, fun b t q htr htN hc => h2 b t q htr (fun pt e => by injection e with e; exact htN e.symm) hc, h3⟩
def HoleU (w : World) (σ : List Slot) (V : Nat → Value) (r : Nat) (v : Value) : Prop := ∀ s m x hp, gs σ r = .hol s m x hp → Copy w ⟨s, m, x⟩ hp (V r) v
def Inc : Nat → List (Nat × M × Value) → Prop
  | _, [] => True
  | n, (j, _, _) :: l => n ≤ j ∧ Inc (j + 1) l
theorem Inc.mono : ∀ {n n' : Nat} {l : List (Nat × M × Value)}, n' ≤ n → Inc n l → Inc n' l
  | _, _, [], _, _ => trivial
  | _, _, (j, _, _) :: l, h, h' => ⟨Nat.le_trans h h'.1, h'.2⟩
theorem loansL_inc : ∀ (pm : List PM) (vs : List Value) (j : Nat), Inc j (loansL j pm vs)
  | [], vs, j => by cases vs <;> trivial
  | .sh :: pm, [], j => trivial
  | .loan m :: pm, [], j => trivial
  | .move m :: pm, [], j => trivial
  | .sh :: pm, v :: vs, j => Inc.mono (by omega) (loansL_inc pm vs (j + 1))
  | .move m :: pm, v :: vs, j => Inc.mono (by omega) (loansL_inc pm vs (j + 1))
  | .loan m :: pm, v :: vs, j => ⟨Nat.le_refl _, loansL_inc pm vs (j + 1)⟩
theorem giveBack_ok {R : Type} {B : Base} {a : Act} {w' : World} {colf col' : Col} {N : Nat} {ρ : Nat → Option Nat} {full : Bool} {res : R} {dst : Option Nat}
    (hback : ∀ colx : Col, (∀ b, Quiet (colf b) → colx b = colf b) → ∀ j r, ρ j = some r → (∀ b q, colf b = some (r :: q) → colx b = some (r :: q)) → ∀ {s : S} {m : M} {x : El s} {ds : List Value}, (full = true → fullM s m = true) → Rep P s w' col' none [j] m x ds → Rep P s w' colx none [r] m x ds)
    (hinj : ∀ i i' r, ρ i = some r → ρ i' = some r → i = i') :
    ∀ (js : List (Nat × M × Value)) (n : Nat) (ms : List M) (ls : List (Nat × List Nat)) (lo : S) (l : El lo) {σ : List Slot} {K : List Slot → Option R} {colx : Col}, InvC P B colx σ a w' → σ.length = N → (∀ b, Quiet (colf b) → colx b = colf b) →
      (∀ j r, n ≤ j → ρ j = some r → ∀ b q, colf b = some (r :: q) → colx b = some (r :: q)) → (∀ d, dst = some d → ∀ b q, colf b = some (d :: q) → colx b = some (d :: q)) → Inc n js →
      LoanRel (fun r v => HoleU w' σ (Act.V a) r v ∧ ∀ j, ρ j ≠ some r) (Act.V a) N ρ js ms ls → LoansOk P w' col' js lo l → (full = true → fullL ms lo = true) → subOk N dst ls = true →
      giveBack σ ms ls lo l K = some res → ∃ σ' colx', InvC P B colx' σ' a w' ∧ K σ' = some res ∧ (∀ b, Quiet (colf b) → colx' b = colf b) ∧ ∀ d, dst = some d → ∀ b q, colf b = some (d :: q) → colx' b = some (d :: q) := by
  have one : ∀ {j n r : Nat} {p : List Nat} {m : M} {v : Value} {s : S} {x : El s} {σ : List Slot} {K : List Slot → Option R} {colx : Col}, InvC P B colx σ a w' → σ.length = N → (∀ b, Quiet (colf b) → colx b = colf b) →
      (∀ j r, n ≤ j → ρ j = some r → ∀ b q, colf b = some (r :: q) → colx b = some (r :: q)) → (∀ d, dst = some d → ∀ b q, colf b = some (d :: q) → colx b = some (d :: q)) → n ≤ j →
      (match p with
        | [] => ρ j = some r ∧ Act.V a r = v
        | _ :: _ => ρ j = some (N + j) ∧ HoleU w' σ (Act.V a) r v ∧ ∀ j, ρ j ≠ some r) → (∃ ds, Rep P s w' col' none [j] m x ds ∧ IsVal s v ds) → (full = true → fullM s m = true) → subOk N dst [(r, p)] = true →
      backOne σ m r p s x K = some res → ∃ σ' colx', InvC P B colx' σ' a w' ∧ σ'.length = N ∧ K σ' = some res ∧ (∀ b, Quiet (colf b) → colx' b = colf b) ∧ (∀ d, dst = some d → ∀ b q, colf b = some (d :: q) → colx' b = some (d :: q)) ∧
        (∀ j' r', j + 1 ≤ j' → ρ j' = some r' → ∀ b q, colf b = some (r' :: q) → colx' b = some (r' :: q)) ∧ ∀ r' v', HoleU w' σ (Act.V a) r' v' → HoleU w' σ' (Act.V a) r' v' := by
    intro j n r p m v s x σ K colx I hl hA hB hD hn hr hx hf hso h
    have hlt2 : ∀ (s0 : S) (p0 : List Nat) (y : Slot) (r' : Nat), (∀ s m x hp, y ≠ .hol s m x hp) → ∀ s m x hp, gs (ps (σ.map (keepA r s0 p0)) r y) r' = .hol s m x hp → gs σ r' = .hol s m x hp := by
      intro s0 p0 y r' hy s m x hp e
      by_cases hr' : r' = r
      · subst hr'
        by_cases hl : r' < (σ.map (keepA r' s0 p0)).length
        · rw [gs_ps_same _ _ _ hl] at e; exact absurd e (hy _ _ _ _)
        · rw [gs_out _ _ (by rw [length_ps]; omega)] at e; cases e
      · rw [gs_ps_ne _ _ _ _ hr', gs_map _ rfl] at e
        rcases keepA_or r s0 p0 (gs σ r') with k | k
        · rw [← k]; exact e
        · rw [k] at e; cases e
    have hlt : ∀ (y : Slot) (r' : Nat), (∀ s m x hp, y ≠ .hol s m x hp) → ∀ s m x hp, gs (ps (kill r σ) r y) r' = .hol s m x hp → gs σ r' = .hol s m x hp := by
      intro y r' hy s m x hp e
      by_cases hr' : r' = r
      · subst hr'
        by_cases hl : r' < (kill r' σ).length
        · rw [gs_ps_same _ _ _ hl] at e; exact absurd e (hy _ _ _ _)
        · rw [gs_out _ _ (by rw [length_ps]; omega)] at e; cases e
      · rw [gs_ps_ne _ _ _ _ hr', gs_kill] at e
        cases hb : (gs σ r').isAl r
        · rw [hb] at e; exact e
        · rw [hb] at e; cases e
    cases p with
    | nil =>
      obtain ⟨hρ, hv⟩ := hr
      obtain ⟨ds, h1, h2⟩ := hx
      refine ⟨_, colx, ?_, ?_, h, hA, hD, fun j' r' hj => hB j' r' (by omega), fun r' v' hh s1 m1 x1 hp e => hh s1 m1 x1 hp (hlt _ _ (fun _ _ _ _ => by simp) _ _ _ _ e)⟩
      · rw [put_root (fun _ => rfl)]
        exact I.replace (fun _ _ _ => rfl) (fun _ _ h => h) ⟨ds, hback colx hA j r hρ (hB j r hn hρ) hf h1, by rw [hv]; exact h2⟩ (fun _ => rfl)
      · rw [length_ps, length_kill]; exact hl
    | cons i p =>
      obtain ⟨hρ, hh, hnr⟩ := hr
      obtain ⟨ds, h1, h2⟩ := hx
      simp only [backOne] at h
      split at h
      · rename_i s1 mm x1 hp hg
        obtain ⟨hi, h⟩ := bif3_some h
        obtain ⟨y, h, hss, hco⟩ := coer_ok _ _ h
        have hy := hco (hback colx hA j (N + j) hρ (hB j _ hn hρ) hf h1)
        obtain ⟨col2, I2, k1, k2⟩ := I.filled hg hi (hh _ _ _ _ hg) (show σ.length ≤ N + j by omega) hy (IsVal.same' hss h2)
        refine ⟨_, col2, I2, by rw [length_ps, List.length_map]; exact hl, h, fun b hq => ?_, fun d hd b q hc => ?_, fun j' r' hj hr' b q hc => ?_, fun r' v' hh s2 m2 x2 hp2 e => hh s2 m2 x2 hp2 (hlt2 _ _ _ _ (fun _ _ _ _ => by simp) _ _ _ _ e)⟩
        · have := hA b hq
          rw [k2 b (by rw [this]; exact hq)]; exact this
        · rw [hd] at hso
          simp only [subOk, Bool.and_eq_true, Bool.not_eq_true'] at hso
          have hdN := ltb_lt hso.1.1
          have hdr : d ≠ r := fun e => by subst e; have := hso.1.2; rw [Nat.beq_refl] at this; cases this
          exact k1 b d q hdr (by omega) (hD d hd b q hc)
        · refine k1 b r' q (fun e => hnr j' (by rw [← e]; exact hr')) (fun e => ?_) (hB j' r' (by omega) hr' b q hc)
          have := hinj j j' _ hρ (by rw [← e]; exact hr')
          omega
      · cases h
  intro js
  induction js with
  | nil =>
    intro n ms ls lo l σ K colx I hl hA hB hD hinc hR hL hf hso h
    cases ms with
    | nil => cases ls with
      | nil => exact ⟨σ, colx, I, h, hA, hD⟩
      | cons _ _ => exact absurd hR id
    | cons _ _ => exact absurd hR id
  | cons jmv js ih =>
    intro n ms ls lo l σ K colx I hl hA hB hD hinc hR hL hf hso h
    obtain ⟨j, m, v⟩ := jmv
    cases ms with
    | nil => exact absurd hR id
    | cons m' ms =>
      cases ls with
      | nil => exact absurd hR id
      | cons rp ls =>
        obtain ⟨r, p⟩ := rp
        obtain ⟨⟨rfl, hrp⟩, hR⟩ := hR
        have hso1 : subOk N dst [(r, p)] = true := by
          cases p with
          | nil => rfl
          | cons i p => simp only [subOk, Bool.and_eq_true] at hso ⊢; exact ⟨hso.1, trivial⟩
        have hso2 : subOk N dst ls = true := by
          cases p with
          | nil => exact hso
          | cons i p => simp only [subOk, Bool.and_eq_true] at hso; exact hso.2
        cases js with
        | nil =>
          cases ms with
          | cons _ _ => exact absurd hR id
          | nil =>
            cases ls with
            | cons _ _ => exact absurd hR id
            | nil =>
              have hL : ∃ ds, Rep P lo w' col' none [j] m' l ds ∧ IsVal lo v ds := by cases lo <;> exact hL
              have h : backOne σ m' r p lo l K = some res := by cases lo <;> exact h
              obtain ⟨σ', colx', g1, g2, g3, g4, g5, _⟩ := one I hl hA hB hD hinc.1 hrp hL (fun e => by have := hf e; cases lo <;> exact this) hso1 h
              exact ⟨σ', colx', g1, g3, g4, g5⟩
        | cons jmv2 js =>
          cases ms with
          | nil => exact absurd hR id
          | cons m2 ms =>
            cases ls with
            | nil => exact absurd hR id
            | cons r2 ls =>
              cases lo with
              | pair lo1 lo2 =>
                have h : backOne σ m' r p lo1 l.1 (fun σ => giveBack σ (m2 :: ms) (r2 :: ls) lo2 l.2 K) = some res := h
                have hf' : full = true → fullM lo1 m' = true ∧ fullL (m2 :: ms) lo2 = true := fun e => by
                  have := hf e
                  have : (fullM lo1 m' && fullL (m2 :: ms) lo2) = true := this
                  simpa using this
                obtain ⟨σ', colx', g1, g2, g3, g4, g5, g6, g7⟩ := one I hl hA hB hD hinc.1 hrp hL.1 (fun e => (hf' e).1) hso1 h
                exact ih (j + 1) (m2 :: ms) (r2 :: ls) lo2 l.2 g1 g2 g4 g6 g5 hinc.2 (LoanRel.mono hR (fun _ _ h => h) (fun r v h => ⟨g7 r v h.1, h.2⟩)) hL.2 (fun e => (hf' e).2) hso2 g3
              | _ => exact absurd hL id
section
variable {C : Ctx} {B : Base} {R : Type} {K : List Slot → Option R} {res : R} {next : Act → World → Prop} {Q : Exit → Act → World → Prop} {o : Oper} {σ : List Slot} {a : Act} {w : World} {col : Col}
theorem call_core (I : InvC P B col σ a w) (hG : Good P B K res next) {σm : Sem} {sls : List Slot} {vs : List Value} {f : FuncId} {cap : Array Value} (hs : SlotsOk P w col σ a sls vs)
    (hrun : (execOp a.eval o).run P w = .ok (.enter f (vs.toArray ++ cap)) w)
    (hct : ∀ (col' : Col) (cs : List Comp), (∀ b, b < w.heap.size → col b = some [] → col' b = some []) → PMsOk σm.pm cs → ArgsOk P w col' 0 cs vs → ∀ (k : El σm.r → El σm.lo → Option R), σm.f cs R k = some res →
      ∃ y l, k y l = some res ∧ Calls P f (vs.toArray ++ cap) w (Post P σm w col' vs y l))
    (he : callSem σ σm o.dst sls K = some res) : o.wp P a w next Q := by
  unfold callSem at he
  split at he
  · cases he
  · rename_i os ls σ1 hout
    obtain ⟨κ, ρ, col1, I1, hl1, hsub, H, hO, hLR, hsh1⟩ := outArgs_ok _ _ _ 0 I hs hout
    have hL1 : LessW σ σ1 := .of hl1 hsub
    generalize hfull : isFull σm = full at he
    obtain ⟨σ2, hσ2, col2, I2, L2, hO2, hsh2, hdead, hhol⟩ : ∃ σ2, σ2 = bif3 full σ1 (frzArgs σ1 σm.pm sls) ∧ ∃ col2, InvC P B col2 σ2 a w ∧ LessW σ σ2 ∧ OutOk P w col2 κ 0 σm.pm os vs ∧ (∀ b, b < w.heap.size → col b = some [] → col2 b = some []) ∧ (∀ r i, κ r = some i → gs σ2 r = .dead) ∧ ∀ r s m x p, gs σ2 r = .hol s m x p → gs σ1 r = .hol s m x p := by
      refine ⟨_, rfl, ?_⟩
      cases full
      · obtain ⟨col2, g1, g2, g3, g4, g5⟩ := frzArgs_ok σm.pm sls I1
        refine ⟨col2, g1, hL1.trans g2, hO.mono (fun _ _ _ h => h) (fun r i hk s m x ds => g3 r (H.dead r i hk)) g4, fun b hb hc => g4 b hb (hsh1 b hb hc), fun r i hk => g5 r (H.dead r i hk), fun r s m x p e => ?_⟩
        have e : gs (frzArgs σ1 σm.pm sls) r = .hol s m x p := e
        rcases g2.2 r with k | k | ⟨_, _, _, _, _, k⟩ | ⟨_, _, _, k, _⟩
        · rw [← k]; exact e
        · rw [e] at k; cases k
        · rw [e] at k; cases k
        · rw [e] at k; cases k
      · exact ⟨col1, I1, hL1, hO, hsh1, fun r i hk => H.dead r i hk, fun _ _ _ _ _ e => e⟩
    simp only at he
    rw [← hσ2] at he
    split at he
    · cases he
    · rename_i cs hin
      obtain ⟨hso, he⟩ := bif3_some he
      obtain ⟨hA, hP⟩ := inArgs_ok I2 L2 hsh2 hdead _ _ _ _ 0 hs hO2 hin
      have hlen := hO2.len
      obtain ⟨y, l, hk, hcalls⟩ := hct (colC col2 κ full) cs (fun b hb hc => colC_nil (hsh2 b hb hc)) hP hA _ he
      unfold Oper.wp
      rw [hrun, Oper.upon_enter]
      refine hcalls.mono ?_
      rintro e w' ⟨v, col', rfl, hroot, hloans, hfrm⟩
      show next (a.put o.dst v) w'
      let d := o.dst.getD 0
      let cf := colF w col2 (colC col2 κ full) col' ρ vs.length d
      have hρn : ∀ j r, ρ j = some r → j ≠ vs.length := fun j r h e => by
        have := H.bound r j ((H.iff r j).2 h)
        omega
      have F1 : ∀ b, b < w.heap.size → Quiet (colC col2 κ full b) → cf b = col2 b ∧ w'.heap[b]? = w.heap[b]? ∧ col' b = colC col2 κ full b := fun b hb hq =>
        ⟨by show colF _ _ _ _ _ _ _ b = _; unfold colF; rw [if_pos ⟨hb, hq⟩], hfrm.mem b hb hq, hfrm.col b hb hq⟩
      have FN : ∀ b j q, col' b = some (j :: q) → cf b = if j = vs.length then some (d :: q) else match ρ j with
          | some r => some (r :: q)
          | none => none := fun b j q hc => by
        show colF _ _ _ _ _ _ _ b = _
        unfold colF
        rw [if_neg, hc]
        rintro ⟨hb, hq⟩
        have := (F1 b hb hq).2.2
        rw [hc] at this
        rw [← this] at hq
        rcases hq with hq | hq <;> cases hq
      have F2 : ∀ b q, col' b = some (vs.length :: q) → cf b = some (d :: q) := fun b q hc => by rw [FN b _ q hc, if_pos rfl]
      have F3 : ∀ b j r q, ρ j = some r → col' b = some (j :: q) → cf b = some (r :: q) := fun b j r q hr hc => by rw [FN b j q hc, if_neg (hρn j r hr), hr]
      have F4 : full = false → ∀ b, col' b = some [] → cf b = some [] := fun hf b hc => by
        show colF _ _ _ _ _ _ _ b = _
        unfold colF
        by_cases hq : b < w.heap.size ∧ Quiet (colC col2 κ full b)
        · rw [if_pos hq]
          have := (F1 b hq.1 hq.2).2.2
          rw [hc] at this
          cases h2 : col2 b with
          | none => rw [colC_none h2] at this; cases this
          | some p =>
            cases p with
            | nil => rfl
            | cons t q =>
              cases hk : κ t with
              | some j => rw [colC_arg h2 hk] at this; cases this
              | none => rw [colC_other h2 hk, hf] at this; cases this
        · rw [if_neg hq, hc]
      have back : ∀ (cx : Col), (∀ b, Quiet (cf b) → cx b = cf b) → ∀ (i j : Nat) (pt : List Nat), (∀ b q, col' b = some (j :: q) → cx b = some (i :: q)) → ∀ {s : S} {m : M} {x : El s} {ds : List Value}, (full = true → fullM s m = true) → Rep P s w' col' none (j :: pt) m x ds → Rep P s w' cx none (i :: pt) m x ds := by
        intro cx hcx i j pt hF s m x ds hfu HR
        cases hf : full
        · exact HR.re s ⟨le_refl _, fun b q _ hc _ => hF b (pt ++ q) hc, fun b q _ _ h1 h2 => (by rw [h1] at h2; cases h2), fun b _ hc => by have := F4 hf b hc; rw [hcx b (by rw [this]; exact .inr rfl)]; exact this, fun _ _ _ => rfl, Nat.le_refl _⟩
        · exact HR.full s (hfu hf) (fun b q hc => hF b (pt ++ q) hc)
      have hq1 : ∀ b, b < w.heap.size → Quiet (col2 b) → cf b = col2 b ∧ w'.heap[b]? = w.heap[b]? := fun b hb hq => by
        · have hq' : Quiet (colC col2 κ full b) := by
            rcases hq with h | h
            · rw [colC_none h]; exact .inl rfl
            · rw [colC_nil h]; exact .inr rfl
          exact ⟨(F1 b hb hq').1, (F1 b hb hq').2.1⟩
      have hq2 : ∀ b t q, b < w.heap.size → col2 b = some (t :: q) → (gs σ2 t).isRoot = true → cf b = col2 b ∧ w'.heap[b]? = w.heap[b]? := fun b t q hb hc ht => by
        · have hkt : κ t = none := by
            cases hk : κ t with
            | none => rfl
            | some i => rw [hdead t i hk] at ht; cases ht
          have hq' := colC_quiet (full := full) hc hkt
          exact ⟨(F1 b hb hq').1, (F1 b hb hq').2.1⟩
      have I3 : InvC P B cf σ2 a w' := I2.stays hfrm.out hfrm.sz hq1 hq2
      have hLR2 : LoanRel (fun r v => HoleU w' σ2 (Act.V a) r v ∧ ∀ j, ρ j ≠ some r) (Act.V a) σ.length ρ (loansL 0 σm.pm vs) (loanModes σm.pm) ls := by
        refine LoanRel.mono hLR (fun _ _ h => h) (fun r v hh => ⟨fun s m x hp e => ?_, fun j hj => ?_⟩)
        · obtain ⟨s1, m1, x1, p1, e1, hc⟩ := hh
          have e2 := hhol r s m x hp e
          rw [e1] at e2
          injection e2 with e3 e4 e5 e6
          subst e3
          have e5 := eq_of_heq e5
          subst e4; subst e5; subst e6
          obtain ⟨okq, c1, c2, oa, k1, k2, k3⟩ := hc
          exact ⟨okq, c1, c2, oa, k1, I2.way (fun b hb hq => (hq1 b hb hq).2) (fun b t q hb hc ht => (hq2 b t q hb hc ht).2) (.hol e (offH_self (.inr rfl))) k1 k2, k3⟩
        · obtain ⟨s1, m1, x1, p1, e1, _⟩ := hh
          have := H.dead r j ((H.iff r j).2 hj)
          rw [e1] at this; cases this
      have hfr : full = true → fullM σm.r σm.mr = true ∧ fullL (loanModes σm.pm) σm.lo = true := fun e => by
        rw [e] at hfull
        unfold isFull at hfull
        simpa using hfull
      obtain ⟨σ4, cx, I4, hk, hcx, hcd⟩ := giveBack_ok (full := full) (dst := o.dst) (colf := cf) (N := σ.length) (fun cx hcx j r hr hB s m x ds hfu HR => back cx hcx r j [] (fun b q hc => hB b q (F3 b j r q hr hc)) hfu HR)
        (fun i i' r h h' => by have h1 := (H.iff r i).2 h; have h2 := (H.iff r i').2 h'; rw [h1] at h2; injection h2) _ 0 _ _ _ _ I3 L2.1 (fun _ _ => rfl) (fun _ _ _ _ _ _ h => h) (fun _ _ _ _ h => h) (loansL_inc _ _ 0) hLR2 hloans (fun e => (hfr e).2) hso hk
      refine hG _ _ _ ⟨cx, (I.realias I4).fin fun d' hd => ?_⟩ hk
      have hdd : d = d' := by show o.dst.getD 0 = d'; rw [hd]; rfl
      have bk : ∀ (pt : List Nat) {s : S} {m : M} {x : El s} {ds : List Value}, (full = true → fullM s m = true) → Rep P s w' col' none (vs.length :: pt) m x ds → Rep P s w' cx none (d' :: pt) m x ds := by
        intro pt s m x ds hfu HR
        exact back cx hcx d' vs.length pt (fun b q hc => hcd d' hd b q (by rw [F2 b q hc, hdd])) hfu HR
      match hn : σm.nr with
      | 0 => trivial
      | 1 =>
        rw [hn] at hroot
        obtain ⟨cs', h1, h2⟩ := hroot
        exact ⟨cs', bk [] (fun e => (hfr e).1) h1, h2⟩
      | n + 2 =>
        rw [hn] at hroot
        obtain ⟨us, e, h⟩ := hroot
        refine ⟨us, e, fun i c hi => ?_⟩
        obtain ⟨u, cs', h1, h2, h3⟩ := h i c hi
        exact ⟨u, cs', h1, bk [i] (fun e => splitC_full _ _ _ _ (hfr e).1 i c hi) h2, h3⟩
end
end Go.Ev

noncomputable section
namespace Go.Ev
universe u
variable {P : Program}
section
variable {C : Ctx} {B : Base} {R : Type} {K : List Slot → Option R} {res : R} {next : Act → World → Prop} {Q : Exit → Act → World → Prop} {o : Oper} {σ : List Slot} {a : Act} {w : World} {col : Col}
theorem run_call {f : FuncId} {c : Call} {x : Operand} {cap : Array Value} (hco : CallOk P f) (hop : o.op = .call c) (hcal : c.callee = .value x) (hx : a.eval x = .func (.func f) #[] cap) :
    (execOp a.eval o).run P w = .ok (.enter f ((c.args.toList.map a.eval).toArray ++ cap)) w := by
  obtain ⟨fn, h1, h2, h3⟩ := hco
  have e : (c.args.toList.map a.eval).toArray = c.args.map a.eval := by apply Array.ext'; simp
  rw [e]
  have h3' : fn.name ≠ "runtime.NumGoroutine" := by simpa using h3
  have h2' : fn.body ≠ none := by intro e; rw [e] at h2; simp at h2
  simp [execOp, hop, resolve, hcal, hx, Deferred.ofValue, invoke, callFunc, h1, h2', h3']
theorem slotsOk (hC : CtxOk P C) (I : InvC P B col σ a w) : ∀ (l : List Operand) (ts : List TypeId), SlotsOk P w col σ a (slots C σ l ts) (l.map a.eval)
  | [], _ => trivial
  | o :: l, ts => ⟨I.rdo' hC _ o, slotsOk hC I l ts.tail⟩
theorem nth_mem {α : Type u} : ∀ (l : List α) (i : Nat) (x : α), nth l i = some x → x ∈ l
  | [], _, _, h => by simp [nth] at h
  | a :: l, 0, x, h => by simp [nth] at h; simp [h]
  | a :: l, i + 1, x, h => by simp [nth_mem l i x h]
theorem Call.ok (hC : CtxOk P C) (I : InvC P B col σ a w) (hG : Good P B K res next) {c : Call} {f : FuncId} {h : Nat} {σm : Sem} (hop : o.op = .call c) (hcal : c.callee = .value (.func f)) (hm : nth (C.env f) h = some σm)
    (he : callSem σ σm o.dst (slots C σ c.args.toList c.argTypes.toList) K = some res) : o.wp P a w next Q := by
  have hmem := nth_mem _ _ _ hm
  have hct := hC.env f σm hmem
  refine call_core I hG (cap := #[]) (slotsOk hC I _ _) (run_call (hC.code f σm hmem) hop hcal rfl) (fun col' cs _ h1 h2 k hk => ?_) he
  obtain ⟨y, l, g1, g2⟩ := hct w col' cs _ h1 h2 R k res hk
  exact ⟨y, l, g1, by simpa using g2⟩
theorem ArgsOk.path {w : World} {col : Col} : ∀ {j j' : Nat} {cs : List Comp} {vs : List Value}, ArgsOk P w col j cs vs → (∀ c ∈ cs, c.m = .sh) → ArgsOk P w col j' cs vs
  | _, _, [], [], _, _ => trivial
  | j, j', c :: cs, v :: vs, ⟨⟨ds, h1, h2⟩, h⟩, hm => ⟨⟨ds, by have := hm c (by simp); rw [this] at h1 ⊢; exact h1.path rfl, h2⟩, h.path (fun c' h' => hm c' (by simp [h']))⟩
  | _, _, [], _ :: _, h, _ => absurd h id
  | _, _, _ :: _, [], h, _ => absurd h id
theorem packArgs_ok : ∀ (p : S) {w : World} {col : Col} {j : Nat} {cs : List Comp} {vs : List Value} {x : El p}, ArgsOk P w col j cs vs → (∀ c ∈ cs, c.m = .sh) → packArgs p cs = some x → Args P p w col x vs := by
  intro p
  have single : ∀ (p : S) {w : World} {col : Col} {j : Nat} {cs : List Comp} {vs : List Value} {x : El p}, ArgsOk P w col j cs vs → (∀ c ∈ cs, c.m = .sh) →
      (match cs with | [c] => if h : c.s = p then some (h ▸ c.x : El p) else none | _ => none) = some x → one p (Rep P p) w col x vs := by
    intro p w col j cs vs x hA hm h
    match cs, vs, hA with
    | [c], [v], hA =>
      simp only at h
      split at h
      · rename_i e
        subst e
        simp only [Option.some.injEq] at h
        subst h
        obtain ⟨⟨ds, h1, h2⟩, _⟩ := hA
        have := hm c (by simp)
        rw [this] at h1
        exact ⟨v, ds, rfl, h1.path rfl, h2⟩
      · cases h
    | [], _, _ => cases h
    | _ :: _ :: _, _, _ => cases h
  induction p with
  | pair a b iha ihb =>
    intro w col j cs vs x hA hm h
    match cs, vs, hA with
    | c :: cs, v :: vs, hA =>
      simp only [packArgs] at h
      split at h
      · rename_i e
        subst e
        split at h
        · rename_i y hy
          simp only [Option.some.injEq] at h
          subst h
          obtain ⟨⟨ds, h1, h2⟩, hA⟩ := hA
          have := hm c (by simp)
          rw [this] at h1
          exact ⟨v, ds, vs, rfl, h1.path rfl, h2, ihb hA (fun c' h' => hm c' (by simp [h'])) hy⟩
        · cases h
      · cases h
    | [], _, _ => simp [packArgs] at h
  | unit =>
    intro w col j cs vs x hA hm h
    match cs, vs, hA with
    | [], [], _ => rfl
    | _ :: _, _, _ => simp [packArgs] at h
  | int k => intro w col j cs vs x hA hm h; exact single (.int k) hA hm (by cases cs with | nil => simp [packArgs] at h | cons c t => (cases t with | nil => exact h | cons _ _ => simp [packArgs] at h))
  | bool => intro w col j cs vs x hA hm h; exact single .bool hA hm (by cases cs with | nil => simp [packArgs] at h | cons c t => (cases t with | nil => exact h | cons _ _ => simp [packArgs] at h))
  | str => intro w col j cs vs x hA hm h; exact single .str hA hm (by cases cs with | nil => simp [packArgs] at h | cons c t => (cases t with | nil => exact h | cons _ _ => simp [packArgs] at h))
  | slice nl s => intro w col j cs vs x hA hm h; exact single (.slice nl s) hA hm (by cases cs with | nil => simp [packArgs] at h | cons c t => (cases t with | nil => exact h | cons _ _ => simp [packArgs] at h))
  | agg s => intro w col j cs vs x hA hm h; exact single (.agg s) hA hm (by cases cs with | nil => simp [packArgs] at h | cons c t => (cases t with | nil => exact h | cons _ _ => simp [packArgs] at h))
  | ptr s => intro w col j cs vs x hA hm h; exact single (.ptr s) hA hm (by cases cs with | nil => simp [packArgs] at h | cons c t => (cases t with | nil => exact h | cons _ _ => simp [packArgs] at h))
  | func a b => intro w col j cs vs x hA hm h; exact single (.func a b) hA hm (by cases cs with | nil => simp [packArgs] at h | cons c t => (cases t with | nil => exact h | cons _ _ => simp [packArgs] at h))
  | map a b => intro w col j cs vs x hA hm h; exact single (.map a b) hA hm (by cases cs with | nil => simp [packArgs] at h | cons c t => (cases t with | nil => exact h | cons _ _ => simp [packArgs] at h))
theorem shs_modes : ∀ {n : Nat} {cs : List Comp}, PMsOk (shs n) cs → ∀ c ∈ cs, c.m = .sh
  | 0, [], _, c, h => by simp at h
  | n + 1, c :: cs, h, c', h' => by
    rcases List.mem_cons.1 h' with rfl | h'
    · exact h.1
    · exact shs_modes h.2 c' h'
  | 0, _ :: _, h, _, _ => absurd h id
  | _ + 1, [], h, _, _ => absurd h id
theorem loansL_shs : ∀ (n j : Nat) (vs : List Value), loansL j (shs n) vs = []
  | 0, j, vs => by cases vs <;> rfl
  | n + 1, j, [] => rfl
  | n + 1, j, v :: vs => loansL_shs n (j + 1) vs
theorem CallFn.ok (hC : CtxOk P C) (I : InvC P B col σ a w) (hG : Good P B K res next) {c : Call} {x : Operand} (hop : o.op = .call c) (hcal : c.callee = .value x)
    (he : callFn σ o.dst ((Ev.rdo σ none x).cont σ) (slots C σ c.args.toList c.argTypes.toList) K = some res) : o.wp P a w next Q := by
  unfold callFn at he
  split at he
  · rename_i p r m g hc
    obtain ⟨hh, pth, cs, hno, hrep, hval⟩ := I.cont (I.rdo none x) hc
    obtain ⟨fid, cap, e, hco, hf⟩ := hole.get (show hole hh cs 1 (∃ fid cap, cs = [.func (.func fid) #[] cap] ∧ CallOk P fid ∧
      ∀ w' col', Frm w w' col → (∀ b, b < w.heap.size → col b = some [] → col' b = some []) → ∀ x vs, Args P p w' col' x vs → ∀ res, g x = some res → Calls P fid (vs.toArray ++ cap) w' fun e w'' =>
        ∃ v ds col'', e = .returned v ∧ IsVal r v ds ∧ FrmQ w' w'' col' col'' ∧ Rep P r w'' col'' none [] .sh res ds) from hrep) hno
    have hx : a.eval x = .func (.func fid) #[] cap := by
      have hval : cs = [a.eval x] := hval
      rw [e] at hval
      simp at hval
      exact hval.symm
    refine call_core I hG (σm := fnSem p r g) (slotsOk hC I _ _) (run_call hco hop hcal hx) (fun col' cs' hsh h1 h2 k hk => ?_) he
    have hm := shs_modes h1
    simp only [fnSem] at hk
    split at hk
    · rename_i x' hpa
      cases hg : g x' with
      | none => rw [hg] at hk; cases hk
      | some y =>
        rw [hg] at hk
        refine ⟨y, (), hk, ?_⟩
        refine (hf w col' ⟨Nat.le_refl _, fun _ _ _ => rfl⟩ hsh x' _ (packArgs_ok p h2 hm hpa) y hg).mono ?_
        rintro e' w'' ⟨v, ds, col'', rfl, hv, hfr, hr⟩
        refine ⟨v, col'', rfl, ⟨ds, hr.path rfl, hv⟩, ?_, hfr⟩
        show LoansOk P w'' col'' (loansL 0 (shs (nArgs p)) _) .unit ()
        rw [loansL_shs]
        trivial
    · cases hk
  · cases he
end
end Go.Ev

noncomputable section
namespace Go.Ev
variable {P : Program}
section
variable {C : Ctx} {B : Base} {R : Type} {K : List Slot → Option R} {res : R} {next : Act → World → Prop} {Q : Exit → Act → World → Prop} {o : Oper} {σ : List Slot} {a : Act} {w : World} {col : Col}
def IntOpd (a : Act) (o : Option Operand) (d n : Int) : Prop := match o with
  | some x => ∃ k, a.eval x = .int k n
  | none => n = d
theorem withIntO_some (I : InvC P B col σ a w) {o : Option Operand} {d : Int} {K1 : Int → Option R} (h : withIntO σ o d K1 = some res) : ∃ n, K1 n = some res ∧ IntOpd a o d n := by
  cases o with
  | none => exact ⟨d, h, rfl⟩
  | some x =>
    obtain ⟨k, m, n, h1, h2⟩ := withInt_some h
    exact ⟨n, h2, k, I.int (I.rdo none x) h1⟩
theorem run_bounds {b : Bool} {n c : Nat} {lo hi : Option Operand} {l h : Int} (hlo : IntOpd a lo 0 l) (hhi : IntOpd a hi n h) (h0 : 0 ≤ l) (h1 : l ≤ h) (h2 : h ≤ (c : Int)) :
    (Instr.sliceBounds b n c (lo.map a.eval) (hi.map a.eval) none).run P w = .ok (l.toNat, h.toNat, c) w := by
  have hh : ((h.toNat : Nat) : Int) = h := Int.toNat_of_nonneg (by omega)
  cases hi with
  | none =>
    have hhi : h = (n : Int) := hhi
    subst hhi
    cases lo with
    | none => have hlo : l = 0 := hlo; subst hlo; simp [Instr.sliceBounds]
    | some x =>
      obtain ⟨k, e⟩ := hlo
      have := run_sliceBound (P := P) w k l n .sliceB h0 h1
      simp [Instr.sliceBounds, e, this]
  | some y =>
    obtain ⟨k', e'⟩ := hhi
    have t1 := fun code => run_sliceBound (P := P) w k' h c code (by omega) h2
    cases lo with
    | none => have hlo : l = 0 := hlo; subst hlo; simp [Instr.sliceBounds, e', t1]
    | some x =>
      obtain ⟨k, e⟩ := hlo
      have := run_sliceBound (P := P) w k l h.toNat .sliceB h0 (by omega)
      simp [Instr.sliceBounds, e, e', t1, this]
theorem run_sliced {T e : TypeId} {s : S} {nl : Bool} (hu : P.underlying T = some (.slice e)) (hz : Fits P s e) {a0 : Option Addr} {n c : Nat} {lo hi : Option Operand} {l h : Int} (hlo : IntOpd a lo 0 l) (hhi : IntOpd a hi n h) (h0 : 0 ≤ l) (h1 : l ≤ h) (h2 : h ≤ (c : Int)) :
    (Instr.sliceAt T (.slice a0 n c) (lo.map a.eval) (hi.map a.eval) none).run P w = .ok (.slice (if c = l.toNat then a0 else a0.map (·.add (l.toNat * size s))) (h.toNat - l.toNat) (c - l.toNat)) w := by
  have hb := fun w => run_bounds (P := P) (w := w) (b := true) (n := n) hlo hhi h0 h1 h2
  simp [Instr.sliceAt, Instr.slice, run_underlying hu, hb, hz.sizeOf]
theorem slice_go (hC : CtxOk P C) (I : InvC P B col σ a w) (hG : Good P B K res next) {T : TypeId} {x : Operand} {lo hi : Option Operand} (hop : o.op = .slice T x lo hi none) {s : S} {m : M} {x0 : El s}
    (hx : OpdOk P w col σ a (a.eval x) (.val s m x0)) (he : sliceK C T σ (.val s m x0) lo hi (fun sl => K (fin σ o.dst sl)) = some res) : o.st P a w next := by
  unfold sliceK at he
  split at he
  · rename_i nl s m' xs heq
    injection heq with q1 q2 q3
    subst q1; subst q2
    have q3 := eq_of_heq q3
    obtain ⟨xs, hxs⟩ : ∃ xs : List (El s), xs = x0 := ⟨_, rfl⟩
    subst q3
    subst hxs
    obtain ⟨hF, he⟩ := chk_ok hC.ty he
    obtain ⟨⟨e, hu, hFe⟩, _⟩ := hF
    obtain ⟨l, he, hlo⟩ := withIntO_some I he
    obtain ⟨h, he, hhi⟩ := withIntO_some I he
    split at he
    · rename_i h0
      split at he
      · rename_i h1
        split at he
        · rename_i h2
          obtain ⟨cs, hr, hv, _⟩ := hx
          obtain ⟨a0, c, ev, es, k1, k2, k3, k4⟩ := Rep.slice_val hr (by simp) hv
          have hrun := fun w => run_sliced (P := P) (w := w) (nl := nl) hu hFe (a0 := a0) (c := c) hlo hhi h0 h1 (by omega)
          refine op_k1 (by rw [hop]; rfl) I hG (v := .slice (if c = l.toNat then a0 else a0.map (·.add (l.toNat * size s))) (h.toNat - l.toNat) (c - l.toNat)) ?_ (fun d => ?_) he
          · simp [execOp, hop, ev, hrun]
          · have hlen : ((xs.take h.toNat).drop l.toNat).length = h.toNat - l.toNat := by rw [List.length_drop, List.length_take]; omega
            refine ⟨[.slice (if c = l.toNat then a0 else a0.map (·.add (l.toNat * size s))) (h.toNat - l.toNat) (c - l.toNat)], ⟨_, c - l.toNat, by rw [hlen], by rw [hlen]; omega, fun h => (by cases h), fun h => ?_, fun ad had => ?_⟩, rfl⟩
            · have : a0 = none := by
                split at h
                · exact h
                · simpa using h
              obtain ⟨rfl, rfl⟩ := k3 this
              exact ⟨by simp, by omega⟩
            · obtain ⟨ad0, rfl, hb, hoff, hsp⟩ : ∃ ad0, a0 = some ad0 ∧ ad.block = ad0.block ∧ (h.toNat - l.toNat = 0 ∨ ad.off = ad0.off + l.toNat * size s) ∧ (c - l.toNat ≠ 0 → ad.spot = none) := by
                split at had
                · rename_i hc
                  exact ⟨ad, had, rfl, .inl (by omega), fun h => by omega⟩
                · cases a0 with
                  | none => simp at had
                  | some ad0 =>
                    have hs0 := (k4 ad0 rfl).1 (.inl (by omega))
                    simp only [Option.map_some, Option.some.injEq] at had
                    rw [addr_add hs0] at had
                    subst had
                    exact ⟨ad0, rfl, rfl, .inr rfl, fun _ => rfl⟩
              obtain ⟨_, _, g3, g4⟩ := k4 ad0 rfl
              refine ⟨fun h => h.elim hsp (fun h => by simp [isOw] at h), fun h => (by simp [isOw] at h), fun _ => ?_, fun i y hi => ?_⟩
              · rcases g3 rfl with g | g
                · subst g; exact .inl (by simp)
                · rw [hb]; exact .inr g
              · have hil : i < h.toNat - l.toNat := by
                  rw [← hlen]
                  rcases Nat.lt_or_ge i ((xs.take h.toNat).drop l.toNat).length with h | h
                  · exact h
                  · rw [List.getElem?_eq_none h] at hi; cases hi
                rw [List.getElem?_drop, List.getElem?_take_of_lt (by omega)] at hi
                obtain ⟨ds, j1, j2⟩ := g4 _ y hi
                refine ⟨ds, ?_, Rep.path j2 rfl⟩
                rcases hoff with hoff | hoff
                · omega
                · rw [hb, hoff]
                  rw [Nat.add_mul, ← Nat.add_assoc] at j1
                  exact j1
        · cases he
      · cases he
    · cases he
  · rename_i m' s0 heq
    injection heq with q1 q2 q3
    subst q1; subst q2
    have q3 := eq_of_heq q3
    subst q3
    obtain ⟨hF, he⟩ := chk_ok hC.ty he
    obtain ⟨l, he, hlo⟩ := withIntO_some I he
    obtain ⟨h, he, hhi⟩ := withIntO_some I he
    split at he
    · rename_i h0
      split at he
      · rename_i h1
        split at he
        · rename_i h2
          obtain ⟨cs, hr, hv, _⟩ := hx
          have ev := hr.str_val (by simp) hv
          have hb := fun w => run_bounds (P := P) (w := w) (b := false) (n := x0.size) (c := x0.size) hlo hhi h0 h1 h2
          refine op_k1 (by rw [hop]; rfl) I hG (v := .string (x0.extract l.toNat h.toNat)) ?_ (fun d => New_str d _) he
          have hu := hF.1
          simp [execOp, hop, ev, Instr.sliceAt, Instr.slice, run_underlying hu, hb]
        · cases he
      · cases he
    · cases he
  · cases he
theorem Slice.ok (hC : CtxOk P C) (I : InvC P B col σ a w) (hG : Good P B K res next) {T : TypeId} {x : Operand} {lo hi : Option Operand} {sT : Option S} (hop : o.op = .slice T x lo hi none)
    (he : sliceK C T σ (Ev.rdo σ sT x) lo hi (fun sl => K (fin σ o.dst sl)) = some res) : o.st P a w next := by
  have hx := I.rdo sT x
  generalize Ev.rdo σ sT x = slx at he hx
  cases slx with
  | val s m x0 => exact slice_go hC I hG hop hx he
  | _ => simp [sliceK] at he
theorem SliceFrz.ok (hC : CtxOk P C) (I : InvC P B col σ a w) (hG : Good P B K res next) {T : TypeId} {x : Operand} {lo hi : Option Operand} {sT : Option S} (hop : o.op = .slice T x lo hi none)
    (he : (match take σ true (Ev.rdo σ sT x) with
      | some (c, σ', _) => bif3 (noOwn c.m) (sliceK C T σ' (.val c.s .sh c.x) lo hi fun sl => K (fin σ' o.dst sl)) none
      | none => none) = some res) : o.wp P a w next Q := by
  have hx := I.rdo sT x
  generalize Ev.rdo σ sT x = slx at he hx
  split at he
  · rename_i c σ2 mr ht
    obtain ⟨hno, he⟩ := bif3_some he
    obtain ⟨col2, pth, cs, I2, L, hrep, hval, hf, _⟩ := take_ok (fz := true) I hx ht
    exact st_wp (slice_go hC I2 hG hop ⟨cs, Rep.toSh hrep hno, hval, .inl rfl⟩ he)
  · cases he
end
end Go.Ev

noncomputable section
namespace Go.Ev
variable {P : Program}
section
variable {C : Ctx} {B : Base} {R : Type} {K : List Slot → Option R} {res : R} {next : Act → World → Prop} {Q : Exit → Act → World → Prop} {o : Oper} {σ : List Slot} {a : Act} {w : World} {col : Col}
theorem isDead_eq {s : Slot} (h : isDead s = true) : s = .dead := by cases s <;> first | rfl | simp [isDead] at h
theorem SliceTake.ok (hC : CtxOk P C) (I : InvC P B col σ a w) (hG : Good P B K res next) {T : TypeId} {x : Operand} {lo hi : Option Operand} {sT : Option S} (hop : o.op = .slice T x lo hi none)
    (he : sliceTake C T σ o.dst (Ev.rdo σ sT x) lo hi K = some res) : o.wp P a w next Q := by
  have hx := I.rdo sT x
  generalize Ev.rdo σ sT x = slx at he hx
  unfold sliceTake at he
  split at he
  · rename_i d r hd
    split at he
    · rename_i nl s m xs hg
      obtain ⟨hF, he⟩ := chk_ok hC.ty he
      obtain ⟨⟨e, hu, hFe⟩, _⟩ := hF
      obtain ⟨hb, he⟩ := bif3_some he
      simp only [Bool.and_eq_true] at hb
      obtain ⟨⟨hdead, how⟩, hno⟩ := hb
      have hdead := isDead_eq hdead
      obtain ⟨l, he, hlo⟩ := withIntO_some I he
      obtain ⟨h, he, hhi⟩ := withIntO_some I he
      split at he
      · rename_i h0
        split at he
        · rename_i h1
          split at he
          · rename_i h2
            have hv := AlOk.self hg hx
            have hk := I.ok r
            rw [hg] at hk
            obtain ⟨cs, hr, hval⟩ := hk
            rw [← hv] at hval
            obtain ⟨a0, c, ev, es, k1, k2, k3, k4⟩ := Rep.slice_val hr (by simp) hval
            have hrun := run_sliced (P := P) (w := w) (nl := nl) hu hFe (a0 := a0) (c := c) hlo hhi h0 h1 (by omega)
            have hrd : gs (Ev.put σ r .dead) r = .dead := gs_put_dead
            have hfree : FreeX (Ev.put σ r .dead) [r] := .of (by rw [hrd]; rfl)
            have I2 := (I.dead r).recolX hfree (moveF [d])
            have hlen : ((xs.take h.toNat).drop l.toNat).length = h.toNat - l.toNat := by rw [List.length_drop, List.length_take]; omega
            rw [put_root (fun _ => rfl)] at he
            refine op_value (v := .slice (if c = l.toNat then a0 else a0.map (·.add (l.toNat * size s))) (h.toNat - l.toNat) (c - l.toNat)) (w' := w) (by simp [execOp, hop, ev, hrun]) (hG _ _ w ⟨reCol col (moveF [d]) [r], ?_⟩ he)
            rw [hd]
            refine I2.put (y := .val (.slice false s) m ((xs.take h.toNat).drop l.toNat)) ?_
            refine ⟨[.slice (if c = l.toNat then a0 else a0.map (·.add (l.toNat * size s))) (h.toNat - l.toNat) (c - l.toNat)], ⟨_, c - l.toNat, by rw [hlen], by rw [hlen]; omega, (fun h => by cases h), (fun h => ?_), (fun ad had => ?_)⟩, rfl⟩
            · have : a0 = none := by
                split at h
                · exact h
                · simpa using h
              obtain ⟨rfl, rfl⟩ := k3 this
              exact ⟨by simp, by omega⟩
            · obtain ⟨ad0, rfl, hb, hoff, hsp⟩ : ∃ ad0, a0 = some ad0 ∧ ad.block = ad0.block ∧ ((c - l.toNat = 0 ∧ ad.off = ad0.off) ∨ ad.off = ad0.off + l.toNat * size s) ∧ ad.spot = none := by
                split at had
                · rename_i hc
                  exact ⟨ad, had, rfl, .inl ⟨by omega, rfl⟩, (k4 ad had).1 (.inr how)⟩
                · cases a0 with
                  | none => simp at had
                  | some ad0 =>
                    have hs0 := (k4 ad0 rfl).1 (.inr how)
                    simp only [Option.map_some, Option.some.injEq] at had
                    rw [addr_add hs0] at had
                    subst had
                    exact ⟨ad0, rfl, rfl, .inr rfl, rfl⟩
              obtain ⟨_, g2, g3, g4⟩ := k4 ad0 rfl
              obtain ⟨gc, arr, t, ga, gb⟩ := g2 how
              refine ⟨fun _ => hsp, fun _ => ⟨?_, arr, t, by rw [hb]; exact ga, ?_⟩, fun h => (by rw [how] at h; cases h), fun i y hi => ?_⟩
              · rw [hb, reCol_own col _ [r] [] (by rw [gc]; rfl)]; rfl
              · have hmul : (c - l.toNat) * size s + l.toNat * size s = c * size s := by rw [← Nat.add_mul]; congr 1; omega
                rcases hoff with ⟨hz, hoff⟩ | hoff
                · rw [hz, hoff]; omega
                · rw [hoff]; omega
              · have hil : i < h.toNat - l.toNat := by
                  rw [← hlen]
                  rcases Nat.lt_or_ge i ((xs.take h.toNat).drop l.toNat).length with h | h
                  · exact h
                  · rw [List.getElem?_eq_none h] at hi; cases hi
                rw [List.getElem?_drop, List.getElem?_take_of_lt (by omega)] at hi
                obtain ⟨ds, j1, j2⟩ := g4 _ y hi
                refine ⟨ds, ?_, Rep.shared j2 hno (fun b _ hc => by rw [reCol_quiet _ _ (by simp) (.inr hc)]; exact hc)⟩
                rcases hoff with hoff | hoff
                · omega
                · rw [hb, hoff]
                  rw [Nat.add_mul, ← Nat.add_assoc] at j1
                  exact j1
          · cases he
        · cases he
      · cases he
    · cases he
  · cases he
theorem capsIn_ok {col2 : Col} {σ2 : List Slot} (I2 : InvC P B col2 σ2 a w) (L : Less σ σ2) (hsh : ∀ b, b < w.heap.size → col b = some [] → col2 b = some []) : ∀ (sls : List Slot) (vs : List Value) {cs : List Comp},
    SlotsOk P w col σ a sls vs → capsIn σ2 sls = some cs → CapsOk P w col2 cs vs
  | [], [], cs, _, h => by simp only [capsIn, Option.some.injEq] at h; subst h; trivial
  | sl :: sls, v :: vs, cs, hs, h => by
    simp only [capsIn] at h
    split at h
    · rename_i c cs' h1 h2
      simp only [Option.some.injEq] at h
      subst h
      obtain ⟨hm, ds, pth, m0, k1, k2, k3⟩ := inArg_ok I2 (show LessW σ σ2 from ⟨L.1, fun t => .inl (L.2 t)⟩) hsh hs.1 h1
      refine ⟨⟨hm, ds, ?_, k2⟩, capsIn_ok I2 L hsh sls vs hs.2 h2⟩
      rcases k3 with k3 | ⟨k3, _⟩
      · exact k1.toSh k3
      · cases k3
    · cases h
  | [], _ :: _, _, h, _ => absurd h id
  | _ :: _, [], _, h, _ => absurd h id
theorem opds_ok (I : InvC P B col σ a w) : ∀ l : List Operand, SlotsOk P w col σ a (opds σ l) (l.map a.eval)
  | [] => trivial
  | o :: l => ⟨I.rdo none o, opds_ok I l⟩
theorem MakeFunc.ok (hC : CtxOk P C) (I : InvC P B col σ a w) (hG : Good P B K res next) {f : Nat} {first caps : Array Operand} {sT : Option S} (hop : o.op = .makeFunc (.func f) first caps)
    (he : bif3 (first.toList.isEmpty) (match capsIn (frzArgs σ (shs caps.toList.length) (opds σ caps.toList)) (opds σ caps.toList) with
    | some cs => K (fin (frzArgs σ (shs caps.toList.length) (opds σ caps.toList)) o.dst (funcSlot C sT f cs))
    | none => none) none = some res) : o.wp P a w next Q := by
  obtain ⟨hf, he⟩ := bif3_some he
  have hfirst : first = #[] := by
    have : first.toList = [] := by simpa using hf
    exact Array.ext' this
  obtain ⟨col2, I2, L, _, hsh, _⟩ := frzArgs_ok (shs caps.toList.length) (opds σ caps.toList) I
  split at he
  · rename_i cs hcs
    have hcap := capsIn_ok I2 L hsh _ _ (opds_ok I caps.toList) hcs
    have hfun := funcSlot_ok (σ := frzArgs σ (shs caps.toList.length) (opds σ caps.toList)) (a := a) (sT := sT) (f := f) hC hcap
    refine op_value (v := .func (.func f) #[] (caps.toList.map a.eval).toArray) (w' := w) ?_ (hG _ _ _ ⟨col2, I2.fin fun d _ => OpdOk.new hfun d⟩ he)
    have e : (caps.toList.map a.eval).toArray = caps.map a.eval := by apply Array.ext'; simp
    rw [e]
    simp [execOp, hop, Instr.makeFunc, hfirst]
  · cases he
theorem fold_ints {w0 : World} (hC : CtxOk P C) (I : InvC P B col σ a w) {f : Int → Int → Int} {g : Value → Value → _root_.Go.Sem Value} (hg : ∀ k x y, g (.int k x) (.int k y) = pure (.int k (f x y))) {k : IntKind} : ∀ (os : List Operand) (ts : List TypeId) {cs : List Comp} {x y : Int}, comps C σ os ts = some cs → foldInts f k x cs = some y →
    ((os.map a.eval).foldlM g (.int k x)).run P w0 = .ok (.int k y) w0
  | [], ts, cs, x, y, h, h' => by
    simp only [comps, Option.some.injEq] at h
    subst h
    simp only [foldInts, Option.some.injEq] at h'
    subst h'
    rfl
  | o :: os, ts, cs, x, y, h, h' => by
    simp only [comps] at h
    split at h
    · rename_i c cs' hw hrest
      simp only [Option.some.injEq] at h
      subst h
      obtain ⟨pth, ds, h1, h2⟩ := I.whole (I.rdo' hC _ o) hw
      obtain ⟨s, m, z⟩ := c
      simp only at h1 h2 h'
      unfold foldInts at h'
      split at h'
      · rename_i heq; cases heq
      · rename_i k' m' b cs2 heq
        injection heq with e1 e2
        injection e1 with q1 q2 q3
        subst q1; subst e2
        have q3 := eq_of_heq q3
        subst q3
        obtain ⟨hk, h'⟩ := bif3_some h'
        have hk : k = k' := by simpa using hk
        subst hk
        have ev := h1.int_val (by simp) h2
        have ih := fold_ints (w0 := w0) hC I hg os ts.tail hrest h'
        simp only [List.map_cons, List.foldlM_cons, ev, hg, pure_bind]
        exact ih
      · cases h'
    · cases h
theorem Max.ok (hC : CtxOk P C) (I : InvC P B col σ a w) (hG : Good P B K res next) {c : Call} {b : Builtin} {f : Int → Int → Int} (hop : o.op = .call c) (hcal : c.callee = .builtin b) (hb : (b = .max ∧ f = mx) ∨ (b = .min ∧ f = mn))
    (he : maxK f (comps C σ c.args.toList c.argTypes.toList) (fun sl => K (fin σ o.dst sl)) = some res) : o.st P a w next := by
  unfold maxK at he
  split at he
  · rename_i k m x cs hcs
    split at he
    · rename_i y hy
      cases hargs : c.args.toList with
      | nil => rw [hargs] at hcs; simp [comps] at hcs
      | cons o1 os =>
        rw [hargs] at hcs
        simp only [comps] at hcs
        split at hcs
        · rename_i c1 cs' hw hrest
          simp only [Option.some.injEq, List.cons.injEq] at hcs
          obtain ⟨e1, e2⟩ := hcs
          subst e2
          obtain ⟨pth, ds, h1, h2⟩ := I.whole (I.rdo' hC _ o1) hw
          obtain ⟨s1, m1, z⟩ := c1
          injection e1 with q1 q2 q3
          simp only at q1 q3
          subst q1
          have q3 := eq_of_heq q3
          subst q3
          have ev := h1.int_val (by simp) h2
          have hargs2 : (c.args.map a.eval).toList = a.eval o1 :: os.map a.eval := by simp [hargs]
          refine op_k1 (by rw [hop]; rfl) I hG (v := .int k y) ?_ (fun d => New_int d _ _) he
          rcases hb with ⟨rfl, rfl⟩ | ⟨rfl, rfl⟩
          · have := fun w0 => fold_ints (w0 := w0) (g := Builtin.max2) hC I (fun k x y => by simp [Builtin.max2, mx]) os _ hrest hy
            simp [execOp, hop, resolve, hcal, invoke, builtin, Builtin.max_, hargs2, hargs, ev, this]
          · have := fun w0 => fold_ints (w0 := w0) (g := Builtin.min2) hC I (fun k x y => by simp [Builtin.min2, mn]) os _ hrest hy
            simp [execOp, hop, resolve, hcal, invoke, builtin, Builtin.min_, hargs2, hargs, ev, this]
        · cases hcs
    · cases he
  · cases he
end
end Go.Ev
